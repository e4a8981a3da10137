/-
  number, lay, bytes, Encode: as the chapter's example wants them.
-/
import Derived.Test.YtfoolgojcmkdbaaOwn
import Derived.Test.YtfoolgojcmkdbaaCheck
import Derived.Laws.IdiomStrings
set_option maxHeartbeats 1000000
namespace Go.Proofs
open Go.RowKit
theorem Try.info5 : (Try.prog.info? 5).map (fun i => (i.zero, i.size, i.bytes)) = some (some (.int .u8 0), 1, 1) := by kernel_rfl
namespace Ytfoolgojcmkdbaa
attribute [local go_sem ↓] Go.wp_at_zero Go.wp_at_succ
def bcs (b : UInt8) : List Value := [.int .u8 (b.toNat : Int)]
theorem encB : Enc 1 bcs := ⟨fun _ => rfl, fun x u hu => by
  simp only [bcs, List.mem_cons, List.not_mem_nil, or_false] at hu
  subst hu
  rfl⟩
abbrev ByO (w : World) (base : Nat) (v : Value) (l : List UInt8) : Prop := RowN 1 bcs w base 5 v l
abbrev ByR (w : World) (v : Value) (l : List UInt8) : Prop := RdK 1 bcs w v l
/-- Bytes as they are built for an append of one. -/
theorem one_rd (w : World) (x : UInt8) : ByR (w.alloc (.cells #[.int .u8 (x.toNat : Int)] 5)) (.slice (some ⟨w.heap.size, 0, none⟩) 1 1) [x] := by
  have h : ByO (w.alloc (.cells #[.int .u8 (x.toNat : Int)] 5)) 0 (.slice (some ⟨w.heap.size, 0, none⟩) 1 1) [x] := .inr ⟨w.heap.size, 1, _, rfl, Nat.zero_le _, Blk.new w 5 _, Nat.le_refl _, by simp, by simp [maxLen], by simp [bcs]⟩
  exact h.rd encB
theorem run_append46 {w : World} {base : Nat} {v x : Value} {l m : List UInt8} (h : ByO w base v l) (hx : ByR w x m) (hb : l.length + m.length ≤ 100000) (hbase : base ≤ w.heap.size) :
    ∃ A c w', (Builtin.append_ #[46, 46] 46 #[v, x]).run Try.prog w = .ok (.slice A (l ++ m).length c) w' ∧ Hid (ByO w' base (.slice A (l ++ m).length c) (l ++ m)) ∧ Hid (Kept (fun b => v.ownBlock ≠ some b) w w') ∧ Hid (∀ g, (Value.slice A (l ++ m).length c).ownBlock = some g → v.ownBlock = some g ∨ w.heap.size ≤ g) := by
  obtain ⟨v', w', hr, ho, hk, how, _⟩ := run_append_rowN (P := Try.prog) (t := 46) (ty := 46) encB (by omega) Try.underlying46 Try.info5 rfl h hx (by simp [maxLen]; omega) (by omega) hbase
  obtain ⟨A, c, rfl⟩ := ho.form
  refine ⟨A, c, w', hr, Lib.hid ho, Lib.hid hk, Lib.hid fun g hg => ?_⟩
  rcases how with h1 | h1
  · exact .inl (h1 ▸ hg)
  · rw [h1] at hg
    injection hg with hg
    exact .inr (Nat.le_of_eq hg)
theorem number_any (s : Nat) (hs : s ≤ 2) (w : World) : Calls Try.prog 50 #[.int .i64 0, .int .i64 s] w fun e w' => ∃ A c, e = .returned (.slice A s c) ∧ Hid (ByO w' w.heap.size (.slice A s c) (List.replicate s 0)) ∧ Kept (fun _ => True) w w' := by
  go_enter Try.func50, Try.ntmps50
  go_wp2_with fail
  go_loopw [5, 6, 8] (fun s5 _ s8 wr => ∃ (k : Nat) (A : Option Addr) (c : Nat), k ≤ s ∧ s8 = .int .i64 k ∧ s5 = .slice A k c ∧ Hid (ByO wr w.heap.size (.slice A k c) (List.replicate k 0)) ∧ Hid (Kept (fun b => b < w.heap.size) w wr)) (fun _ _ s8 _ => s - (intOf s8).toNat)
  case atStart => exact ⟨0, none, 0, Nat.zero_le _, rfl, rfl, Lib.hid (RowN.nil _ _ _), Lib.hid (Kept.refl _ _)⟩
  case round =>
    obtain ⟨k, A, c, hk, rfl, rfl, HO, BW⟩ := hrel
    by_cases hlt : k < s
    · have hltz : (k : Int) < (s : Int) := by omega
      have k1 : Kept (fun _ => True) wr (wr.alloc (.cells #[.int .u8 0] 5)) := (Kept.refl _ wr).alloc _
      have hsz : w.heap.size ≤ wr.heap.size := BW.out.size
      have ho := HO.out.all k1
      obtain ⟨A', c', w', hr, HO', HK', _⟩ := run_append46 (m := [0]) ho (show ByR (wr.alloc (.cells #[.int .u8 0] 5)) (.slice (some ⟨wr.heap.size, 0, none⟩) 1 1) [0] from one_rd wr 0) (by simp; omega) (by have := k1.size; omega)
      have e0 : List.replicate k (0 : UInt8) ++ [0] = List.replicate (k + 1) 0 := (List.replicate_succ' ..).symm
      rw [e0] at HO' hr
      rw [List.length_replicate] at HO' hr
      have HB := Lib.hid ((BW.out.trans (k1.mono fun _ _ _ => trivial)).trans' HK'.out fun b hb hlt e => by
        have := ho.lt e
        omega)
      clear ho k1 e0
      have hcase : k = 0 ∨ k = 1 := by omega
      rcases hcase with rfl | rfl
      · go_wp2_with (at_builtin; refine wpList_append_run rfl (.tmp 11) (.tmp 17) 46 rfl rfl rfl hr ?_)
        go_roundw
        case measure => simp [intOf]; omega
        case rel => exact ⟨0 + 1, A', c', by omega, by simp, rfl, HO', HB⟩
      · go_wp2_with (at_builtin; refine wpList_append_run rfl (.tmp 11) (.tmp 17) 46 rfl rfl rfl hr ?_)
        go_roundw
        case measure => simp [intOf]; omega
        case rel => exact ⟨1 + 1, A', c', by omega, by simp, rfl, HO', HB⟩
    · have hltz : ¬ (k : Int) < (s : Int) := by omega
      have : k = s := by omega
      subst this
      go_wp2_with fail
      go_ret
      exact ⟨A, c, rfl, HO, ⟨BW.out.os, BW.out.tape, BW.out.output, BW.out.size, fun b hb _ => BW.out.block b hb hb⟩⟩
theorem cell_lt' {w : World} {b o : Nat} {v : Value} (h : w.cell? ⟨b, o, none⟩ = some v) : b < w.heap.size := by
  rcases Nat.lt_or_ge b w.heap.size with h1 | h1
  · exact h1
  · simp [World.cell?, Array.getElem?_eq_none h1] at h
/-- An append whose two arguments are of unlike types, its run known. -/
theorem wpList_append_run2 {P : Program} {w : World} {ops : Array Oper} {rest : List Oper} {o : Oper} {a : Act} {Q : Exit → Act → World → Prop} (hgd : o.guard = none) (s x : Operand) (t t' : TypeId)
    (ho : o.op = .call { callee := .builtin .append, args := #[s, x], argTypes := #[t, t'] }) {vs vx v' : Value} {w' : World} (hs : a.eval s = vs) (hx : a.eval x = vx)
    (hr : (Builtin.append_ #[t, t'] o.type #[vs, vx]).run P w = .ok v' w') (h : wpList P ops Q rest (a.put o.dst v') w') : wpList P ops Q (o :: rest) a w :=
  wpList_plain hgd fun _ hK => by
    unfold Oper.wp execOp
    simp only [ho, resolve, invoke, builtin, Sem.run_bind, Sem.run_pure, Result.andThen_ok, List.map_toArray, List.map_cons, List.map_nil, hs, hx, hr]
    exact hK _ _ h
theorem run_append46s {w : World} {base : Nat} {v : Value} {l : List UInt8} (h : ByO w base v l) : (Builtin.append_ #[46, 9] 46 #[v, .string ⟨#[]⟩]).run Try.prog w = .ok v w := by
  obtain ⟨i, hi0, hz0, hs1, hb1⟩ := info_parts Try.info5
  have hle : ∃ A n c, v = .slice A n c ∧ n ≤ c := by
    rcases h with ⟨rfl, rfl⟩ | ⟨g, cap, cur, hv, _, _, hnc, _⟩
    · exact ⟨_, _, _, rfl, Nat.le_refl _⟩
    · exact ⟨_, _, _, hv, hnc⟩
  obtain ⟨A, n, c, rfl, hle⟩ := hle
  exact run_append_nothing (P := Try.prog) w 46 9 46 5 i Try.underlying46 hi0 A n c hle _ (by rw [hs1]; exact Src.ofString w Try.underlying9 ⟨#[]⟩)
/-- What five pieces come to. -/
def outs : List (List UInt8) := [[1], [0], [0], [0, 0], [0]]
/-- The pieces of the example's page: true, two empty texts, two bytes, one byte. -/
structure Pieces (w : World) (pb : Nat) (v3 v4 : Value) : Prop where
  c0 : w.cell? ⟨pb, 0, none⟩ = some (.iface 4 (.bool true))
  c1 : w.cell? ⟨pb, 1, none⟩ = some (.iface 9 (.string ⟨#[]⟩))
  c2 : w.cell? ⟨pb, 2, none⟩ = some (.iface 9 (.string ⟨#[]⟩))
  c3 : w.cell? ⟨pb, 3, none⟩ = some (.iface 46 v3)
  c4 : w.cell? ⟨pb, 4, none⟩ = some (.iface 46 v4)
  r3 : ByR w v3 [0, 0]
  r4 : ByR w v4 [0]
/-- What lies in b when k pieces are laid. -/
def pre (xs : List UInt8) (k : Nat) : List UInt8 := xs ++ (outs.take k).flatten
theorem pre_step (xs : List UInt8) (k : Nat) (m : List UInt8) (h : outs[k]? = some m) : pre xs (k + 1) = pre xs k ++ m := by
  unfold pre
  rw [List.take_add_one, h]
  simp
theorem pre_len (xs : List UInt8) (k : Nat) : (pre xs k).length ≤ xs.length + 6 := by
  have h : ∀ k, ((outs.take k).flatten).length ≤ 6 := fun k => by
    match k with
    | 0 => decide
    | 1 => decide
    | 2 => decide
    | 3 => decide
    | 4 => decide
    | k + 5 => rw [List.take_of_length_le (by simp [outs])]; decide
  have := h k
  unfold pre
  rw [List.length_append]
  omega
/-- After some pieces: the bytes, and what is as it was. -/
structure LayInv (w wr : World) (base : Nat) (bv v : Value) (l : List UInt8) : Prop where
  row : ByO wr base v l
  kept : Kept (fun b => bv.ownBlock ≠ some b) w wr
  own : ∀ g, v.ownBlock = some g → bv.ownBlock = some g ∨ w.heap.size ≤ g
theorem LayInv.alloc {w wr : World} {base : Nat} {bv v : Value} {l : List UInt8} (h : LayInv w wr base bv v l) (o : Obj) : LayInv w (wr.alloc o) base bv v l :=
  ⟨h.row.all ((Kept.refl _ wr).alloc o), h.kept.alloc o, h.own⟩
theorem LayInv.app {w wr : World} {base : Nat} {bv v x : Value} {l m : List UInt8} (h : LayInv w wr base bv v l) (hx : ByR wr x m) (hb : l.length + m.length ≤ 100000) (hbase : base ≤ w.heap.size) :
    ∃ A c w', (Builtin.append_ #[46, 46] 46 #[v, x]).run Try.prog wr = .ok (.slice A (l ++ m).length c) w' ∧ Hid (LayInv w w' base bv (.slice A (l ++ m).length c) (l ++ m)) := by
  obtain ⟨A, c, w', hr, HO, HK, HW⟩ := run_append46 h.row hx hb (Nat.le_trans hbase h.kept.size)
  have hs := h.kept.size
  refine ⟨A, c, w', hr, Lib.hid ⟨HO.out, h.kept.trans' HK.out fun b hb hbv e => ?_, fun g hg => ?_⟩⟩
  · rcases h.own b e with h1 | h1
    · exact hbv h1
    · omega
  · rcases HW.out g hg with h1 | h1
    · exact h.own g h1
    · exact .inr (by omega)
theorem lay_any (w : World) (base : Nat) {A : Option Addr} {c : Nat} {xs : List UInt8} (ho : ByO w base (.slice A xs.length c) xs) (hxs : xs.length ≤ 1000) {pb : Nat} {A3 A4 : Option Addr} {c3 c4 : Nat} (hp : Pieces w pb (.slice A3 2 c3) (.slice A4 1 c4))
    (hap : ∀ g, (Value.slice A xs.length c).ownBlock = some g → pb ≠ g ∧ (Value.slice A3 2 c3).ownBlock ≠ some g ∧ (Value.slice A4 1 c4).ownBlock ≠ some g) (hbase : base ≤ w.heap.size) :
    Calls Try.prog 49 #[.slice A xs.length c, .slice (some ⟨pb, 0, none⟩) 5 5] w fun e w' => ∃ A' c', e = .returned (.slice A' (xs ++ outs.flatten).length c') ∧ Hid (ByO w' base (.slice A' (xs ++ outs.flatten).length c') (xs ++ outs.flatten)) ∧ Kept (fun b => b < base) w w' := by
  obtain ⟨bv, hbv⟩ : ∃ bv, Value.slice A xs.length c = bv := ⟨_, rfl⟩
  rw [hbv] at hap ho
  have HAP := Lib.hid hap
  have HO := Lib.hid ho
  have HP := Lib.hid hp
  have hlow : Hid (∀ g, bv.ownBlock = some g → base ≤ g) := Lib.hid fun g hg => (ho.lt hg).2
  have HBV := Lib.hid hbv
  clear hap ho hp hbv
  have y9 : ∀ (W : World) (v : Value), (Instr.typeAssert (.iface 9 v) 20 9 true).run Try.prog W = .ok (.tuple #[v, .bool true]) W := fun W v => by kernel_rfl
  have y46 : ∀ (W : World) (v : Value), (Instr.typeAssert (.iface 46 v) 20 46 true).run Try.prog W = .ok (.tuple #[v, .bool true]) W := fun W v => by kernel_rfl
  have y4 : ∀ (W : World) (v : Value), (Instr.typeAssert (.iface 4 v) 20 4 true).run Try.prog W = .ok (.tuple #[v, .bool true]) W := fun W v => by kernel_rfl
  have n49 : ∀ (W : World) (v : Value), (Instr.typeAssert (.iface 4 v) 20 9 true).run Try.prog W = .ok (.tuple #[.string ⟨#[]⟩, .bool false]) W := fun W v => by kernel_rfl
  have n469 : ∀ (W : World) (v : Value), (Instr.typeAssert (.iface 46 v) 20 9 true).run Try.prog W = .ok (.tuple #[.string ⟨#[]⟩, .bool false]) W := fun W v => by kernel_rfl
  have n446 : ∀ (W : World) (v : Value), (Instr.typeAssert (.iface 4 v) 20 46 true).run Try.prog W = .ok (.tuple #[.slice none 0 0, .bool false]) W := fun W v => by kernel_rfl
  go_enter Try.func49, Try.ntmps49
  go_wp2_with fail
  go_loopw [0, 6, 7, 8, 9, 12] (fun s0 _ _ _ _ s12 wr => ∃ (k : Nat) (A' : Option Addr) (c' : Nat), k ≤ 5 ∧ s12 = .int .i64 k ∧ s0 = .slice A' (pre xs k).length c' ∧ Hid (LayInv w wr base bv (.slice A' (pre xs k).length c') (pre xs k))) (fun _ _ _ _ _ s12 _ => 5 - (intOf s12).toNat)
  case atStart =>
    have e0 : pre xs 0 = xs := by simp [pre]
    exact ⟨0, A, c, by omega, rfl, by rw [e0], Lib.hid (by rw [e0, HBV.out]; exact ⟨HO.out, Kept.refl _ _, fun g hg => .inl hg⟩)⟩
  case round =>
    obtain ⟨k, A', c', hk, rfl, rfl, HI⟩ := hrel
    by_cases hlt : k < 5
    · have hpl := pre_len xs k
      have kw := HI.out.kept
      have hcell : ∀ {o : Nat} {v : Value}, w.cell? ⟨pb, o, none⟩ = some v → wr.cell? ⟨pb, o, none⟩ = some v := fun h => (kw.cell (p := ⟨pb, _, none⟩) (cell_lt' h) (fun e => (HAP.out pb e).1 rfl)).trans h
      have p0 := hcell HP.out.c0
      have p1 := hcell HP.out.c1
      have p2 := hcell HP.out.c2
      have p3 := hcell HP.out.c3
      have p4 := hcell HP.out.c4
      have R3 := Lib.hid (HP.out.r3.kept kw fun _ g hg e => (HAP.out g e).2.1 hg)
      have R4 := Lib.hid (HP.out.r4.kept kw fun _ g hg e => (HAP.out g e).2.2 hg)
      clear hcell kw
      have hcase : k = 0 ∨ k = 1 ∨ k = 2 ∨ k = 3 ∨ k = 4 := by omega
      rcases hcase with rfl | rfl | rfl | rfl | rfl
      · obtain ⟨A2, c2, w2, hr, HI2⟩ := (HI.out.alloc (.cells #[.int .u8 1] 5)).app (m := [1]) (show ByR (wr.alloc (.cells #[.int .u8 1] 5)) (.slice (some ⟨wr.heap.size, 0, none⟩) 1 1) [1] from one_rd wr 1) (by simp; omega) hbase
        rw [← pre_step xs 0 [1] rfl] at hr HI2
        go_wp2_with (at_builtin; refine wpList_append_run rfl (.tmp 38) (.tmp 39) 46 rfl rfl rfl hr ?_)
        go_roundw
        case measure => simp [intOf]
        case rel => exact ⟨0 + 1, A2, c2, by omega, by simp, rfl, HI2⟩
      · obtain ⟨A2, c2, w2, hr, HI2⟩ := (HI.out.alloc (.cells #[.int .u8 0] 5)).app (m := [0]) (show ByR (wr.alloc (.cells #[.int .u8 0] 5)) (.slice (some ⟨wr.heap.size, 0, none⟩) 1 1) [0] from one_rd wr 0) (by simp; omega) hbase
        rw [← pre_step xs 1 [0] rfl] at hr HI2
        have hs := run_append46s HI2.out.row
        go_wp2_with (at_builtin; first | refine wpList_append_run rfl (.tmp 20) (.tmp 24) 46 rfl rfl rfl hr ?_ | refine wpList_append_run2 rfl (.tmp 25) (.tmp 26) 46 9 rfl rfl rfl hs ?_)
        go_roundw
        case measure => simp [intOf]
        case rel => exact ⟨1 + 1, A2, c2, by omega, by simp, rfl, HI2⟩
      · obtain ⟨A2, c2, w2, hr, HI2⟩ := (HI.out.alloc (.cells #[.int .u8 0] 5)).app (m := [0]) (show ByR (wr.alloc (.cells #[.int .u8 0] 5)) (.slice (some ⟨wr.heap.size, 0, none⟩) 1 1) [0] from one_rd wr 0) (by simp; omega) hbase
        rw [← pre_step xs 2 [0] rfl] at hr HI2
        have hs := run_append46s HI2.out.row
        go_wp2_with (at_builtin; first | refine wpList_append_run rfl (.tmp 20) (.tmp 24) 46 rfl rfl rfl hr ?_ | refine wpList_append_run2 rfl (.tmp 25) (.tmp 26) 46 9 rfl rfl rfl hs ?_)
        go_roundw
        case measure => simp [intOf]
        case rel => exact ⟨2 + 1, A2, c2, by omega, by simp, rfl, HI2⟩
      · obtain ⟨A2, c2, w2, hr, HI2⟩ := HI.out.app R3.out (by simp; omega) hbase
        rw [← pre_step xs 3 [0, 0] rfl] at hr HI2
        go_wp2_with (at_builtin; refine wpList_append_run rfl (.tmp 31) (.tmp 32) 46 rfl rfl rfl hr ?_)
        go_roundw
        case measure => simp [intOf]
        case rel => exact ⟨3 + 1, A2, c2, by omega, by simp, rfl, HI2⟩
      · obtain ⟨A2, c2, w2, hr, HI2⟩ := HI.out.app R4.out (by simp; omega) hbase
        rw [← pre_step xs 4 [0] rfl] at hr HI2
        go_wp2_with (at_builtin; refine wpList_append_run rfl (.tmp 31) (.tmp 32) 46 rfl rfl rfl hr ?_)
        go_roundw
        case measure => simp [intOf]
        case rel => exact ⟨4 + 1, A2, c2, by omega, by simp, rfl, HI2⟩
    · have : k = 5 := by omega
      subst this
      have e5 : pre xs 5 = xs ++ outs.flatten := by simp [pre, outs]
      rw [e5] at HI
      go_wp2_with fail
      go_ret
      exact ⟨A', c', by rw [e5]; rfl, Lib.hid HI.out.row, HI.out.kept.mono fun b _ hb e => by
        have := hlow.out b e
        omega⟩
end Ytfoolgojcmkdbaa
end Go.Proofs
