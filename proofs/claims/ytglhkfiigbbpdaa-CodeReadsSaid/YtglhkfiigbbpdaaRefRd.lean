/-
  The reference's reader: Open, Num.
-/
import Derived.Test.YtglhkfiigbbpdaaRefNum
import Derived.Test.YtglhkfiigbbpdaaWriter
import Derived.Deep.RegionHeld3
import Derived.Deep.DeepCutAuto
set_option maxHeartbeats 1000000
namespace Go.Proofs
open Go.RowKit
theorem Try.cells58 : Try.prog.cellsOf 58 = 3 := by kernel_rfl
namespace Ytglhkfiigbbpdaa
attribute [local go_sem ↓] Go.wp_at_zero Go.wp_at_succ
/-- The reference's reader in memory: all the bytes L, the place in them, the error. -/
structure QRd (w : World) (base qb : Nat) (v : Value) (L : List UInt8) (at_ : Nat) (e : Int) : Prop where
  blk : Blk w qb 58 #[v, .int .i64 (at_ : Int), .int .i64 e]
  row : Row1 w base 5 v (bc L)
  low : base ≤ qb
  le : at_ ≤ L.length
  len : L.length ≤ 140737488355328
section
variable {w w' : World} {base qb : Nat} {v : Value} {L : List UInt8} {at_ : Nat} {e : Int}
theorem QRd.kept (h : QRd w base qb v L at_ e) (hk : Kept (wfoot qb v) w w') : QRd w' base qb v L at_ e :=
  ⟨h.blk.kept hk (.inl rfl), h.row.kept hk fun _ hg => .inr hg, h.low, h.le, h.len⟩
theorem QRd.foot_lt (h : QRd w base qb v L at_ e) : ∀ b, wfoot qb v b → b < w.heap.size := by
  rintro b (rfl | hb)
  · exact h.blk.lt
  · exact (h.row.lt hb).1
theorem QRd.foot_low (h : QRd w base qb v L at_ e) : ∀ b, wfoot qb v b → base ≤ b := by
  rintro b (rfl | hb)
  · exact h.low
  · exact (h.row.lt hb).2
theorem QRd.past {w0 wi wj : World} (h : QRd wi base qb v L at_ e) (q : Kept (fun b => b < base) w0 wi) (hk : Kept (fun b => ¬ wfoot qb v b) wi wj) : Kept (fun b => b < base) w0 wj :=
  q.trans' hk fun i _ hi hf => Nat.not_lt_of_le (h.foot_low i hf) hi
/-- A cell of the struct is turned. -/
theorem QRd.turn (h : QRd w base qb v L at_ e) (a2 : Nat) (e2 : Int) (hb : Blk w' qb 58 #[v, .int .i64 (a2 : Int), .int .i64 e2]) (ha : a2 ≤ L.length) (hk : Kept (fun b => b ≠ qb) w w') : QRd w' base qb v L a2 e2 ∧ Kept (fun b => ¬ wfoot qb v b) w w' :=
  ⟨⟨hb, h.row.kept hk fun g hg e => h.row.ne_ h.blk (by decide) (e ▸ hg), h.low, ha, h.len⟩, hk.mono fun _ _ hf he => hf (.inl he)⟩
theorem open_any {x : Value} {m : List UInt8} (hx : Rd w x m) (hm : m.length ≤ 140737488355328) (hbase : base ≤ w.heap.size) :
    Calls Try.prog 16 #[x] w fun r w' => ∃ qb v, r = .returned (.pointer (some ⟨qb, 0, none⟩)) ∧ QRd w' base qb v m 0 0 ∧ (∀ b, wfoot qb v b → w.heap.size ≤ b) ∧ Kept (fun _ => True) w w' := by
  obtain ⟨v', w2, hrun, hrow, hk2, hat⟩ := run_append_src (P := Try.prog) (t := 26) (ty := 26) (base := base) Try.underlying26 Try.info5 (Row1.nil w base 5) hx (by simpa using hm) hbase
  rw [List.nil_append] at hrow
  obtain ⟨A, c, rfl⟩ := hrow.form
  obtain ⟨Ax, cx, rfl⟩ := hx.form
  have HRUN := Lib.hid hrun
  have HROW := Lib.hid hrow
  have HK := Lib.hid hk2
  have HAT := Lib.hid hat
  clear hrun hrow hk2 hat hx
  go_enter Try.func16, Try.ntmps16
  go_wp2_with (at_builtin; refine wpList_append_run (by rfl) (.const (.slice none 0 0)) (.tmp 3) 26 (by rfl) (by rfl) (by rfl) HRUN.out ?_)
  go_ret
  have hk0 : Kept (fun _ => True) w w2 := HK.out.mono fun b _ _ => by simp [Value.ownBlock]
  refine ⟨w2.heap.size, _, rfl, ⟨Blk.new _ _ _, HROW.out.alloc _, Nat.le_trans hbase hk0.size, Nat.zero_le _, hm⟩, ?_, hk0.alloc _⟩
  rintro b (rfl | hb)
  · exact hk0.size
  · rcases HAT.out with h | h
    · rw [h] at hb; simp [Value.ownBlock] at hb
    · rw [h] at hb
      cases hb
      exact Nat.le_refl _

theorem Rd.sl {A : Option Addr} {c lo hi : Nat} {l : List UInt8} (h : Rd w (.slice A l.length c) l) (h1 : lo ≤ hi) (h2 : hi ≤ l.length) : Rd w (sliced A lo hi c 1) ((l.drop lo).take (hi - lo)) := by
  obtain ⟨A0, c0, hv, hlc, hA⟩ := h
  injection hv with e1 _ e3
  subst e1 e3
  have hl : ((l.drop lo).take (hi - lo)).length = hi - lo := by rw [List.length_take, List.length_drop]; omega
  refine ⟨if c = lo then A else A.map (·.add (lo * 1)), c - lo, by rw [hl]; rfl, by rw [hl]; omega, fun i u hu => ?_⟩
  have hi2 := (List.getElem?_eq_some_iff.1 hu).1
  rw [hl] at hi2
  rw [List.getElem?_take, if_pos hi2, List.getElem?_drop] at hu
  obtain ⟨b, off, rfl, hc⟩ := hA _ u hu
  rw [if_neg (by omega)]
  exact ⟨b, off + lo, by rw [Option.map_some, addr_add, Nat.mul_one], by rw [Nat.add_assoc]; exact hc⟩
theorem Rd.from {A : Option Addr} {c lo : Nat} {l : List UInt8} (h : Rd w (.slice A l.length c) l) (h1 : lo ≤ l.length) : Rd w (sliced A lo l.length c 1) (l.drop lo) := by
  have := h.sl h1 (Nat.le_refl _)
  rwa [List.take_of_length_le (by rw [List.length_drop]; exact Nat.le_refl _)] at this
theorem numQ_any (h : QRd w base qb v L at_ e) (most : Nat) (hm : most < 18446744073709551616) :
    Calls Try.prog 18 #[.pointer (some ⟨qb, 0, none⟩), .int .u64 (most : Int)] w fun r w' => r = .returned (.int .u64 ((rnum (L.drop at_) e most).1 : Int)) ∧
      (∃ a2, L.drop a2 = (rnum (L.drop at_) e most).2.1 ∧ QRd w' base qb v L a2 (rnum (L.drop at_) e most).2.2) ∧ Kept (fun b => ¬ wfoot qb v b) w w' := by
  have HH := Lib.hid h
  have c0 : w.cell? ⟨qb, 0, none⟩ = some v := h.blk.cell 0
  have c1 : w.cell? ⟨qb, 1, none⟩ = some (.int .i64 (at_ : Int)) := h.blk.cell 1
  have c2 : w.cell? ⟨qb, 2, none⟩ = some (.int .i64 e) := h.blk.cell 2
  have f1 : w.frozen? ⟨qb, 1, none⟩ = false := h.blk.frozen 1
  have f2 : w.frozen? ⟨qb, 2, none⟩ = false := h.blk.frozen 2
  by_cases he : e = 0
  · subst he
    obtain ⟨⟨n, sz, er⟩, hp⟩ : ∃ p, number most (L.drop at_) = p := ⟨_, rfl⟩
    have hok := number_ok most (L.drop at_)
    rw [hp] at hok
    have hsz := hok.size
    simp only [List.length_drop] at hsz
    have hle := h.le
    have hlen := h.len
    have E1 : Hid (rnum (L.drop at_) 0 most = (n, L.drop (at_ + sz), er)) := Lib.hid (by
      unfold rnum
      rw [if_neg (by simp), hp]
      simp only [List.drop_drop])
    have HP := Lib.hid hp
    obtain ⟨A, c, rfl⟩ := h.row.form
    rw [bc_length] at c0 HH ⊢
    have hrd : Rd w (.slice A L.length c) L := HH.out.row.rd
    have hlc : L.length ≤ c := by
      obtain ⟨_, _, hv, hlc, _⟩ := hrd
      injection hv with _ _ h3
      rw [h3]
      exact hlc
    have ha1 : 0 ≤ (at_ : Int) ∧ (at_ : Int) ≤ (L.length : Int) := by omega
    have hr8 := (hrd.from hle).drew
    obtain ⟨v8, hv8⟩ : ∃ v8, sliced A at_ L.length c 1 = v8 := ⟨_, rfl⟩
    rw [hv8] at hr8
    have HV8 := Lib.hid hv8
    have HR8 := Lib.hid hr8
    clear hp hok h hrd hv8 hr8
    go_enter Try.func18, Try.ntmps18
    go_upto_region 3 with fail
    refine wp_region_any (by kernel_rfl) ?_
    change wpAny _ _ _ _ 18 _ _ (World.drew _)
    refine wpAny_take (i := 0) (v := (.pointer (some ⟨qb, 0, none⟩))) rfl (by kernel_rfl) (by kernel_rfl) (by kernel_rfl) (fun _ _ _ h => h) (Or.inl ⟨rfl, fun w => ?_⟩) ?_
    · go_simp
    simp only [Act.put, List.getElem_toArray, List.getElem_cons_zero, List.setIfInBounds_toArray, List.set_cons_zero, List.set_cons_succ]
    refine wpAny_take (i := 1) (v := (.pointer (some ⟨qb, 0, none⟩))) rfl (by kernel_rfl) (by kernel_rfl) (by kernel_rfl) (fun _ _ _ h => h) (Or.inl ⟨rfl, fun w => ?_⟩) ?_
    · go_simp
    simp only [Act.put, List.getElem_toArray, List.getElem_cons_zero, List.getElem_cons_succ, List.setIfInBounds_toArray, List.set_cons_zero, List.set_cons_succ]
    refine wpAny_take (i := 2) (v := (.pointer (some ⟨qb, 0, none⟩))) rfl (by kernel_rfl) (by kernel_rfl) (by kernel_rfl) (fun _ _ _ h => h) (Or.inl ⟨rfl, fun w => ?_⟩) ?_
    · go_simp
    simp only [Act.put, List.getElem_toArray, List.getElem_cons_zero, List.getElem_cons_succ, List.setIfInBounds_toArray, List.set_cons_zero, List.set_cons_succ]
    refine wpAny_take (i := 4) (v := (.pointer (some ⟨qb, 0, none⟩))) rfl (by kernel_rfl) (by kernel_rfl) (by kernel_rfl) (fun _ _ _ h => h) (Or.inl ⟨rfl, fun w => ?_⟩) ?_
    · go_simp
    simp only [Act.put, List.getElem_toArray, List.getElem_cons_zero, List.getElem_cons_succ, List.setIfInBounds_toArray, List.set_cons_zero, List.set_cons_succ]
    refine wpAny_take (i := 5) (v := (.pointer (some ⟨qb, 0, none⟩))) rfl (by kernel_rfl) (by kernel_rfl) (by kernel_rfl) (fun _ _ _ h => h) (Or.inl ⟨rfl, fun w => ?_⟩) ?_
    · go_simp
    simp only [Act.put, List.getElem_toArray, List.getElem_cons_zero, List.getElem_cons_succ, List.setIfInBounds_toArray, List.set_cons_zero, List.set_cons_succ]
    refine wpAny_take (i := 6) (v := (.pointer (some ⟨qb, 1, none⟩))) rfl (by kernel_rfl) (by kernel_rfl) (by kernel_rfl) (fun _ _ _ h => h) (Or.inl ⟨rfl, fun w => ?_⟩) ?_
    · go_simp
    simp only [Act.put, List.getElem_toArray, List.getElem_cons_zero, List.getElem_cons_succ, List.setIfInBounds_toArray, List.set_cons_zero, List.set_cons_succ]
    refine wpAny_take (i := 9) (v := (.int .u64 (most : Int))) rfl (by kernel_rfl) (by kernel_rfl) (by kernel_rfl) (fun _ _ _ h => h) (Or.inl ⟨rfl, fun w => ?_⟩) ?_
    · go_simp
    simp only [Act.put, List.getElem_toArray, List.getElem_cons_zero, List.getElem_cons_succ, List.setIfInBounds_toArray, List.set_cons_zero, List.set_cons_succ]
    repeat' first
      | exact AllReady.nil
      | (refine AllReady.cons rfl (fun K hK => ?_) ?_)
      | (refine wpAny_ready (rs := [3, 7]) ?rdy ?mem ?_; (case rdy => decide +kernel); (case mem => simp))
      | (refine wpAny_ready (rs := [3]) ?rdy ?mem ?_; (case rdy => decide +kernel); (case mem => simp))
      | (refine wpAny_ready (rs := [7]) ?rdy ?mem ?_; (case rdy => decide +kernel); (case mem => simp))
      | (go_simp; refine hK _ _ ?_; clear hK K)
    all_goals
      refine wpAny_take (i := 8) (v := v8) rfl (by kernel_rfl) (by kernel_rfl) (by kernel_rfl) (fun _ _ _ h => h) (Or.inl ⟨rfl, fun w => ?_⟩) ?_
      · (go_simp; rw [← HV8.out]; simp [sliced])
      simp only [Act.put, List.getElem_toArray, List.getElem_cons_zero, List.getElem_cons_succ, List.setIfInBounds_toArray, List.set_cons_zero, List.set_cons_succ]
      refine wpAny_ready (rs := [10]) (by decide +kernel) (by simp) ?_
      refine AllReady.cons rfl (fun K hK => ?_) AllReady.nil
      try go_simp
      go_at_call 31
      refine (refNumber_any _ (L.drop at_) most _ HR8.out (by rw [List.length_drop]; omega) hm).mono ?_
      rintro r w' ⟨hr, hw'⟩
      rw [HP.out] at hr
      change r = .returned (.tuple #[.int .u64 (n : Int), .int .i64 (sz : Int), .int .i64 er]) at hr
      subst hr hw'
      refine hK _ _ ?_
      clear hK K
      refine wpAny_take (i := 11) (v := (.tuple #[.int .u64 (n : Int), .int .i64 (sz : Int), .int .i64 er])) rfl (by kernel_rfl) (by kernel_rfl) (by kernel_rfl) (fun _ _ _ h => h) (Or.inl ⟨rfl, fun w => ?_⟩) ?_
      · go_simp
      simp only [Act.put, List.getElem_toArray, List.getElem_cons_zero, List.getElem_cons_succ, List.setIfInBounds_toArray, List.set_cons_zero, List.set_cons_succ]
      refine wpAny_take (i := 12) (v := (.int .u64 (n : Int))) rfl (by kernel_rfl) (by kernel_rfl) (by kernel_rfl) (fun _ _ _ h => h) (Or.inl ⟨rfl, fun w => ?_⟩) ?_
      · go_simp
      simp only [Act.put, List.getElem_toArray, List.getElem_cons_zero, List.getElem_cons_succ, List.setIfInBounds_toArray, List.set_cons_zero, List.set_cons_succ]
      refine wpAny_take (i := 13) (v := (.int .i64 (sz : Int))) rfl (by kernel_rfl) (by kernel_rfl) (by kernel_rfl) (fun _ _ _ h => h) (Or.inl ⟨rfl, fun w => ?_⟩) ?_
      · go_simp
      simp only [Act.put, List.getElem_toArray, List.getElem_cons_zero, List.getElem_cons_succ, List.setIfInBounds_toArray, List.set_cons_zero, List.set_cons_succ]
      refine wpAny_take (i := 14) (v := (.int .i64 er)) rfl (by kernel_rfl) (by kernel_rfl) (by kernel_rfl) (fun _ _ _ h => h) (Or.inl ⟨rfl, fun w => ?_⟩) ?_
      · go_simp
      simp only [Act.put, List.getElem_toArray, List.getElem_cons_zero, List.getElem_cons_succ, List.setIfInBounds_toArray, List.set_cons_zero, List.set_cons_succ]
      refine wpAny_take (i := 15) (v := (.int .u64 (n : Int))) rfl (by kernel_rfl) (by kernel_rfl) (by kernel_rfl) (fun _ _ _ h => h) (Or.inl ⟨rfl, fun w => ?_⟩) ?_
      · go_simp
      simp only [Act.put, List.getElem_toArray, List.getElem_cons_zero, List.getElem_cons_succ, List.setIfInBounds_toArray, List.set_cons_zero, List.set_cons_succ]
      refine wpAny_take (i := 16) (v := (.int .i64 (sz : Int))) rfl (by kernel_rfl) (by kernel_rfl) (by kernel_rfl) (fun _ _ _ h => h) (Or.inl ⟨rfl, fun w => ?_⟩) ?_
      · go_simp
      simp only [Act.put, List.getElem_toArray, List.getElem_cons_zero, List.getElem_cons_succ, List.setIfInBounds_toArray, List.set_cons_zero, List.set_cons_succ]
      refine wpAny_take (i := 17) (v := (.int .i64 er)) rfl (by kernel_rfl) (by kernel_rfl) (by kernel_rfl) (fun _ _ _ h => h) (Or.inl ⟨rfl, fun w => ?_⟩) ?_
      · go_simp
      simp only [Act.put, List.getElem_toArray, List.getElem_cons_zero, List.getElem_cons_succ, List.setIfInBounds_toArray, List.set_cons_zero, List.set_cons_succ]
      refine wpAny_done (by decide +kernel) ?_ _
      go_wp2_with fail
      go_ret
      rw [E1.out]
      have hbn := ((HH.out.blk.set_ 2 (.int .i64 er)).set_ 1 (.int .i64 ((at_ + sz : Nat) : Int))).drew
      obtain ⟨h1, h2⟩ := HH.out.turn (at_ + sz) er hbn (by omega) (((Kept.refl (fun b => b ≠ qb) w).setCell (fun _ hn => hn rfl) _).setCell (fun _ hn => hn rfl) _).drew
      exact ⟨rfl, ⟨at_ + sz, rfl, by simpa using h1⟩, by simpa using h2⟩
  · have hd : (e == 0) = false := beq_eq_false_iff_ne.2 he
    have HE := Lib.hid he
    clear he h
    go_enter Try.func18, Try.ntmps18
    go_wp2_with fail
    go_ret
    have e1 : rnum (L.drop at_) e most = (0, L.drop at_, e) := by unfold rnum; rw [if_pos HE.out]
    rw [e1]
    exact ⟨rfl, ⟨at_, rfl, HH.out⟩, Kept.refl _ _⟩
end
end Ytglhkfiigbbpdaa
end Go.Proofs
