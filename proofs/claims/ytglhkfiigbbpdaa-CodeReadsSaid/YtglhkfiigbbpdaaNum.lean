/-
  A writer's Num: a range over the digits; Bytes.
-/
import Derived.Test.YtglhkfiigbbpdaaRangeD
set_option maxHeartbeats 2000000
set_option maxRecDepth 100000
namespace Go.Proofs
open Go.RowKit Go.Shelf
namespace Ytglhkfiigbbpdaa
attribute [local go_sem] Oper.semAt_some
/-- What a round leaves. -/
structure Round (w : World) (base wb s : Nat) (v0 : Value) (l : List UInt8) (W : World) (v : Value) : Prop where
  box : Blk W s 24 #[.pointer (some ⟨wb, 0, none⟩)]
  rep : WRep W base wb v l
  own : ∀ b, v.ownBlock = some b → b < s ∧ v0.ownBlock = some b ∨ s + 4 ≤ b
  kept : Kept (fun b => ¬ wfoot wb v0 b) w W
section
variable {w W W' : World} {base wb s : Nat} {v0 v : Value} {l : List UInt8}
theorem Round.to (h : Round w base wb s v0 l W v) (hs : w.heap.size = s) (hwb : wb < s) (hk : Kept (fun b => b ≠ s + 1 ∧ b ≠ s + 2 ∧ b ≠ s + 2 + 1) W W') : Round w base wb s v0 l W' v where
  box := h.box.kept hk (by omega)
  rep := h.rep.kept (hk.mono fun b _ hb => by
    rcases hb with rfl | hb
    · omega
    · have := h.own b hb
      omega)
  own := h.own
  kept := h.kept.trans' hk fun i hi _ => by omega
end
theorem num_any (w : World) (base wb : Nat) (v : Value) (l : List UInt8) (h : WRep w base wb v l) (N : Nat) (hN : N < 18446744073709551616) (hlen : l.length + 10 ≤ 140737488355328) (hbase : base ≤ w.heap.size) :
    Calls Try.prog 10 #[.pointer (some ⟨wb, 0, none⟩), .int .u64 (N : Int)] w fun e w' => e = .returned (.tuple #[]) ∧ Laid w w' base wb v (l ++ form N) := by
  refine (callsIn_wide (n := 3)).1 ?_
  refine callsIn_of_wp_marks Try.func10 rfl trivial ?_ rfl
  simp only [Try.ntmps10, List.size_toArray, List.length_cons, List.length_nil, Nat.reduceAdd, Nat.reduceSub, Array.replicate_succ, Array.replicate_zero, List.push_toArray, List.append_toArray, List.nil_append, List.cons_append]
  gi_wp2_with fail
  refine ⟨trivial, ?_⟩
  refine (callsIn_wide.2 (digits_any _ _)).mono ?_
  rintro e w' ⟨rfl, rfl⟩
  gi_wp2_with fail
  obtain ⟨s, hs⟩ : ∃ s, w.heap.size = s := ⟨_, rfl⟩
  rw [hs]
  have hb24 : Blk ((w.alloc (.cells #[.pointer (some ⟨wb, 0, none⟩)] 24)).alloc (.cells #[.int .u64 (N : Int)] 27)) s 24 #[.pointer (some ⟨wb, 0, none⟩)] := by rw [← hs]; exact (Blk.new _ _ _).alloc _
  have hb27 : Blk ((w.alloc (.cells #[.pointer (some ⟨wb, 0, none⟩)] 24)).alloc (.cells #[.int .u64 (N : Int)] 27)) (s + 1) 27 #[.int .u64 (N : Int)] := by
    have := Blk.new (w.alloc (.cells #[.pointer (some ⟨wb, 0, none⟩)] 24)) 27 #[.int .u64 (N : Int)]
    rw [World.size_alloc, hs] at this
    exact this
  have hk0 : Kept (fun _ => True) w ((w.alloc (.cells #[.pointer (some ⟨wb, 0, none⟩)] 24)).alloc (.cells #[.int .u64 (N : Int)] 27)) := ((Kept.refl _ w).alloc _).alloc _
  have hsz : ((w.alloc (.cells #[.pointer (some ⟨wb, 0, none⟩)] 24)).alloc (.cells #[.int .u64 (N : Int)] 27)).heap.size = s + 2 := by simp [hs]
  obtain ⟨W0, hW0⟩ : ∃ W0, (w.alloc (.cells #[.pointer (some ⟨wb, 0, none⟩)] 24)).alloc (.cells #[.int .u64 (N : Int)] 27) = W0 := ⟨_, rfl⟩
  rw [hW0] at hb24 hb27 hk0 hsz ⊢
  clear hW0
  have hwb : wb < s := by rw [← hs]; exact h.blk.lt
  have hbs : base ≤ s := by rw [← hs]; exact hbase
  have hv0 : ∀ b, v.ownBlock = some b → b < s := fun b hb => by rw [← hs]; exact (h.row.lt hb).1
  refine range_digits hsz hN rfl hb27 (fun pre W => ∃ v', Round w base wb s v (l ++ pre) W v') (fun pre W W' ⟨v', h1⟩ hk => ⟨v', h1.to hs hwb hk⟩)
    ⟨v, hb24, by rw [List.append_nil]; exact h.kept (hk0.mono fun _ _ _ => trivial), fun b hb => .inl ⟨hv0 b hb, hb⟩, hk0.mono fun _ _ _ => trivial⟩ ?round ?done
  case round =>
    rintro pre x post W hf - hsz1
    have hfl : pre.length + 1 ≤ 10 := by
      have h1 := form_len hN
      rw [hf] at h1
      simp at h1
      omega
    clear hf
    gi_wp2
    refine ⟨trivial, ?_⟩
    rintro w2 ⟨v', hR⟩ hsz2
    have hs4 : s + 4 ≤ w2.heap.size := by omega
    have hrow := hR.rep.row
    have hra : Row1 (w2.alloc (.cells #[.int .u8 (x.toNat : Int)] 5)).drew base 5 v' (bc (l ++ pre)) := (hrow.alloc _).drew
    have hx : Rd (w2.alloc (.cells #[.int .u8 (x.toNat : Int)] 5)).drew (.slice (some ⟨w2.heap.size, 0, none⟩) 1 1) [x] :=
      Rd.of_blk (l := [x]) (Blk.new w2 5 #[.int .u8 (x.toNat : Int)]).drew (Nat.le_refl _) rfl
    obtain ⟨v2, w3, hrun, hrow2, hk2, hat⟩ := run_append_src (P := Try.prog) (t := 26) (ty := 26) Try.underlying26 Try.info5 hra hx (by rw [bc_length]; simp; omega) (by show base ≤ (w2.alloc _).heap.size; rw [World.size_alloc]; omega)
    rw [← bc_append, List.append_assoc] at hrow2
    have hka : Kept (fun _ => True) w2 (w2.alloc (.cells #[.int .u8 (x.toNat : Int)] 5)).drew := ((Kept.refl _ w2).alloc _).drew
    have hwa := hR.rep.kept (hka.mono fun _ _ _ => trivial)
    have hb3 := hwa.blk.kept hk2 (hwa.row.ne_ hwa.blk (by decide))
    have hbx := (hR.box.kept hka trivial)
    have hbx3 := hbx.kept hk2 (hwa.row.ne_ hbx (by decide))
    obtain ⟨A, c, rfl⟩ := hrow.form
    obtain ⟨A2, c2, rfl⟩ := hrow2.form
    have p0 : w2.drew.cell? ⟨s, 0, none⟩ = some (.pointer (some ⟨wb, 0, none⟩)) := hR.box.cell 0
    have p1 : w2.drew.cell? ⟨wb, 0, none⟩ = some (.slice A (bc (l ++ pre)).length c) := hR.rep.blk.cell 0
    have r0 : (w2.alloc (.cells #[.int .u8 (x.toNat : Int)] 5)).drew.cell? ⟨s, 0, none⟩ = some (.pointer (some ⟨wb, 0, none⟩)) := hbx.cell 0
    have r1 : (w2.alloc (.cells #[.int .u8 (x.toNat : Int)] 5)).drew.cell? ⟨wb, 0, none⟩ = some (.slice A (bc (l ++ pre)).length c) := hwa.blk.cell 0
    have t0 : w3.cell? ⟨s, 0, none⟩ = some (.pointer (some ⟨wb, 0, none⟩)) := hbx3.cell 0
    have t1 : w3.cell? ⟨wb, 0, none⟩ = some (.slice A (bc (l ++ pre)).length c) := hb3.cell 0
    have t1f : w3.frozen? ⟨wb, 0, none⟩ = false := hb3.frozen 0
    have hk3 := hk2.setCell (p := ⟨wb, 0, none⟩)
    have HEND : Hid (Round w base wb s v (l ++ (pre ++ [x])) (w3.setCell ⟨wb, 0, none⟩ (.slice A2 (bc (l ++ (pre ++ [x]))).length c2)) (.slice A2 (bc (l ++ (pre ++ [x]))).length c2) ∧ Kept (fun b => b = s + 1 ∨ b = s + 2 ∨ b = s + 2 + 1) w2 (w3.setCell ⟨wb, 0, none⟩ (.slice A2 (bc (l ++ (pre ++ [x]))).length c2))) := by
      have hkk : Kept (fun b => ¬ wfoot wb (.slice A (bc (l ++ pre)).length c) b) w2 (w3.setCell ⟨wb, 0, none⟩ (.slice A2 (bc (l ++ (pre ++ [x]))).length c2)) :=
        ((hka.mono fun _ _ _ => trivial).trans' hk2 (fun b _ hb e => hb (.inr e))).setCell (fun _ hn => hn (.inl rfl)) _
      refine ⟨⟨hR.box.kept hkk ?_, ⟨hb3.set_ 0 _, hrow2.far hb3 (by decide) _ _, hR.rep.low⟩, fun b hb => ?_, ?_⟩, hkk.mono fun b _ hb hf => ?_⟩
      · rintro (e | e)
        · omega
        · have := hR.own s e
          omega
      · rcases hat with e | e
        · exact hR.own b (e ▸ hb)
        · have e2 : ((w2.alloc (.cells #[.int .u8 (x.toNat : Int)] 5)).drew).heap.size = w2.heap.size + 1 := World.size_alloc _ _
          rw [e, e2] at hb
          cases hb
          exact .inr (by omega)
      · refine hR.kept.trans' hkk fun i hi hn hf => ?_
        rcases hf with e | e
        · exact hn (.inl e)
        · rcases hR.own i e with h1 | h1
          · exact hn (.inr h1.2)
          · omega
      · rcases hf with e | e
        · omega
        · have := hR.own b e
          omega
    have hmx : Try.prog.follows .mixedOrders = true := by kernel_rfl
    have HRUN := Lib.hid hrun
    clear hrun hR hrow hra hx hrow2 hk2 hat hka hwa hb3 hbx hbx3 hk3
    gi_wp2
    refine region_round (by assumption) (by
      intro i o ho c hc
      have hm := List.mem_of_getElem? (show _ = some o by simpa using ho)
      simp only [List.mem_cons, List.not_mem_nil, or_false] at hm
      rcases hm with rfl | rfl | rfl | rfl | rfl | rfl | rfl | rfl | rfl | rfl | rfl <;> cases hc) ?_
    change wpAnyIn _ _ _ _ _ _ 11 _ _ (World.drew _)
    refine wpAnyIn_take (i := 5) (v := .int .u8 (x.toNat : Int)) rfl rfl (by kernel_rfl) (by kernel_rfl) (by kernel_rfl) (fun _ _ _ h => h) ⟨Or.inl ⟨by rfl, by intro w; go_simp⟩, fun _ => rfl⟩ ?_
    repeat' first
      | exact AllReadyIn.nil
      | (refine AllReadyIn.cons rfl (fun K hK => ?_) ?_)
      | (refine guard_ready [0, 2, 6] ?rdy ?_; (case rdy => decide +kernel); refine wpAnyIn_take (i := 2) (v := .pointer (some ⟨wb, 0, none⟩)) rfl rfl (by kernel_rfl) (by kernel_rfl) (by kernel_rfl) (fun _ _ _ h => h) ⟨Or.inl ⟨by rfl, by intro w; go_simp⟩, fun _ => rfl⟩ ?_)
      | (refine guard_ready [2, 6] ?rdy ?_; (case rdy => decide +kernel); refine wpAnyIn_take (i := 2) (v := .pointer (some ⟨wb, 0, none⟩)) rfl rfl (by kernel_rfl) (by kernel_rfl) (by kernel_rfl) (fun _ _ _ h => h) ⟨Or.inl ⟨by rfl, by intro w; go_simp⟩, fun _ => rfl⟩ ?_)
      | (refine guard_ready [0, 2] ?rdy ?_; (case rdy => decide +kernel); refine wpAnyIn_take (i := 2) (v := .pointer (some ⟨wb, 0, none⟩)) rfl rfl (by kernel_rfl) (by kernel_rfl) (by kernel_rfl) (fun _ _ _ h => h) ⟨Or.inl ⟨by rfl, by intro w; go_simp⟩, fun _ => rfl⟩ ?_)
      | (refine guard_ready [2] ?rdy ?_; (case rdy => decide +kernel); refine wpAnyIn_take (i := 2) (v := .pointer (some ⟨wb, 0, none⟩)) rfl rfl (by kernel_rfl) (by kernel_rfl) (by kernel_rfl) (fun _ _ _ h => h) ⟨Or.inl ⟨by rfl, by intro w; go_simp⟩, fun _ => rfl⟩ ?_)
      | (refine guard_ready [0, 3, 6] ?rdy ?_; (case rdy => decide +kernel); refine wpAnyIn_take (i := 3) (v := .pointer (some ⟨wb, 0, none⟩)) rfl rfl (by kernel_rfl) (by kernel_rfl) (by kernel_rfl) (fun _ _ _ h => h) ⟨Or.inl ⟨by rfl, by intro w; go_simp⟩, fun _ => rfl⟩ ?_)
      | (refine guard_ready [3, 6] ?rdy ?_; (case rdy => decide +kernel); refine wpAnyIn_take (i := 3) (v := .pointer (some ⟨wb, 0, none⟩)) rfl rfl (by kernel_rfl) (by kernel_rfl) (by kernel_rfl) (fun _ _ _ h => h) ⟨Or.inl ⟨by rfl, by intro w; go_simp⟩, fun _ => rfl⟩ ?_)
      | (refine guard_ready [0, 3] ?rdy ?_; (case rdy => decide +kernel); refine wpAnyIn_take (i := 3) (v := .pointer (some ⟨wb, 0, none⟩)) rfl rfl (by kernel_rfl) (by kernel_rfl) (by kernel_rfl) (fun _ _ _ h => h) ⟨Or.inl ⟨by rfl, by intro w; go_simp⟩, fun _ => rfl⟩ ?_)
      | (refine guard_ready [3] ?rdy ?_; (case rdy => decide +kernel); refine wpAnyIn_take (i := 3) (v := .pointer (some ⟨wb, 0, none⟩)) rfl rfl (by kernel_rfl) (by kernel_rfl) (by kernel_rfl) (fun _ _ _ h => h) ⟨Or.inl ⟨by rfl, by intro w; go_simp⟩, fun _ => rfl⟩ ?_)
      | (refine wpAnyIn_ready (rs := [0, 1, 6]) ?rdy ?mem ?_; (case rdy => decide +kernel); (case mem => simp))
      | (refine wpAnyIn_ready (rs := [1, 6]) ?rdy ?mem ?_; (case rdy => decide +kernel); (case mem => simp))
      | (refine wpAnyIn_ready (rs := [0, 4, 6]) ?rdy ?mem ?_; (case rdy => decide +kernel); (case mem => simp))
      | (refine wpAnyIn_ready (rs := [4, 6]) ?rdy ?mem ?_; (case rdy => decide +kernel); (case mem => simp))
      | (refine wpAnyIn_ready (rs := [0, 6]) ?rdy ?mem ?_; (case rdy => decide +kernel); (case mem => simp))
      | (refine wpAnyIn_ready (rs := [6]) ?rdy ?mem ?_; (case rdy => decide +kernel); (case mem => simp))
      | (refine wpAnyIn_ready (rs := [0, 1]) ?rdy ?mem ?_; (case rdy => decide +kernel); (case mem => simp))
      | (refine wpAnyIn_ready (rs := [1]) ?rdy ?mem ?_; (case rdy => decide +kernel); (case mem => simp))
      | (refine wpAnyIn_ready (rs := [0, 4]) ?rdy ?mem ?_; (case rdy => decide +kernel); (case mem => simp))
      | (refine wpAnyIn_ready (rs := [4]) ?rdy ?mem ?_; (case rdy => decide +kernel); (case mem => simp))
      | (refine wpAnyIn_ready (rs := [0, 7]) ?rdy ?mem ?_; (case rdy => decide +kernel); (case mem => simp))
      | (refine wpAnyIn_ready (rs := [7]) ?rdy ?mem ?_; (case rdy => decide +kernel); (case mem => simp))
      | (refine wpAnyIn_ready (rs := [0]) ?rdy ?mem ?_; (case rdy => decide +kernel); (case mem => simp))
      | (refine wpAnyIn_ready (rs := [8]) ?rdy ?mem ?_; (case rdy => decide +kernel); (case mem => simp))
      | (refine wpAnyIn_ready (rs := [9]) ?rdy ?mem ?_; (case rdy => decide +kernel); (case mem => simp))
      | (refine wpAnyIn_ready (rs := [10]) ?rdy ?mem ?_; (case rdy => decide +kernel); (case mem => simp))
      | (refine wpAnyIn_done ?rdy ?_ _; (case rdy => decide +kernel))
      | (refine stepIn_append_run (by rfl) (.tmp 12) (.tmp 14) 26 (by rfl) (by rfl) (by rfl) HRUN.out ?_; refine hK _ _ ?_; clear hK K)
      | (go_simp; refine hK _ _ ?_; clear hK K)
    all_goals exact ⟨rfl, ⟨_, HEND.out.1⟩, HEND.out.2⟩
  case done =>
    rintro W ⟨v', hR⟩ hD
    gi_wp2
    refine ⟨by simp, .inl ⟨_, _, rfl, run_takeDeferred hD, ?_⟩⟩
    have hk : Kept (fun b => b ≠ s + 2) W (W.putObj (s + 2) (.deferred none)) := kept_put _ (fun h => h rfl)
    have hR2 := hR.to hs hwb (hk.mono fun b _ hb => hb.2.1)
    exact ⟨_, results_none rfl _ _ _, rfl, v', hR2.rep, fun b hb => (hR2.own b hb).imp (fun h => h.2) (fun h => by rw [hs]; omega), hR2.kept⟩
/-- A writer's Bytes. -/
theorem bytes_any {w : World} {base wb : Nat} {v : Value} {l : List UInt8} (h : WRep w base wb v l) {x : Value} {m : List UInt8} (hx : Rd w x m) (hxo : m ≠ [] → ∀ b, x.ownBlock = some b → ¬ wfoot wb v b ∧ b < w.heap.size) (hlen : l.length + m.length + 10 ≤ 140737488355328) (hbase : base ≤ w.heap.size) :
    Calls Try.prog 12 #[.pointer (some ⟨wb, 0, none⟩), x] w fun e w' => e = .returned (.tuple #[]) ∧ Laid w w' base wb v (l ++ form m.length ++ m) := by
  have hN : num_any w base wb v l h m.length (by omega) (by omega) hbase = num_any w base wb v l h m.length (by omega) (by omega) hbase := rfl
  obtain ⟨A, c, rfl⟩ := hx.form
  have hwr : IntKind.u64.wrap (m.length : Int) = (m.length : Int) := by rw [IntKind.wrap_u64]; omega
  have HH := Lib.hid h
  have HX := Lib.hid hx
  have HO := Lib.hid hxo
  clear hN h hx hxo
  go_enter Try.func12, Try.ntmps12
  go_wp2_with fail
  refine (num_any w base wb v l HH.out m.length (by omega) (by omega) hbase).mono ?_
  rintro e w1 ⟨rfl, v1, hr1, ho1, hk1⟩
  have hx1 := HX.out.kept hk1 (fun hne b hb => (HO.out hne b hb).1)
  have hfl := form_len (n := m.length) (by omega)
  have hlw : w.heap.size ≤ w1.heap.size := hk1.size
  have HO1 := Lib.hid ho1
  have HK1 := Lib.hid hk1
  clear ho1 hk1
  go_wp2_with fail
  refine (raw_any hr1 hx1 (by rw [List.length_append]; omega) (by omega)).mono ?_
  rintro e w2 ⟨rfl, v2, hr2, ho2, hk2⟩
  go_wp2_with fail
  go_end0
  refine ⟨rfl, v2, hr2, fun b hb => ?_, HK1.out.trans' hk2 fun b hb hn hf => ?_⟩
  · rcases ho2 b hb with h1 | h1
    · exact HO1.out b h1
    · exact .inr (by omega)
  · rcases hf with e | e
    · exact hn (.inl e)
    · rcases HO1.out b e with h1 | h1
      · exact hn (.inr h1)
      · omega
end Ytglhkfiigbbpdaa
end Go.Proofs
