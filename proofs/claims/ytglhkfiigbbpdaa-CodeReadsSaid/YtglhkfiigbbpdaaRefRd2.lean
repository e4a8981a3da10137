/-
  The reference's reader: Left, Done, Raw.
-/
import Derived.Test.YtglhkfiigbbpdaaRefRd
import Derived.Test.YtglhkfiigbbpdaaReader
set_option maxHeartbeats 1000000
namespace Go.Proofs
open Go.RowKit
namespace Ytglhkfiigbbpdaa
attribute [local go_sem ↓] Go.wp_at_zero Go.wp_at_succ
section
variable {w w' : World} {base qb : Nat} {v : Value} {L : List UInt8} {at_ : Nat} {e : Int}
theorem leftQ_any (h : QRd w base qb v L at_ e) : Calls Try.prog 24 #[.pointer (some ⟨qb, 0, none⟩)] w fun r w' => r = .returned (.int .i64 ((L.drop at_).length : Int)) ∧ w' = w.drew := by
  have c0 : w.cell? ⟨qb, 0, none⟩ = some v := h.blk.cell 0
  have c1 : w.cell? ⟨qb, 1, none⟩ = some (.int .i64 (at_ : Int)) := h.blk.cell 1
  have hle := h.le
  have hlen := h.len
  have e1 : ((L.drop at_).length : Int) = (L.length : Int) - (at_ : Int) := by rw [List.length_drop]; omega
  rw [e1]
  obtain ⟨A, c, rfl⟩ := h.row.form
  rw [bc_length] at c0
  clear h e1
  go_enter Try.func24, Try.ntmps24
  go_wp2_with go_region
  all_goals go_ret
  all_goals exact ⟨rfl, rfl⟩
theorem doneQ_any (h : QRd w base qb v L at_ e) : Calls Try.prog 26 #[.pointer (some ⟨qb, 0, none⟩)] w fun r w' => r = .returned (.int .i64 (rdone (L.drop at_) e)) ∧ w' = w.drew := by
  have c0 : w.cell? ⟨qb, 0, none⟩ = some v := h.blk.cell 0
  have c1 : w.cell? ⟨qb, 1, none⟩ = some (.int .i64 (at_ : Int)) := h.blk.cell 1
  have c2 : w.cell? ⟨qb, 2, none⟩ = some (.int .i64 e) := h.blk.cell 2
  have hle := h.le
  have hlen := h.len
  obtain ⟨A, c, rfl⟩ := h.row.form
  rw [bc_length] at c0
  clear h
  by_cases he : e = 0
  · subst he
    by_cases hl : at_ < L.length
    · have hd : decide ((at_ : Int) < (L.length : Int)) = true := by simp; omega
      have e1 : rdone (L.drop at_) 0 = 13 := by unfold rdone; rw [if_pos ⟨rfl, by rw [List.length_drop]; omega⟩]
      rw [e1]
      clear e1
      go_enter Try.func26, Try.ntmps26
      go_wp2_with go_region
      all_goals go_ret
      all_goals exact ⟨rfl, rfl⟩
    · have hd : decide ((at_ : Int) < (L.length : Int)) = false := by simp; omega
      have e1 : rdone (L.drop at_) 0 = 0 := by unfold rdone; rw [if_neg (by rw [List.length_drop]; omega)]
      rw [e1]
      clear e1
      go_enter Try.func26, Try.ntmps26
      go_wp2_with go_region
      all_goals go_ret
      all_goals exact ⟨rfl, rfl⟩
  · have hd : (e == 0) = false := beq_eq_false_iff_ne.2 he
    have e1 : rdone (L.drop at_) e = e := by unfold rdone; rw [if_neg (fun h => he h.1)]
    rw [e1]
    clear he e1
    go_enter Try.func26, Try.ntmps26
    go_wp2_with go_region
    all_goals go_ret
    all_goals exact ⟨rfl, rfl⟩
theorem rawQ_any (h : QRd w base qb v L at_ e) (n : Int) :
    Calls Try.prog 22 #[.pointer (some ⟨qb, 0, none⟩), .int .i64 n] w fun r w' => ∃ v', r = .returned v' ∧ Row1 w' w.heap.size 5 v' (bc (rraw (L.drop at_) e n).1) ∧
      (∃ a2, L.drop a2 = (rraw (L.drop at_) e n).2.1 ∧ QRd w' base qb v L a2 (rraw (L.drop at_) e n).2.2) ∧ Kept (fun b => ¬ wfoot qb v b) w w' := by
  have HH := Lib.hid h
  have c0 : w.cell? ⟨qb, 0, none⟩ = some v := h.blk.cell 0
  have c1 : w.cell? ⟨qb, 1, none⟩ = some (.int .i64 (at_ : Int)) := h.blk.cell 1
  have c2 : w.cell? ⟨qb, 2, none⟩ = some (.int .i64 e) := h.blk.cell 2
  have f1 : w.frozen? ⟨qb, 1, none⟩ = false := h.blk.frozen 1
  have f2 : w.frozen? ⟨qb, 2, none⟩ = false := h.blk.frozen 2
  have hle := h.le
  have hlen := h.len
  obtain ⟨A, c, rfl⟩ := h.row.form
  rw [bc_length] at c0 HH ⊢
  clear h
  by_cases he : e = 0
  · subst he
    by_cases hn : n < 0
    · have hd : decide (n < 0) = true := by simp; omega
      have E1 : Hid (rraw (L.drop at_) 0 n = ([], L.drop at_, 1)) := Lib.hid (by unfold rraw; rw [if_neg (by simp), if_pos hn])
      clear hn
      go_enter Try.func22, Try.ntmps22
      go_wp2_with fail
      go_ret
      rw [E1.out]
      obtain ⟨h1, h2⟩ := HH.out.turn at_ 1 (HH.out.blk.set_ 2 (.int .i64 1)) HH.out.le ((Kept.refl (fun b => b ≠ qb) w).setCell (fun _ hn => hn rfl) _)
      exact ⟨_, rfl, Row1.nil _ _ _, ⟨at_, rfl, h1⟩, h2⟩
    · have hd : decide (n < 0) = false := by simp; omega
      obtain ⟨k, rfl⟩ := Int.eq_ofNat_of_zero_le (Int.not_lt.1 hn)
      clear hn
      by_cases hbig : L.length - at_ < k
      · have hd2 : decide ((L.length : Int) - (at_ : Int) < (k : Int)) = true := by simp; omega
        have E1 : Hid (rraw (L.drop at_) 0 (k : Int) = ([], L.drop at_, 10)) := Lib.hid (by unfold rraw; rw [if_neg (by simp), if_neg (by omega), if_pos (by rw [List.length_drop]; omega)])
        clear hbig
        go_enter Try.func22, Try.ntmps22
        go_wp2_with go_region
        go_ret
        rw [E1.out]
        obtain ⟨h1, h2⟩ := HH.out.turn at_ 10 ((HH.out.blk.set_ 2 (.int .i64 10)).drew) HH.out.le ((Kept.refl (fun b => b ≠ qb) w).setCell (fun _ hn => hn rfl) _).drew
        exact ⟨_, rfl, Row1.nil _ _ _, ⟨at_, rfl, h1⟩, h2⟩
      · have hd2 : decide ((L.length : Int) - (at_ : Int) < (k : Int)) = false := by simp; omega
        have E1 : Hid (rraw (L.drop at_) 0 (k : Int) = ((L.drop at_).take k, L.drop (at_ + k), 0)) := Lib.hid (by
          unfold rraw
          rw [if_neg (by simp), if_neg (by omega), if_neg (by rw [List.length_drop]; omega)]
          simp)
        go_enter Try.func22, Try.ntmps22
        go_upto_region 9 with go_region
        have hrd : Rd w (.slice A L.length c) L := HH.out.row.rd
        have hlc : L.length ≤ c := by
          obtain ⟨_, _, hv, hlc, _⟩ := hrd
          injection hv with _ _ h3
          rw [h3]
          exact hlc
        have hr8 := ((hrd.sl (lo := at_) (hi := at_ + k) (by omega) (by omega)).drew).drew
        rw [Nat.add_sub_cancel_left] at hr8
        obtain ⟨v8, hv8⟩ : ∃ v8, sliced A at_ (at_ + k) c 1 = v8 := ⟨_, rfl⟩
        rw [hv8] at hr8
        obtain ⟨v9, w2, hrun, hrow, hk2, hat⟩ := run_append_src (P := Try.prog) (t := 26) (ty := 26) (w := w.drew.drew) Try.underlying26 Try.info5 (Row1.nil w.drew.drew w.heap.size 5) hr8 (by rw [List.length_take, List.length_drop, List.length_nil]; omega) (Nat.le_refl _)
        rw [List.nil_append] at hrow
        have hk3 : Kept (fun _ => True) w w2 := ((Kept.refl _ w).drew.drew).trans (hk2.mono fun _ _ _ => by simp [Value.ownBlock])
        have h2 := HH.out.kept (hk3.mono fun _ _ _ => trivial)
        have g1 : w2.cell? ⟨qb, 1, none⟩ = some (.int .i64 (at_ : Int)) := h2.blk.cell 1
        have fg1 : w2.frozen? ⟨qb, 1, none⟩ = false := h2.blk.frozen 1
        have htn : ((at_ : Int) + (k : Int)).toNat = at_ + k := by omega
        have hwr : IntKind.i64.wrap ((at_ : Int) + (k : Int)) = (at_ : Int) + (k : Int) := by rw [IntKind.wrap_i64]; omega
        have ha1 : 0 ≤ (at_ : Int) ∧ (at_ : Int) ≤ (at_ : Int) + (k : Int) ∧ (at_ : Int) + (k : Int) ≤ (c : Int) := by omega
        have HV8 := Lib.hid hv8
        have HRUN := Lib.hid hrun
        have HROW := Lib.hid hrow
        have H2 := Lib.hid h2
        have HK3 := Lib.hid hk3
        clear hrd hr8 hv8 hrun hrow hk2 hat hk3 h2
        refine wp_region_any (by kernel_rfl) ?_
        change wpAny _ _ _ _ 17 _ _ (World.drew _)
        refine wpAny_take (i := 0) (v := (.pointer (some ⟨qb, 0, none⟩))) rfl (by kernel_rfl) (by kernel_rfl) (by kernel_rfl) (fun _ _ _ h => h) (Or.inl ⟨rfl, fun w => ?_⟩) ?_
        · go_simp
        simp only [Act.put, List.getElem_toArray, List.getElem_cons_zero, List.setIfInBounds_toArray, List.set_cons_zero, List.set_cons_succ]
        refine wpAny_take (i := 1) (v := (.pointer (some ⟨qb, 0, none⟩))) rfl (by kernel_rfl) (by kernel_rfl) (by kernel_rfl) (fun _ _ _ h => h) (Or.inl ⟨rfl, fun w => ?_⟩) ?_
        · go_simp
        simp only [Act.put, List.getElem_toArray, List.getElem_cons_zero, List.getElem_cons_succ, List.setIfInBounds_toArray, List.set_cons_zero, List.set_cons_succ]
        refine wpAny_take (i := 2) (v := (.pointer (some ⟨qb, 0, none⟩))) rfl (by kernel_rfl) (by kernel_rfl) (by kernel_rfl) (fun _ _ _ h => h) (Or.inl ⟨rfl, fun w => ?_⟩) ?_
        · go_simp
        simp only [Act.put, List.getElem_toArray, List.getElem_cons_zero, List.getElem_cons_succ, List.setIfInBounds_toArray, List.set_cons_zero, List.set_cons_succ]
        refine wpAny_take (i := 4) (v := (.pointer (some ⟨qb, 0, none⟩))) rfl (by kernel_rfl) (by kernel_rfl) (by kernel_rfl) (fun _ _ _ h => h) (Or.inl ⟨rfl, fun w => ?_⟩) ?_
        · go_simp
        simp only [Act.put, List.getElem_toArray, List.getElem_cons_zero, List.getElem_cons_succ, List.setIfInBounds_toArray, List.set_cons_zero, List.set_cons_succ]
        refine wpAny_take (i := 5) (v := (.pointer (some ⟨qb, 0, none⟩))) rfl (by kernel_rfl) (by kernel_rfl) (by kernel_rfl) (fun _ _ _ h => h) (Or.inl ⟨rfl, fun w => ?_⟩) ?_
        · go_simp
        simp only [Act.put, List.getElem_toArray, List.getElem_cons_zero, List.getElem_cons_succ, List.setIfInBounds_toArray, List.set_cons_zero, List.set_cons_succ]
        refine wpAny_take (i := 6) (v := (.pointer (some ⟨qb, 1, none⟩))) rfl (by kernel_rfl) (by kernel_rfl) (by kernel_rfl) (fun _ _ _ h => h) (Or.inl ⟨rfl, fun w => ?_⟩) ?_
        · go_simp
        simp only [Act.put, List.getElem_toArray, List.getElem_cons_zero, List.getElem_cons_succ, List.setIfInBounds_toArray, List.set_cons_zero, List.set_cons_succ]
        refine wpAny_take (i := 8) (v := (.pointer (some ⟨qb, 0, none⟩))) rfl (by kernel_rfl) (by kernel_rfl) (by kernel_rfl) (fun _ _ _ h => h) (Or.inl ⟨rfl, fun w => ?_⟩) ?_
        · go_simp
        simp only [Act.put, List.getElem_toArray, List.getElem_cons_zero, List.getElem_cons_succ, List.setIfInBounds_toArray, List.set_cons_zero, List.set_cons_succ]
        refine wpAny_take (i := 9) (v := (.pointer (some ⟨qb, 0, none⟩))) rfl (by kernel_rfl) (by kernel_rfl) (by kernel_rfl) (fun _ _ _ h => h) (Or.inl ⟨rfl, fun w => ?_⟩) ?_
        · go_simp
        simp only [Act.put, List.getElem_toArray, List.getElem_cons_zero, List.getElem_cons_succ, List.setIfInBounds_toArray, List.set_cons_zero, List.set_cons_succ]
        refine wpAny_take (i := 10) (v := (.pointer (some ⟨qb, 1, none⟩))) rfl (by kernel_rfl) (by kernel_rfl) (by kernel_rfl) (fun _ _ _ h => h) (Or.inl ⟨rfl, fun w => ?_⟩) ?_
        · go_simp
        simp only [Act.put, List.getElem_toArray, List.getElem_cons_zero, List.getElem_cons_succ, List.setIfInBounds_toArray, List.set_cons_zero, List.set_cons_succ]
        refine wpAny_take (i := 12) (v := (.int .i64 (k : Int))) rfl (by kernel_rfl) (by kernel_rfl) (by kernel_rfl) (fun _ _ _ h => h) (Or.inl ⟨rfl, fun w => ?_⟩) ?_
        · go_simp
        simp only [Act.put, List.getElem_toArray, List.getElem_cons_zero, List.getElem_cons_succ, List.setIfInBounds_toArray, List.set_cons_zero, List.set_cons_succ]
        repeat' first
          | exact AllReady.nil
          | (refine AllReady.cons rfl (fun K hK => ?_) ?_)
          | (refine wpAny_take (i := 13) (v := (.int .i64 ((at_ : Int) + (k : Int)))) rfl (by kernel_rfl) (by kernel_rfl) (by decide +kernel) (fun _ _ _ h => h) (Or.inl ⟨rfl, fun w => ?_⟩) ?_
             · go_simp
             simp only [Act.put, List.getElem_toArray, List.getElem_cons_zero, List.getElem_cons_succ, List.setIfInBounds_toArray, List.set_cons_zero, List.set_cons_succ])
          | (refine wpAny_take (i := 14) (v := v8) rfl (by kernel_rfl) (by kernel_rfl) (by decide +kernel) (fun _ _ _ h => h) (Or.inl ⟨rfl, fun w => ?_⟩) ?_
             · (go_simp; rw [← HV8.out]; simp [sliced])
             simp only [Act.put, List.getElem_toArray, List.getElem_cons_zero, List.getElem_cons_succ, List.setIfInBounds_toArray, List.set_cons_zero, List.set_cons_succ])
          | (refine wpAny_ready (rs := [3, 7, 11]) ?rdy ?mem ?_; (case rdy => decide +kernel); (case mem => simp))
          | (refine wpAny_ready (rs := [3, 7]) ?rdy ?mem ?_; (case rdy => decide +kernel); (case mem => simp))
          | (refine wpAny_ready (rs := [3, 11]) ?rdy ?mem ?_; (case rdy => decide +kernel); (case mem => simp))
          | (refine wpAny_ready (rs := [7, 11]) ?rdy ?mem ?_; (case rdy => decide +kernel); (case mem => simp))
          | (refine wpAny_ready (rs := [3]) ?rdy ?mem ?_; (case rdy => decide +kernel); (case mem => simp))
          | (refine wpAny_ready (rs := [7]) ?rdy ?mem ?_; (case rdy => decide +kernel); (case mem => simp))
          | (refine wpAny_ready (rs := [11]) ?rdy ?mem ?_; (case rdy => decide +kernel); (case mem => simp))
          | (go_simp; refine hK _ _ ?_; clear hK K)
        all_goals
          refine wpAny_ready (rs := [15]) (by decide +kernel) (by simp) ?_
          refine AllReady.cons rfl (fun K hK => ?_) AllReady.nil
          refine step_append_run (by rfl) (.const (.slice none 0 0)) (.tmp 45) 26 (by rfl) (by rfl) (by rfl) HRUN.out ?_
          refine hK _ _ ?_
          clear hK K
          simp only [Act.put, List.getElem_toArray, List.getElem_cons_zero, List.getElem_cons_succ, List.setIfInBounds_toArray, List.set_cons_zero, List.set_cons_succ]
          refine wpAny_take (i := 16) (v := v9) rfl (by kernel_rfl) (by kernel_rfl) (by kernel_rfl) (fun _ _ _ h => h) (Or.inl ⟨rfl, fun w => ?_⟩) ?_
          · go_simp
          simp only [Act.put, List.getElem_toArray, List.getElem_cons_zero, List.getElem_cons_succ, List.setIfInBounds_toArray, List.set_cons_zero, List.set_cons_succ]
          refine wpAny_done (by decide +kernel) ?_ _
          go_wp2_with fail
          go_ret
          rw [E1.out]
          have hbn := H2.out.blk.set_ 1 (.int .i64 ((at_ + k : Nat) : Int))
          obtain ⟨h1, h2⟩ := H2.out.turn (at_ + k) 0 hbn (by omega) ((Kept.refl (fun b => b ≠ qb) w2).setCell (fun _ hn => hn rfl) _)
          exact ⟨_, rfl, HROW.out.far H2.out.blk (by decide) _ _, ⟨at_ + k, rfl, h1⟩, (HK3.out.mono fun _ _ _ => trivial).trans h2⟩
  · have hd : (e == 0) = false := beq_eq_false_iff_ne.2 he
    have HE := Lib.hid he
    clear he
    go_enter Try.func22, Try.ntmps22
    go_wp2_with fail
    go_ret
    have e1 : rraw (L.drop at_) e n = ([], L.drop at_, e) := by unfold rraw; rw [if_pos HE.out]
    rw [e1]
    exact ⟨_, rfl, Row1.nil _ _ _, ⟨at_, rfl, HH.out⟩, Kept.refl _ _⟩
end
end Ytglhkfiigbbpdaa
end Go.Proofs
