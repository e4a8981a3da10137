/-
  The reference's clock: Add that takes in, and that lets go.
-/
import Derived.Test.YtghcojaggplkkaaRefF
set_option maxHeartbeats 1000000
namespace Go.Proofs
open Go.RowKit
namespace Ytghcojaggplkkaa
attribute [local go_sem ↓] Go.wp_at_zero Go.wp_at_succ
section
variable {w w' : World} {base : Nat} {R : RLay} {S : Ck}
/-- The ring's slice is another one. -/
theorem RRep.ringNew {w2 : World} {lv' : Value} {g' : Nat} {ring : List Pg} (h : RRep w base R S) (hk : Kept (fun b => R.lv.ownBlock ≠ some b) w w2) (hlv : RowS w2 base 69 3 lv' ring.length (ringCells ring)) (hg' : lv'.ownBlock = some g') (hat : R.lv.ownBlock = some g' ∨ w.heap.size ≤ g') :
    RRep (w2.setCell ⟨R.rb, 1, none⟩ lv') base { R with lv := lv' } { S with ring := ring } ∧ (∀ c, ({ R with lv := lv' } : RLay).foot c → R.foot c ∨ w.heap.size ≤ c) ∧ Kept (fun b => ¬ R.foot b) w (w2.setCell ⟨R.rb, 1, none⟩ lv') := by
  have hne : R.lv.ownBlock ≠ some R.rb := h.lv.ne_ h.rblk (by decide)
  have hb2 := h.rblk.kept hk hne
  refine ⟨?_, ?_, (hk.mono fun b _ hb e => hb (.inr e)).setCell (fun _ hn => hn (.inl rfl)) _⟩
  · exact {
      rblk := hb2.set_ 1 lv'
      lv := hlv.far hb2 (by decide) _ _
      some_ := h.some_
      low := fun b hb => by
        rcases hb with rfl | hb
        · exact h.low _ (.inl rfl)
        · obtain ⟨_, _, h2⟩ := hlv.blk hb
          exact h2 }
  · intro c hc
    rcases hc with rfl | hc
    · exact .inl (.inl rfl)
    · rw [show lv'.ownBlock = some c from hc] at hg'
      cases hg'
      exact hat.imp .inr id

theorem addR_new (h : RRep w base R S) (hl : S.ring.length ≤ 512) {n b : Int} (h1 : 1 ≤ n) (h2 : n ≤ 512) (h3 : 1 ≤ b) (h4 : b ≤ 1099511627776) (hi : idx S.ring n = none) (hbase : base ≤ w.heap.size) :
    Calls Try.prog 14 #[.pointer (some ⟨R.rb, 0, none⟩), .int .i64 n, .int .i64 b] w fun e w' => e = .returned (.int .i64 0) ∧ RGrown w w' base R { S with ring := S.ring ++ [⟨n, b, true⟩], g := S.g.on Tal.add } := by
  have hd : decide (n < 1) = false := by simp; omega
  have hd2 : decide (512 < n) = false := by simp; omega
  have hd3 : decide (b < 0) = false := by simp; omega
  have hd4 : decide (1099511627776 < b) = false := by simp; omega
  have hd5 : (b == 0) = false := by simp; omega
  obtain ⟨i0, hi0, hz0, hz1, hz2⟩ := info_parts Try.info69
  have HH := Lib.hid h
  have HI := Lib.hid hi
  clear h hi
  go_enter Try.func14, Try.ntmps14
  go_wp2_with fail
  refine (atR HH.out hl n).mono ?_
  rintro e w' ⟨x, rfl, rfl, hx⟩
  rcases hx with ⟨rfl, hi⟩ | ⟨m, rfl, hi⟩
  · have c7 : w.cell? ⟨R.rb, 7, none⟩ = some (.int .i64 S.tal.a) := HH.out.rblk.cell 7
    have c7f : w.frozen? ⟨R.rb, 7, none⟩ = false := HH.out.rblk.frozen 7
    have hr1 := HH.out.adds
    have hs1 : (w.setCell ⟨R.rb, 7, none⟩ (.int .i64 (wrap64 (S.tal.a + 1)))).heap.size = w.heap.size := by simp
    have hk1 : Kept (fun b => ¬ R.foot b) w (w.setCell ⟨R.rb, 7, none⟩ (.int .i64 (wrap64 (S.tal.a + 1)))) := (Kept.refl _ w).setCell (fun _ hn => hn (.inl rfl)) _
    obtain ⟨w1, hw1⟩ : ∃ w1, w.setCell ⟨R.rb, 7, none⟩ (.int .i64 (wrap64 (S.tal.a + 1))) = w1 := ⟨_, rfl⟩
    rw [hw1] at hr1 hk1 hs1
    obtain ⟨A, c, hv⟩ := hr1.lv.form
    have q1 : w1.cell? ⟨R.rb, 1, none⟩ = some (.slice A S.ring.length c) := (hr1.rblk.cell 1).trans (congrArg some hv)
    have hka : Kept (fun _ => True) w1 (w1.alloc (.cells #[.int .i64 n, .int .i64 b, .bool true] 69)) := (Kept.refl _ w1).alloc _
    have hra := hr1.kept (hka.mono fun _ _ _ => trivial)
    obtain ⟨g', cap', w2, hrun, hrow, hk2, hat⟩ := run_append_rowS (P := Try.prog) (t := 47) (ty := 47) (base := base) Try.underlying47 hi0 hz0 hz1 hz2 (by rfl) hra.lv ⟨w1.heap.size, 0, none⟩ 1 1 [.int .i64 n, .int .i64 b, .bool true] (by rfl)
      (World.news_of_block (heap_alloc_new _ _)) (by simp [Value.oneCell']) (by decide) (by show S.ring.length + 1 ≤ _; unfold maxLen; omega) (by show (S.ring.length + 1) * 24 ≤ _; omega) (by rw [World.size_alloc]; omega)
    have hb2 := hra.rblk.kept hk2 (hra.lv.ne_ hra.rblk (by decide))
    have q2 : w2.cell? ⟨R.rb, 1, none⟩ = some R.lv := hb2.cell 1
    have q2f : w2.frozen? ⟨R.rb, 1, none⟩ = false := hb2.frozen 1
    have hrc : ringCells S.ring ++ [.int .i64 n, .int .i64 b, .bool true] = ringCells (S.ring ++ [⟨n, b, true⟩]) := by simp [ringCells]
    have hN := hra.ringNew (ring := S.ring ++ [⟨n, b, true⟩]) hk2 (by
      rw [← hrc, List.length_append]
      exact hrow) rfl (hat.imp id fun e => Nat.le_of_eq e.symm)
    have HN := Lib.hid hN
    have HK1 := Lib.hid hk1
    have HKA := Lib.hid hka
    rw [hv] at hrun
    have HRUN := Lib.hid hrun
    have HS1 := Lib.hid hs1
    clear hs1 hi hr1 hk1 hv hrun hrow hk2 hat hra hka hN hb2 hrc
    go_wp2_with (at_builtin; refine wpList_append_run (by rfl) (.tmp 47) (.tmp 51) 47 (by rfl) (by rfl) (by rfl) HRUN.out ?_)
    go_ret
    obtain ⟨hn1, hn2, hn3⟩ := HN.out
    refine ⟨rfl, _, hn1, rfl, fun c hc => (hn2 c hc).imp id fun h => ?_, (HK1.out.trans (HKA.out.mono fun _ _ _ => trivial)).trans hn3⟩
    rw [World.size_alloc, HS1.out] at h
    omega
  · exact absurd (HI.out.symm.trans hi) (by simp)

theorem addR_drop (h : RRep w base R S) (hl : S.ring.length ≤ 512) (hh : S.hand ≤ 512) {n : Int} {i : Nat} (h1 : 1 ≤ n) (h2 : n ≤ 512) (hi : idx S.ring n = some i) (hbase : base ≤ w.heap.size) :
    Calls Try.prog 14 #[.pointer (some ⟨R.rb, 0, none⟩), .int .i64 n, .int .i64 0] w fun e w' => e = .returned (.int .i64 0) ∧ RGrown w w' base R { S with ring := S.ring.eraseIdx i, hand := dropHand S.ring.length S.hand i, g := S.g.on Tal.add } := by
  have hd : decide (n < 1) = false := by simp; omega
  have hd2 : decide (512 < n) = false := by simp; omega
  obtain ⟨i0, hi0, hz0, hz1, hz2⟩ := info_parts Try.info69
  have HH := Lib.hid h
  have HI := Lib.hid hi
  clear h hi
  go_enter Try.func14, Try.ntmps14
  go_wp2_with fail
  refine (atR HH.out hl n).mono ?_
  rintro e w' ⟨x, rfl, rfl, hx⟩
  rcases hx with ⟨rfl, hi⟩ | ⟨m, rfl, hi⟩
  · exact absurd (HI.out.symm.trans hi) (by simp)
  · have : i = m := by have := HI.out.symm.trans hi; simpa using this
    subst this
    obtain ⟨p, hp, hpn⟩ := idx_some hi
    have hil : i < S.ring.length := (List.getElem?_eq_some_iff.1 hp).1
    have c7 : w.cell? ⟨R.rb, 7, none⟩ = some (.int .i64 S.tal.a) := HH.out.rblk.cell 7
    have c7f : w.frozen? ⟨R.rb, 7, none⟩ = false := HH.out.rblk.frozen 7
    have hr1 := HH.out.adds
    have hs1 : (w.setCell ⟨R.rb, 7, none⟩ (.int .i64 (wrap64 (S.tal.a + 1)))).heap.size = w.heap.size := by simp
    have hk1 : Kept (fun b => ¬ R.foot b) w (w.setCell ⟨R.rb, 7, none⟩ (.int .i64 (wrap64 (S.tal.a + 1)))) := (Kept.refl _ w).setCell (fun _ hn => hn (.inl rfl)) _
    obtain ⟨w1, hw1⟩ : ∃ w1, w.setCell ⟨R.rb, 7, none⟩ (.int .i64 (wrap64 (S.tal.a + 1))) = w1 := ⟨_, rfl⟩
    rw [hw1] at hr1 hk1 hs1
    obtain ⟨g, cap, hv, _⟩ := hr1.page (show ({ S with g := S.g.on Tal.add } : Ck).ring[i]? = some p from hp)
    simp only at hv
    have q1 : w1.cell? ⟨R.rb, 1, none⟩ = some (.slice (some ⟨g, 0, none⟩) S.ring.length cap) := (hr1.rblk.cell 1).trans (congrArg some hv)
    have hlv := hr1.lv
    rw [hv] at hlv
    have hnc : S.ring.length ≤ cap := by
      rcases hlv.2 with ⟨h0, _⟩ | ⟨g0, cap0, cur, hv0, _, _, hnc, _⟩
      · cases h0
      · injection hv0 with _ _ hc
        subst hc
        exact hnc
    have hi1 : i + 1 ≤ S.ring.length := by omega
    have hi2 : S.ring.length ≤ cap := by omega
    have hic : i ≤ cap := by omega
    have hwrap : IntKind.i64.wrap ((i : Int) + 1) = ((i + 1 : Nat) : Int) := by simp [IntKind.wrap_i64]; omega
    have hb1 : 0 ≤ (i : Int) + 1 ∧ (i : Int) + 1 ≤ (S.ring.length : Int) := by omega
    obtain ⟨rv, w2, hrun1, hrow1, hk2, hnew1⟩ := run_rest (P := Try.prog) (t := 47) (ty := 47) (base := base) Try.underlying47 hi0 hz0 hz1 hz2 (by rfl) (by decide) hlv (k := i + 1) hi1 (if cap = i + 1 then ⟨g, 0, none⟩ else ⟨g, (i + 1) * 3, none⟩) (fun hlt => by rw [if_neg (by omega)]) (cap - (i + 1)) (by show S.ring.length ≤ _; unfold maxLen; omega) (by show S.ring.length * 24 ≤ _; omega) (by omega)
    have hr2 := hr1.kept (hk2.mono fun _ _ _ => trivial)
    have q2 : w2.cell? ⟨R.rb, 1, none⟩ = some (.slice (some ⟨g, 0, none⟩) S.ring.length cap) := (hr2.rblk.cell 1).trans (congrArg some hv)
    have hlv2 := hr2.lv
    rw [hv] at hlv2
    have hs2 := hk2.size
    obtain ⟨g', cap', w3, hrun2, hrow2, hk3, hat⟩ := run_glue (P := Try.prog) (t := 47) (ty := 47) (base := base) Try.underlying47 hi0 hz0 hz1 hz2 (by rfl) hlv2 (k := i) (by omega) hrow1 (fun u hu => ringCells_one S.ring u (List.mem_of_mem_drop hu)) (by unfold maxLen; omega) (by omega) (by omega)
    have e1 : i + (S.ring.length - (i + 1)) = S.ring.length - 1 := by omega
    have e2 : S.ring.length - 1 = (S.ring.eraseIdx i).length := by rw [List.length_eraseIdx, if_pos hil]
    rw [e1] at hrun2 hrow2
    rw [ringCells_erase] at hrow2
    have hb3 := hr2.rblk.kept hk3 (fun e => by
      have := hr2.lv.ne_ hr2.rblk (by decide)
      rw [hv, e] at this
      exact this rfl)
    have q3 : w3.cell? ⟨R.rb, 1, none⟩ = some R.lv := hb3.cell 1
    have q3f : w3.frozen? ⟨R.rb, 1, none⟩ = false := hb3.frozen 1
    obtain ⟨hn1, hn2, hn3⟩ := hr2.ringNew (ring := S.ring.eraseIdx i) (hk3.mono fun b _ hb e => hb (by rw [hv, e]; rfl)) (by rw [← e2]; exact hrow2) rfl (hat.imp (fun e => by rw [hv, e]; rfl) fun e => Nat.le_of_eq e.symm)
    have hn3' := (hk1.trans (hk2.mono fun _ _ _ => trivial)).trans hn3
    obtain ⟨w4, hw4⟩ : ∃ w4, w3.setCell ⟨R.rb, 1, none⟩ (.slice (some ⟨g', 0, none⟩) (S.ring.length - 1) cap') = w4 := ⟨_, rfl⟩
    rw [hw4] at hn1 hn3'
    have HN1 := Lib.hid hn1
    have HN3 := Lib.hid hn3'
    have HF : Hid (∀ c, ({ R with lv := .slice (some ⟨g', 0, none⟩) (S.ring.length - 1) cap' } : RLay).foot c → R.foot c ∨ w.heap.size ≤ c) := Lib.hid fun c hc => (hn2 c hc).imp id fun h => by omega
    have q41 : w4.cell? ⟨R.rb, 1, none⟩ = some (.slice (some ⟨g', 0, none⟩) (S.ring.length - 1) cap') := hn1.rblk.cell 1
    have q42 : w4.cell? ⟨R.rb, 2, none⟩ = some (.int .i64 S.hand) := hn1.rblk.cell 2
    have q42f : w4.frozen? ⟨R.rb, 2, none⟩ = false := hn1.rblk.frozen 2
    have q5 : ∀ u, (w4.setCell ⟨R.rb, 2, none⟩ u).cell? ⟨R.rb, 1, none⟩ = some (.slice (some ⟨g', 0, none⟩) (S.ring.length - 1) cap') := fun u => (hn1.rblk.set_ 2 u).cell 1
    have q52 : ∀ u, (w4.setCell ⟨R.rb, 2, none⟩ u).cell? ⟨R.rb, 2, none⟩ = some u := fun u => (hn1.rblk.set_ 2 u).cell 2
    have q5f : ∀ u, (w4.setCell ⟨R.rb, 2, none⟩ u).frozen? ⟨R.rb, 2, none⟩ = false := fun u => (hn1.rblk.set_ 2 u).frozen 2
    have hite : some (if cap = i + 1 then (⟨g, 0, none⟩ : Addr) else ⟨g, (i + 1) * 3, none⟩) = if cap = i + 1 then some ⟨g, 0, none⟩ else some ⟨g, (i + 1) * 3, none⟩ := by split <;> rfl
    rw [hite] at hrun1
    have HRUN1 := Lib.hid hrun1
    have HRUN2 := Lib.hid hrun2
    clear hi hp hpn hr1 hk1 hs1 hv hlv hrun1 hrow1 hk2 hnew1 hr2 hlv2 hs2 hrun2 hrow2 hk3 hat e1 e2 hb3 hn1 hn2 hn3 hn3' hite
    have HC : Hid (∀ (w5 : World) (hd : Nat), Kept (fun b => b ≠ R.rb) w4 w5 → RRep w5 base { R with lv := .slice (some ⟨g', 0, none⟩) (S.ring.length - 1) cap' } { S with ring := S.ring.eraseIdx i, hand := hd, g := S.g.on Tal.add } → hd = dropHand S.ring.length S.hand i → RGrown w w5 base R { S with ring := S.ring.eraseIdx i, hand := dropHand S.ring.length S.hand i, g := S.g.on Tal.add }) := Lib.hid (by
      rintro w5 hd hk5 hr5 rfl
      exact ⟨_, hr5, rfl, HF.out, HN3.out.trans' hk5 fun b _ hb e => hb (.inl e)⟩)
    by_cases hlt : i < S.hand
    · have hd : decide ((i : Int) < (S.hand : Int)) = true := by simp; omega
      have hwr : (S.hand : Int) - 1 = ((S.hand - 1 : Nat) : Int) := by omega
      have HWR := Lib.hid hwr
      clear hwr
      by_cases hge : S.ring.length - 1 ≤ S.hand - 1
      · have hd2 : decide (((S.ring.length - 1 : Nat) : Int) ≤ (S.hand : Int) - 1) = true := by simp; omega
        have HE := Lib.hid (show 0 = dropHand S.ring.length S.hand i by simp only [dropHand, if_pos hlt, if_pos hge])
        go_wp2_with (at_builtin; first | refine wpList_append_run (by rfl) (.const (.slice none 0 0)) (.tmp 71) 47 (by rfl) (by rfl) (by rfl) HRUN1.out ?_ | refine wpList_append_run (by rfl) (.tmp 80) (.tmp 81) 47 (by rfl) (by rfl) (by rfl) HRUN2.out ?_)
        all_goals go_region
        all_goals go_wp2_with fail
        all_goals go_ret
        all_goals exact ⟨rfl, HC.out _ 0 ((((Kept.refl _ w4).setCell (fun _ hn => hn rfl) _).drew).setCell (fun _ hn => hn rfl) _) (by have := ((HN1.out.setHand (S.hand - 1)).drew.setHand 0); rw [← HWR.out] at this; exact this) HE.out⟩
      · have hd2 : decide (((S.ring.length - 1 : Nat) : Int) ≤ (S.hand : Int) - 1) = false := by simp; omega
        have HE := Lib.hid (show S.hand - 1 = dropHand S.ring.length S.hand i by simp only [dropHand, if_pos hlt, if_neg hge])
        go_wp2_with (at_builtin; first | refine wpList_append_run (by rfl) (.const (.slice none 0 0)) (.tmp 71) 47 (by rfl) (by rfl) (by rfl) HRUN1.out ?_ | refine wpList_append_run (by rfl) (.tmp 80) (.tmp 81) 47 (by rfl) (by rfl) (by rfl) HRUN2.out ?_)
        all_goals go_region
        all_goals go_wp2_with fail
        all_goals go_ret
        all_goals exact ⟨rfl, HC.out _ (S.hand - 1) (((Kept.refl _ w4).setCell (fun _ hn => hn rfl) _).drew) (by have := (HN1.out.setHand (S.hand - 1)).drew; rw [← HWR.out] at this; exact this) HE.out⟩
    · have hd : decide ((i : Int) < (S.hand : Int)) = false := by simp; omega
      have hdn : decide (i < S.hand) = false := by simp; omega
      have hdp : (i < S.hand) = False := by simp; omega
      by_cases hge : S.ring.length - 1 ≤ S.hand
      · have hd2 : decide (((S.ring.length - 1 : Nat) : Int) ≤ (S.hand : Int)) = true := by simp; omega
        have HE := Lib.hid (show 0 = dropHand S.ring.length S.hand i by simp only [dropHand, if_neg hlt, if_pos hge])
        go_wp2_with (at_builtin; first | refine wpList_append_run (by rfl) (.const (.slice none 0 0)) (.tmp 71) 47 (by rfl) (by rfl) (by rfl) HRUN1.out ?_ | refine wpList_append_run (by rfl) (.tmp 80) (.tmp 81) 47 (by rfl) (by rfl) (by rfl) HRUN2.out ?_)
        all_goals go_region
        all_goals go_wp2_with fail
        all_goals go_ret
        all_goals exact ⟨rfl, HC.out _ 0 (((Kept.refl _ w4).drew).setCell (fun _ hn => hn rfl) _) (HN1.out.drew.setHand 0) HE.out⟩
      · have hd2 : decide (((S.ring.length - 1 : Nat) : Int) ≤ (S.hand : Int)) = false := by simp; omega
        have HE := Lib.hid (show S.hand = dropHand S.ring.length S.hand i by simp only [dropHand, if_neg hlt, if_neg hge])
        go_wp2_with (at_builtin; first | refine wpList_append_run (by rfl) (.const (.slice none 0 0)) (.tmp 71) 47 (by rfl) (by rfl) (by rfl) HRUN1.out ?_ | refine wpList_append_run (by rfl) (.tmp 80) (.tmp 81) 47 (by rfl) (by rfl) (by rfl) HRUN2.out ?_)
        all_goals go_region
        all_goals go_wp2_with fail
        all_goals go_ret
        all_goals exact ⟨rfl, HC.out _ S.hand ((Kept.refl _ w4).drew) HN1.out.drew HE.out⟩
/-- Add, at one go. -/
theorem addR (h : RRep w base R S) (G : Good S) (n b : Int) (hbase : base ≤ w.heap.size) :
    Calls Try.prog 14 #[.pointer (some ⟨R.rb, 0, none⟩), .int .i64 n, .int .i64 b] w fun e w' => e = .returned (.int .i64 (S.add n b).1) ∧ RGrown w w' base R (S.add n b).2 := by
  have hl := G.len
  have hh := G.hand_le
  unfold Ck.add
  split
  · next hc =>
    refine (addR_bad _ n b w hc).mono ?_
    rintro e w' ⟨rfl, rfl⟩
    exact ⟨rfl, R, h, rfl, fun c hc => .inl hc, Kept.refl _ _⟩
  · next hc =>
    split
    · next hi =>
      split
      · next hb =>
        subst hb
        refine (addR_none h hl (by omega) (by omega) hi).mono ?_
        rintro e w' ⟨rfl, rfl⟩
        exact ⟨rfl, R, h, rfl, fun c hc => .inl hc, Kept.refl _ _⟩
      · next hb =>
        refine (addR_new h hl (n := n) (b := b) (by omega) (by omega) (by omega) (by omega) hi hbase).mono ?_
        rintro e w' ⟨rfl, R', hr, hk, hf, hkp⟩
        exact ⟨rfl, R', hr.as rfl rfl rfl rfl, hk, hf, hkp⟩
    · next i hi =>
      obtain ⟨p, hp, hn⟩ := idx_some hi
      split
      · next hb =>
        subst hb
        refine (addR_drop h hl hh (by omega) (by omega) hi hbase).mono ?_
        rintro e w' ⟨rfl, R', hr, hk, hf, hkp⟩
        exact ⟨rfl, R', hr.as rfl rfl rfl rfl, hk, hf, hkp⟩
      · next hb =>
        refine (addR_upd h hl (b := b) (by omega) (by omega) (by omega) (by omega) hi hp).mono ?_
        rintro e w' ⟨rfl, hr, hkp⟩
        rw [modify_set hp]
        exact ⟨rfl, R, hr.as rfl rfl rfl rfl, rfl, fun c hc => .inl hc, hkp⟩
end
end Ytghcojaggplkkaa
end Go.Proofs
