/-
  The reference's clock: Victim.
-/
import Derived.Test.YtghcojaggplkkaaRefC
import Derived.Deep.LoopGhost
import Derived.BigRegion
set_option maxHeartbeats 1000000
namespace Go.Proofs
open Go.RowKit
namespace Ytghcojaggplkkaa
attribute [local go_sem ↓] Go.wp_at_zero Go.wp_at_succ
section
variable {w w' : World} {base : Nat} {R : RLay} {S : Ck}
theorem RRep.setHand (h : RRep w base R S) (hd : Nat) : RRep (w.setCell ⟨R.rb, 2, none⟩ (.int .i64 hd)) base R { S with hand := hd } :=
  h.struct 2 _ rfl rfl h.some_
theorem victimR_no (h : RRep w base R S) (G : Good S) (ht : S.tot ≤ S.budget) :
    Calls Try.prog 16 #[.pointer (some ⟨R.rb, 0, none⟩)] w fun e w' => e = .returned (.tuple #[.int .i64 0, .bool false]) ∧ RRep w' base R S.load ∧ Kept (fun b => ¬ R.foot b) w w' := by
  have hd : decide (S.tot ≤ S.budget) = true := by simp; omega
  go_enter Try.func16, Try.ntmps16
  go_wp2_with fail
  refine (residentR h G).mono ?_
  rintro e w1 ⟨rfl, hr, hk⟩
  have c0 : w1.cell? ⟨R.rb, 0, none⟩ = some (.int .i64 S.budget) := hr.rblk.cell 0
  have HR := Lib.hid hr
  have HK := Lib.hid hk
  clear h hr hk
  go_wp2_with fail
  go_ret2
  exact ⟨rfl, HR.out, HK.out⟩

theorem victimR_yes (h : RRep w base R S) (G : Good S) (ht : S.budget < S.tot) (hh : S.hand < S.ring.length) :
    Calls Try.prog 16 #[.pointer (some ⟨R.rb, 0, none⟩)] w fun e w' => e = .returned (.tuple #[.int .i64 (spin S.ring S.hand).1, .bool true]) ∧
      RRep w' base R { S.load with ring := (spin S.ring S.hand).2.1, hand := (spin S.ring S.hand).2.2 } ∧ Kept (fun b => ¬ R.foot b) w w' := by
  have hd : decide (S.tot ≤ S.budget) = false := by simp; omega
  have hl := G.len
  go_enter Try.func16, Try.ntmps16
  go_wp2_with fail
  refine (residentR h G).mono ?_
  rintro e w1 ⟨rfl, hr, hk⟩
  have c0 : w1.cell? ⟨R.rb, 0, none⟩ = some (.int .i64 S.budget) := hr.rblk.cell 0
  obtain ⟨A, c, hv⟩ := hr.lv.form
  have c1 : w1.cell? ⟨R.rb, 1, none⟩ = some (.slice A S.load.ring.length c) := (hr.rblk.cell 1).trans (congrArg some hv)
  have hrl : S.load.ring.length = S.ring.length := rfl
  rw [hrl] at c1
  have hne : ((S.ring.length : Int) == 0) = false := by rw [beq_eq_false_iff_ne]; omega
  have hne2 : ¬ S.ring.length = 0 := by omega
  have HR := Lib.hid hr
  have HK := Lib.hid hk
  clear h hr hk hv G
  go_wp2_with fail
  clear c0 c1 hne hne2 hd
  go_loopg [] (marks S.ring) (fun k wr => ∃ r h, marks r = k ∧ RRep wr base R { S.load with ring := r, hand := h } ∧ h < r.length ∧ r.length ≤ 512 ∧ Hid (spin S.ring S.hand = spin r h) ∧ Kept (fun b => ¬ R.foot b) w wr)
  case atStart => exact ⟨S.ring, S.hand, rfl, HR.out, hh, hl, Lib.hid rfl, HK.out⟩
  case round =>
    obtain ⟨r, h, hmk, hr, hlt, hl5, HS, hkp⟩ := hrel
    obtain ⟨p, hp⟩ : ∃ p, r[h]? = some p := ⟨_, List.getElem?_eq_getElem hlt⟩
    obtain ⟨g, cap, hv, d0, d1, d2⟩ := hr.page (show ({ S.load with ring := r, hand := h } : Ck).ring[h]? = some p from hp)
    simp only at hv d0 d1 d2
    have a1 : wr.cell? ⟨R.rb, 1, none⟩ = some (.slice (some ⟨g, 0, none⟩) r.length cap) := (hr.rblk.cell 1).trans (congrArg some hv)
    have a2 : wr.cell? ⟨R.rb, 2, none⟩ = some (.int .i64 h) := hr.rblk.cell 2
    have hi1 : (h : Int) < (r.length : Int) := by omega
    have hw1 : IntKind.i64.wrap ((h : Int) + 1) = (h : Int) + 1 := by rw [IntKind.wrap_i64]; omega
    have hz : ((r.length : Int) == 0) = false := by rw [beq_eq_false_iff_ne]; omega
    have hz2 : ¬ r.length = 0 := by omega
    have HP := Lib.hid hp
    have HRR := Lib.hid hr
    have HV := Lib.hid hv
    have HKP := Lib.hid hkp
    have HM := Lib.hid hmk
    clear hp hr hv hkp hmk
    cases hm : p.m with
    | false =>
      rw [hm] at d2
      have HMM := Lib.hid hm
      clear hm
      have e1 : ((h : Int) + 1) % (r.length : Int) = (((h + 1) % r.length : Nat) : Int) := by push_cast; rfl
      have hr2 := (HRR.out.setHand ((h + 1) % r.length))
      have hk2 : Kept (fun b => ¬ R.foot b) w (wr.setCell ⟨R.rb, 2, none⟩ (.int .i64 (((h : Int) + 1) % (r.length : Int)))) := HKP.out.setCell (fun _ hn => hn (.inl rfl)) _
      rw [← e1] at hr2
      have HR2 := Lib.hid hr2
      have HK2 := Lib.hid hk2
      have a2f : wr.frozen? ⟨R.rb, 2, none⟩ = false := HRR.out.rblk.frozen 2
      clear e1 hr2 hk2
      go_wp2_with fail
      go_region
      all_goals go_wp2_with fail
      all_goals go_region
      all_goals go_wp2_with fail
      all_goals go_region
      all_goals go_wp2_with fail
      all_goals go_ret2
      all_goals
        have e := HS.out.trans (spin_stop HP.out HMM.out)
        rw [e]
        exact ⟨rfl, HR2.out.drew.drew.drew, HK2.out.drew.drew.drew⟩
    | true =>
      rw [hm] at d2
      have HMM := Lib.hid hm
      clear hm
      have e1 : ((h : Int) + 1) % (r.length : Int) = (((h + 1) % r.length : Nat) : Int) := by push_cast; rfl
      obtain ⟨cs, hcs, hbg⟩ := HRR.out.lv.blk (g := g) (by rw [HV.out]; rfl)
      have c2f : wr.frozen? ⟨g, h * 3 + 2, none⟩ = false := hcs.frozen _
      have hrs : RRep (wr.setCell ⟨g, h * 3 + 2, none⟩ (.bool false)) base R { S.load with ring := r.set h (clearM p), hand := h } :=
        HRR.out.ringTo HV.out (by show h * 3 + 2 < r.length * 3; omega) ((ring_set r h p (clearM p) HP.out rfl).2 rfl) (by simp) rfl HRR.out.some_
      have hks : Kept (fun b => ¬ R.foot b) w (wr.setCell ⟨g, h * 3 + 2, none⟩ (.bool false)) := HKP.out.setCell (fun _ hn => hn (.inr (by rw [HV.out]; rfl))) _
      obtain ⟨w2, hw2⟩ : ∃ w2, wr.setCell ⟨g, h * 3 + 2, none⟩ (.bool false) = w2 := ⟨_, rfl⟩
      rw [hw2] at hrs hks
      have b1 : w2.cell? ⟨R.rb, 1, none⟩ = some (.slice (some ⟨g, 0, none⟩) r.length cap) := (hrs.rblk.cell 1).trans (congrArg some HV.out)
      have b2 : w2.cell? ⟨R.rb, 2, none⟩ = some (.int .i64 h) := hrs.rblk.cell 2
      have b2f : w2.frozen? ⟨R.rb, 2, none⟩ = false := hrs.rblk.frozen 2
      have hr3 := hrs.setHand ((h + 1) % r.length)
      rw [← e1] at hr3
      have hk3 : Kept (fun b => ¬ R.foot b) w (w2.setCell ⟨R.rb, 2, none⟩ (.int .i64 (((h : Int) + 1) % (r.length : Int)))) := hks.setCell (fun _ hn => hn (.inl rfl)) _
      have HR3 := Lib.hid hr3
      have HK3 := Lib.hid hk3
      clear hcs hrs hks hr3 hk3 e1
      go_wp2_with fail
      go_region
      all_goals go_wp2_with fail
      all_goals go_region
      all_goals go_wp2_with fail
      all_goals go_region
      all_goals go_wp2_with fail
      all_goals go_roundg (marks (r.set h (clearM p)))
      case measure =>
        have := marks_set r h p HP.out HMM.out
        have := HM.out
        omega
      case rel =>
        refine ⟨r.set h (clearM p), (h + 1) % r.length, rfl, HR3.out.drew.drew.drew, ?_, by rw [List.length_set]; exact hl5, Lib.hid (HS.out.trans (spin_go HP.out HMM.out)), HK3.out.drew.drew.drew⟩
        rw [List.length_set]
        exact Nat.mod_lt _ (by omega)
end
end Ytghcojaggplkkaa
end Go.Proofs
