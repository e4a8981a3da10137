/-
  Touch, Resident, Budget, Victim.
-/
import Derived.Test.YtghcojaggplkkaaAdd
import Derived.Test.YtghcojaggplkkaaSpin
import Derived.Deep.LoopGhost
import Derived.Deep.RegionHeld3
set_option maxHeartbeats 1600000
namespace Go.Proofs
open Go.RowKit
namespace Ytghcojaggplkkaa
attribute [local go_sem ↓] Go.wp_at_zero Go.wp_at_succ
section
variable {w : World} {base : Nat} {L : Lay} {S : Ck}
theorem touch_miss (h : Rep w base L S) {n : Int} (hi : idx S.ring n = none) :
    Calls Try.prog 9 #[.pointer (some ⟨L.kb, 0, none⟩), .int .i64 n] w fun e w' => e = .returned (.tuple #[]) ∧ w = w' := by
  have f3 : w.cell? ⟨L.kb, 3, none⟩ = some (.map (some L.mb)) := by rw [Blk.cell h.kblk]; rfl
  have hlk := lookup_miss (P := Try.prog) (w := w) (z := .pointer none) Try.underlying52 Try.underlying3 rfl h.map (h.miss hi) true
  go_enter Try.func9, Try.ntmps9
  go_wp2
  go_end0
  exact ⟨rfl, rfl⟩
theorem touch_hit (h : Rep w base L S) {n : Int} {i : Nat} {p : Pg} (hi : idx S.ring n = some i) (hp : S.ring[i]? = some p) :
    Calls Try.prog 9 #[.pointer (some ⟨L.kb, 0, none⟩), .int .i64 n] w fun e w' => e = .returned (.tuple #[]) ∧
      Rep w' base L { S with ring := S.ring.set i { p with m := true } } ∧ Kept (fun b => ¬ L.foot b) w w' := by
  obtain ⟨pb, hpb, hgt, hpg⟩ := h.hitp hi hp
  have f3 : w.cell? ⟨L.kb, 3, none⟩ = some (.map (some L.mb)) := by rw [Blk.cell h.kblk]; rfl
  have hlk := lookup_hit (P := Try.prog) (w := w) Try.underlying52 Try.underlying3 h.map hgt true
  have g1 : w.cell? ⟨pb, 1, none⟩ = some (.bool p.m) := hpg.cell 1
  have g2 : w.frozen? ⟨pb, 1, none⟩ = false := hpg.frozen 1
  have HR := Lib.hid (h.setPage { p with m := true } hp hpb 1 (.bool true) rfl rfl)
  have HK : Hid (Kept (fun b => ¬ L.foot b) w (w.setCell ⟨pb, 1, none⟩ (.bool true))) := (Kept.refl _ w).setCell (fun _ hn => hn (.inr (.inr (.inr (.inr (.inr (List.mem_of_getElem? hpb))))))) _
  clear h hi hp hpb hgt hpg
  go_enter Try.func9, Try.ntmps9
  go_wp2
  go_end0
  exact ⟨rfl, HR.out, HK.out⟩
theorem resident_any (h : Rep w base L S) :
    Calls Try.prog 11 #[.pointer (some ⟨L.kb, 0, none⟩)] w fun e w' => e = .returned (.int .i64 S.tot) ∧
      Rep w' base L { S with g := S.g.on Tal.load } ∧ Kept (fun b => ¬ L.foot b) w w' := by
  have f1 : w.cell? ⟨L.kb, 1, none⟩ = some (.pointer (some ⟨L.rb, 0, none⟩)) := by rw [Blk.cell h.kblk]; rfl
  obtain ⟨t, ht, hg⟩ := h.cnt.get
  have HR := Lib.hid (h.count Tal.load ht hg (i := 0) (u := .int .i64 t.load.l) rfl)
  have HK : Hid (Kept (fun b => ¬ L.foot b) w (w.setCell ⟨L.rk, 0, none⟩ (.int .i64 t.load.l))) := (Kept.refl _ w).setCell (fun _ hn => hn (.inr (.inr (.inl rfl)))) _
  have hres := h.res
  clear hg h
  go_enter Try.func11, Try.ntmps11
  go_wp2_with fail
  refine (iload_any L.rb L.rk _ S.tot t hres ht).mono ?_
  rintro e w' ⟨rfl, rfl⟩
  go_wp2_with fail
  go_ret
  exact ⟨rfl, HR.out, HK.out⟩
theorem budget_any (h : Rep w base L S) :
    Calls Try.prog 19 #[.pointer (some ⟨L.kb, 0, none⟩)] w fun e w' => e = .returned (.int .i64 S.budget) ∧ w = w' := by
  have f1 : w.cell? ⟨L.kb, 0, none⟩ = some (.int .i64 S.budget) := by rw [Blk.cell h.kblk]; rfl
  go_enter Try.func19, Try.ntmps19
  go_wp2
  go_ret
  exact ⟨rfl, rfl⟩
theorem Rep.setHand (h : Rep w base L S) (hd : Nat) : Rep (w.setCell ⟨L.kb, 4, none⟩ (.int .i64 hd)) base L { S with hand := hd } where
  kblk := h.kblk.set_ 4 (.int .i64 hd)
  res := blk_far h.res h.kblk (by decide) _ _
  ring := h.ring.far h.kblk (by decide) _ _
  map := h.map.kept (K := fun c => c ≠ L.kb) ((Kept.refl _ w).setCell (fun _ hn => hn rfl) _) (h.map.ne_blk h.kblk)
  pages := fun j p b hp hb => blk_far (h.pages j p b hp hb) h.kblk (by decide) _ _
  nd := h.nd
  lp := h.lp
  cnt := by
    obtain ⟨t1, ht1, _⟩ := h.cnt.get
    exact h.cnt.kept (K := fun c => c ≠ L.kb) ((Kept.refl _ _).setCell (fun _ hn => hn rfl) _) (Blk.ne_ ht1 h.kblk (by decide))
  low := h.low

theorem victim_no (h : Rep w base L S) (ht0 : S.tot ≤ S.budget) :
    Calls Try.prog 10 #[.pointer (some ⟨L.kb, 0, none⟩)] w fun e w' => e = .returned (.tuple #[.int .i64 0, .bool false]) ∧
      Rep w' base L { S with g := S.g.on Tal.load } ∧ Kept (fun b => ¬ L.foot b) w w' := by
  have f1 : w.cell? ⟨L.kb, 1, none⟩ = some (.pointer (some ⟨L.rb, 0, none⟩)) := by rw [Blk.cell h.kblk]; rfl
  have f0 : w.cell? ⟨L.kb, 0, none⟩ = some (.int .i64 S.budget) := by rw [Blk.cell h.kblk]; rfl
  have hd : decide (S.tot ≤ S.budget) = true := by simp; omega
  obtain ⟨t, ht, hg⟩ := h.cnt.get
  have hR := h.count Tal.load ht hg (i := 0) (u := .int .i64 t.load.l) rfl
  have HK : Hid (Kept (fun b => ¬ L.foot b) w (w.setCell ⟨L.rk, 0, none⟩ (.int .i64 t.load.l))) := (Kept.refl _ w).setCell (fun _ hn => hn (.inr (.inr (.inl rfl)))) _
  obtain ⟨w1, hw1⟩ : ∃ w1, w.setCell ⟨L.rk, 0, none⟩ (.int .i64 t.load.l) = w1 := ⟨_, rfl⟩
  rw [hw1] at hR HK
  have K0 : Hid (w.cell? ⟨L.kb, 0, none⟩ = some (.int .i64 S.budget) ∧ w.cell? ⟨L.kb, 1, none⟩ = some (.pointer (some ⟨L.rb, 0, none⟩)) ∧ w.cell? ⟨L.kb, 2, none⟩ = some L.rv) := ⟨h.kblk.cell 0, h.kblk.cell 1, h.kblk.cell 2⟩
  have K1 : Hid (w1.cell? ⟨L.kb, 0, none⟩ = some (.int .i64 S.budget) ∧ w1.cell? ⟨L.kb, 1, none⟩ = some (.pointer (some ⟨L.rb, 0, none⟩)) ∧ w1.cell? ⟨L.kb, 2, none⟩ = some L.rv) := ⟨hR.kblk.cell 0, hR.kblk.cell 1, hR.kblk.cell 2⟩
  have g0 := K1.out.1
  have g2 := K1.out.2.2
  have HW := Lib.hid hw1
  have HR := Lib.hid hR
  have hres := h.res
  clear hg h hR hw1
  go_enter Try.func10, Try.ntmps10
  go_upto_region 1 with fail
  first
    | (go_region_law (first | ((try go_simp); go_at_call 23; refine (iload_any L.rb L.rk _ S.tot t (by exact hres) (by exact ht)).mono ?_; rintro e w' ⟨rfl, hw'⟩; replace hw' := hw'.trans (congrArg World.drew HW.out); subst hw')))
    | (clear HW; trivial)
  all_goals go_wp2_with fail
  all_goals go_ret2
  all_goals exact ⟨rfl, HR.out.drew, HK.out.drew⟩

/-- What a round of the hand needs of the ring. -/
theorem Rep.turn (h : Rep w base L S) (hnd : (S.ring.map (·.n)).Nodup) {p : Pg} (hp : S.ring[S.hand]? = some p) : ∃ g cap pb, L.rv = .slice (some ⟨g, 0, none⟩) S.ring.length cap ∧ w.cell? ⟨g, S.hand, none⟩ = some (.int .i64 p.n) ∧
    L.pbs[S.hand]? = some pb ∧ getAt (entries S.ring L.pbs) p.n = some (.pointer (some ⟨pb, 0, none⟩)) ∧ Blk w pb 59 #[.int .i64 p.b, .bool p.m] := by
  obtain ⟨g, cap, hv, hc⟩ := h.ring.at_ (i := S.hand) (x := .int .i64 p.n) (by rw [List.getElem?_map, hp]; rfl)
  rw [List.length_map] at hv
  have hi : idx S.ring p.n = some S.hand := by
    unfold idx
    rw [List.findIdx?_eq_some_iff_getElem]
    obtain ⟨hl, he⟩ := List.getElem?_eq_some_iff.1 hp
    refine ⟨hl, by simp [he], fun j hj => ?_⟩
    simp only [beq_iff_eq]
    intro e
    have h1 : (S.ring.map (·.n))[S.hand]? = some p.n := by rw [List.getElem?_map, hp]; rfl
    have h2 : (S.ring.map (·.n))[j]? = some p.n := by
      rw [List.getElem?_map, List.getElem?_eq_getElem (by omega), Option.map_some, ← e]
    have := (List.getElem?_inj (by simpa using hl) hnd).1 (h1.trans h2.symm)
    omega
  obtain ⟨pb, hb, hg, hpg⟩ := h.hitp hi hp
  exact ⟨g, cap, pb, hv, hc, hb, hg, hpg⟩
theorem set_map_n (r : List Pg) (i : Nat) (p p' : Pg) (hp : r[i]? = some p) (hn : p'.n = p.n) : (r.set i p').map (·.n) = r.map (·.n) := by
  obtain ⟨hil, hpe⟩ := List.getElem?_eq_some_iff.1 hp
  rw [List.map_set, hn]
  apply List.ext_getElem? fun k => ?_
  rw [List.getElem?_set]
  split
  · next e =>
    subst e
    simp [hil, hpe]
  · rfl

theorem victim_yes (h : Rep w base L S) (ht0 : S.budget < S.tot) (hnd : (S.ring.map (·.n)).Nodup) (hh : S.hand < S.ring.length) (hl : S.ring.length ≤ 512) :
    Calls Try.prog 10 #[.pointer (some ⟨L.kb, 0, none⟩)] w fun e w' => e = .returned (.tuple #[.int .i64 (spin S.ring S.hand).1, .bool true]) ∧
      Rep w' base L { S with ring := (spin S.ring S.hand).2.1, hand := (spin S.ring S.hand).2.2, g := S.g.on Tal.load } ∧ Kept (fun b => ¬ L.foot b) w w' := by
  have hd : decide (S.tot ≤ S.budget) = false := by simp; omega
  obtain ⟨t, ht, hg⟩ := h.cnt.get
  have hR := h.count Tal.load ht hg (i := 0) (u := .int .i64 t.load.l) rfl
  have HK : Hid (Kept (fun b => ¬ L.foot b) w (w.setCell ⟨L.rk, 0, none⟩ (.int .i64 t.load.l))) := (Kept.refl _ w).setCell (fun _ hn => hn (.inr (.inr (.inl rfl)))) _
  obtain ⟨w1, hw1⟩ : ∃ w1, w.setCell ⟨L.rk, 0, none⟩ (.int .i64 t.load.l) = w1 := ⟨_, rfl⟩
  rw [hw1] at hR HK
  obtain ⟨A, c, hv⟩ := h.ring.form
  rw [List.length_map] at hv
  have f0 : w.cell? ⟨L.kb, 0, none⟩ = some (.int .i64 S.budget) := h.kblk.cell 0
  have f1 : w.cell? ⟨L.kb, 1, none⟩ = some (.pointer (some ⟨L.rb, 0, none⟩)) := h.kblk.cell 1
  have g0 : w1.cell? ⟨L.kb, 0, none⟩ = some (.int .i64 S.budget) := hR.kblk.cell 0
  have g2 : w1.cell? ⟨L.kb, 2, none⟩ = some (.slice A S.ring.length c) := (hR.kblk.cell 2).trans (congrArg some hv)
  have hne : ((S.ring.length : Int) == 0) = false := by rw [beq_eq_false_iff_ne]; omega
  have hne2 : ¬ S.ring.length = 0 := by omega
  have HW := Lib.hid hw1
  have HR := Lib.hid hR
  have HND := Lib.hid hnd
  have hres := h.res
  clear hg h hR hw1 hv hnd
  go_enter Try.func10, Try.ntmps10
  go_upto_region 1 with fail
  go_cut [23] (fun v wx => v = .bool false ∧ wx = w1.drew)
  case first =>
    first
      | (go_region_law (first | ((try go_simp); go_at_call 23; refine (iload_any L.rb L.rk _ S.tot t (by exact hres) (by exact ht)).mono ?_; rintro e w' ⟨rfl, hw'⟩; replace hw' := hw'.trans (congrArg World.drew HW.out); subst hw')))
      | (clear HW; trivial)
    all_goals go_wp2_with fail
    all_goals go_meet
    all_goals exact ⟨rfl, rfl⟩
  case rest =>
    obtain ⟨rfl, rfl⟩ := hcut
    clear f0 f1 g0 g2 hne hne2 hd
    go_wp2_with fail
    go_loopg [] (marks S.ring) (fun k wr => ∃ r h, marks r = k ∧ Rep wr base L { S with ring := r, hand := h, g := S.g.on Tal.load } ∧ h < r.length ∧ r.length ≤ 512 ∧ Hid ((r.map (·.n)).Nodup) ∧ Hid (spin S.ring S.hand = spin r h) ∧ Kept (fun b => ¬ L.foot b) w wr)
    case atStart => exact ⟨S.ring, S.hand, rfl, HR.out.drew, hh, hl, HND, Lib.hid rfl, HK.out.drew⟩
    case round =>
      obtain ⟨r, h, hmk, hr, hlt, hl5, HN, HS, hkp⟩ := hrel
      obtain ⟨p, hp⟩ : ∃ p, r[h]? = some p := ⟨_, List.getElem?_eq_getElem hlt⟩
      obtain ⟨g, cap, pb, hv, hc, hb, hgt, hpg⟩ := hr.turn HN.out hp
      simp only at hv hc hb hgt hpg
      have a2 : wr.cell? ⟨L.kb, 2, none⟩ = some (.slice (some ⟨g, 0, none⟩) r.length cap) := (hr.kblk.cell 2).trans (congrArg some hv)
      have a4 : wr.cell? ⟨L.kb, 4, none⟩ = some (.int .i64 h) := hr.kblk.cell 4
      have a4f : wr.frozen? ⟨L.kb, 4, none⟩ = false := hr.kblk.frozen 4
      have hi1 : (h : Int) < (r.length : Int) := by omega
      have hi0 : (0 : Int) ≤ (h : Int) := by omega
      have hw1 : IntKind.i64.wrap ((h : Int) + 1) = (h : Int) + 1 := by rw [IntKind.wrap_i64]; omega
      have hz : ((r.length : Int) == 0) = false := by rw [beq_eq_false_iff_ne]; omega
      have hz2 : ¬ r.length = 0 := by omega
      have e1 : ((h : Int) + 1) % (r.length : Int) = (((h + 1) % r.length : Nat) : Int) := by push_cast; rfl
      have hr2 := (hr.setHand ((h + 1) % r.length)).drew.drew
      have hk2 : Kept (fun b => ¬ L.foot b) w ((wr.setCell ⟨L.kb, 4, none⟩ (.int .i64 (((h : Int) + 1) % (r.length : Int)))).drew.drew) := (hkp.setCell (fun _ hn => hn (.inl rfl)) _).drew.drew
      rw [← e1] at hr2
      have hpg2 := hr2.pages h p pb hp hb
      have hgt2 : getAt (entries r L.pbs) p.n = some (.pointer (some ⟨pb, 0, none⟩)) := hgt
      obtain ⟨w2, hw2⟩ : ∃ w2, (wr.setCell ⟨L.kb, 4, none⟩ (.int .i64 (((h : Int) + 1) % (r.length : Int)))).drew.drew = w2 := ⟨_, rfl⟩
      rw [hw2] at hr2 hk2 hpg2
      have b3 : w2.cell? ⟨L.kb, 3, none⟩ = some (.map (some L.mb)) := hr2.kblk.cell 3
      have hlk := lookup_hit (P := Try.prog) (w := w2) Try.underlying52 Try.underlying3 hr2.map hgt2 false
      have c1 : w2.cell? ⟨pb, 1, none⟩ = some (.bool p.m) := hpg2.cell 1
      have c1f : w2.frozen? ⟨pb, 1, none⟩ = false := hpg2.frozen 1
      have HR2 := Lib.hid hr2
      have HW2 := Lib.hid hw2
      have HK2 := Lib.hid hk2
      have HB := Lib.hid hb
      have HP := Lib.hid hp
      have HM := Lib.hid hmk
      clear hr hmk hkp hb hgt hpg hv hp hr2 hw2 hk2 hgt2 e1 hpg2
      go_upto_region 5 with go_region
      all_goals rw [HW2.out]
      all_goals clear a2 a4 a4f hc hi1 hi0 hw1 hz hz2
      all_goals cases hm : p.m
      all_goals rw [hm] at c1
      all_goals have HMM := Lib.hid hm
      all_goals clear hm
      all_goals go_wp2_with fail
      · go_ret2
        have e := HS.out.trans (spin_stop HP.out HMM.out)
        rw [e]
        exact ⟨rfl, HR2.out, HK2.out⟩
      · go_roundg (marks (r.set h (clearM p)))
        case measure =>
          have := marks_set r h p HP.out HMM.out
          have := HM.out
          omega
        case rel =>
          refine ⟨r.set h (clearM p), (h + 1) % r.length, rfl, ?_, ?_, ?_, ?_, ?_, ?_⟩
          · exact HR2.out.setPage (clearM p) HP.out HB.out 1 (.bool false) rfl rfl
          · rw [List.length_set]; exact Nat.mod_lt _ (by omega)
          · rw [List.length_set]; exact hl5
          · exact Lib.hid (by rw [set_map_n r h p (clearM p) HP.out rfl]; exact HN.out)
          · exact Lib.hid (HS.out.trans (spin_go HP.out HMM.out))
          · exact HK2.out.setCell (fun _ hn => hn (.inr (.inr (.inr (.inr (.inr (List.mem_of_getElem? HB.out))))))) _
end
end Ytghcojaggplkkaa
end Go.Proofs
