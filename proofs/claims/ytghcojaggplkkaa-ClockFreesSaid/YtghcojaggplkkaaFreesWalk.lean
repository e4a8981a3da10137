/-
  ClockFrees: the walk.
-/
import Derived.Test.YtghcojaggplkkaaAwake
import Derived.Test.YtghcojaggplkkaaArgs
import Derived.Test.YtghcojaggplkkaaFreesPure
import Derived.StillTailTactics
set_option maxHeartbeats 1000000
set_option maxRecDepth 100000
namespace Go.Proofs
open Go.RowKit
theorem Try.cells30' : Try.prog.cellsOf 30 = 3 := by kernel_rfl
namespace Ytghcojaggplkkaa
attribute [local go_sem ↓] Go.wp_at_zero Go.wp_at_succ

theorem arr_rep' {w : World} {base : Nat} {L : Lay} {S : Ck} {ab : Nat} {t : TypeId} {cs : Array Value} (hr : Rep w base L S) (hab : Blk w ab t cs) (ht : t ≠ 55 ∧ t ≠ 72 ∧ t ≠ 67 ∧ t ≠ 3 ∧ t ≠ 59) (i : Nat) (u : Value) : Rep (w.setCell ⟨ab, i, none⟩ u) base L S :=
  hr.kept ((Kept.refl _ w).setCell (fun _ hn => hr.alien hab ht hn) _)

theorem frees_bad (B : Int) (A : Option Addr) (len cap : Nat) (w : World) (h : B < 0 ∨ 1099511627776 < B) :
    Calls Try.prog 4 #[.int .i64 B, .slice A len cap] w fun e w' => e = .returned (.bool true) ∧ Kept (fun _ => True) w w' := by
  have HB := Lib.hid h
  rcases h with h | h
  · have hd : decide (B < 0) = true := by simp; omega
    go_enter Try.func4, Try.ntmps4
    go_wp2_with fail
    refine (awake_any _).mono ?_
    rintro e w1 ⟨rfl, k1⟩
    go_wp2_with fail
    refine (new_bad _ B _ HB.out).mono ?_
    rintro e w2 ⟨rfl, rfl⟩
    go_wp2_with fail
    go_ret
    exact ⟨rfl, k1⟩
  · have hd : decide (B < 0) = false := by simp; omega
    have hd2 : decide (1099511627776 < B) = true := by simp; omega
    go_enter Try.func4, Try.ntmps4
    go_wp2_with fail
    refine (awake_any _).mono ?_
    rintro e w1 ⟨rfl, k1⟩
    go_wp2_with fail
    refine (new_bad _ B _ HB.out).mono ?_
    rintro e w2 ⟨rfl, rfl⟩
    go_wp2_with fail
    go_ret
    exact ⟨rfl, k1⟩

theorem frees_good (B : Int) (A : Option Addr) (l : List (Int × Int × Int)) (cap : Nat) (w : World) (hB0 : 0 ≤ B) (hB1 : B ≤ 1099511627776) (hl : OpsIn w A l) :
    Calls Try.prog 4 #[.int .i64 B, .slice A l.length cap] w fun e w' => e = .returned (.bool true) ∧ Kept (fun b => b < w.heap.size) w w' := by
  have hal := run_zero37
  have hlen := hl.len
  have hd1 : decide (B < 0) = false := by simp; omega
  have hd2 : decide (1099511627776 < B) = false := by simp; omega
  go_enter Try.func4, Try.ntmps4
  go_wp2_with fail
  refine (awake_any _).mono ?_
  rintro e w1 ⟨rfl, k1⟩
  go_wp2_with fail
  refine (new_good none B w1 w.heap.size hB0 hB1 k1.size (fun p hp => nomatch hp)).mono ?_
  rintro e w2 ⟨L, rfl, hr2, hf2, k2⟩
  have q2 : Kept (fun b => b < w.heap.size) w w2 := (k1.trans k2).mono fun _ _ _ => trivial
  obtain ⟨kb, hkb⟩ : ∃ kb, L.kb = kb := ⟨_, rfl⟩
  rw [hkb]
  have HKB := Lib.hid hkb
  clear hkb k1 k2 hf2
  go_wp2_with fail
  clear hd1 hd2
  have q3 := q2.alloc (.cells (nums fun _ => 0) 37)
  have hb3 : Blk (w2.alloc (.cells (nums fun _ => 0) 37)) w2.heap.size 37 (nums (val [])) := Blk.new w2 37 (nums fun _ => 0)
  have hr3 := hr2.kept ((Kept.refl _ w2).alloc (.cells (nums fun _ => 0) 37))
  obtain ⟨ab, hab⟩ : ∃ ab, w2.heap.size = ab := ⟨_, rfl⟩
  have hle : w.heap.size ≤ ab := by rw [← hab]; exact q2.size
  rw [hab] at hb3 ⊢
  clear hab
  obtain ⟨w3, hw3⟩ : ∃ w3, w2.alloc (.cells (nums fun _ => 0) 37) = w3 := ⟨_, rfl⟩
  rw [hw3] at hb3 hr3 q3 ⊢
  clear hw3 q2 hr2
  go_loopw [9] (fun i wr => ∃ (k : Nat) (L : Lay) (S : Ck), k ≤ l.length ∧ i = .int .i64 k ∧ Hid (Good S) ∧ Hid (S.budget = B) ∧ Rep wr w.heap.size L S ∧ Hid (L.kb = kb) ∧ Blk wr ab 37 (nums (val S.ring)) ∧ Kept (fun b => b < w.heap.size) w wr)
    (fun i _ => l.length - (intOf i).toNat)
  case atStart => exact ⟨0, L, ⟨B, 0, [], 0, none⟩, Nat.zero_le _, rfl, Lib.hid (good_new B none), Lib.hid rfl, hr3, HKB, hb3, q3⟩
  case round =>
    clear hr3 hb3 q3 HKB
    obtain ⟨k, L, S, hk, rfl, HG, HB, hr, HE, hab, q⟩ := hrel
    by_cases hlt : k < l.length
    · obtain ⟨b, off, rfl, hb, c0', c1', c2'⟩ := hl.at_ k _ (List.getElem?_eq_getElem hlt)
      obtain ⟨⟨p1, p2, p3⟩, hp⟩ : ∃ p, l[k] = p := ⟨_, rfl⟩
      rw [hp] at c0' c1' c2'
      simp only at c0' c1' c2'
      clear hp
      have HC1 := Lib.hid c1'
      have HC2 := Lib.hid c2'
      have c0 := (q.cell (p := ⟨b, off + k * 3, none⟩) hb hb).trans c0'
      have c1 := (q.cell (p := ⟨b, off + k * 3 + 1, none⟩) hb hb).trans c1'
      have c2 := (q.cell (p := ⟨b, off + k * 3 + 2, none⟩) hb hb).trans c2'
      clear c0' c1' c2'
      have hbs : w.heap.size ≤ wr.heap.size := q.size
      have hkb : k ≤ 140737488355328 := by omega
      have hfa : ¬ L.foot ab := hr.alien hab (by decide)
      by_cases d1 : p1 = 1
      · have e1 : (p1 == 1) = true := beq_iff_eq.2 d1
        clear d1
        go_wp2_with fail
        refine (TouchE hr HE.out _).mono ?_
        rintro e w' ⟨rfl, hr', hk'⟩
        have q' := hr.past q hk'
        have hab' := hab.kept hk' hfa
        rw [← val_touch (S := S) p2] at hab'
        clear hk' hr hab q
        go_wp2_with fail
        go_roundw
        case rel => exact ⟨k + 1, L, S.touch p2, by omega, by go_num, Lib.hid (HG.out.touch p2), Lib.hid ((touch_budget S p2).trans HB.out), hr', HE, hab', q'⟩
        case measure => simp [intOf]; omega
      · have e1 : (p1 == 1) = false := beq_eq_false_iff_ne.2 d1
        clear d1
        rcases add_code (S := S) p2 p3 with hok | hok
        · obtain ⟨pg, rfl, hpg1, hpg2, hhas, -⟩ := val_add HG.out hok
          have hpi : (pg : Int) < 513 := by omega
          have HOK := Lib.hid hok
          have HHAS := Lib.hid hhas
          clear hok hhas
          go_wp2_with fail
          go_still_tail 11, (by kernel_rfl)
          change wpList _ _ _ _ _ wr.drew
          go_wp2_with fail
          refine (AddE hr.drew HE.out HG.out _ _ hbs).mono ?_
          rintro e w' ⟨he, hgr⟩
          rw [HOK.out] at he
          subst he
          have q' := hgr.past hr.drew q.drew
          obtain ⟨L', hr', hkb', hf', hkp'⟩ := hgr
          have HE' := Lib.hid (hkb'.trans HE.out)
          have c1x := (q'.cell (p := ⟨b, off + k * 3 + 1, none⟩) hb hb).trans HC1.out
          have c2x := (q'.cell (p := ⟨b, off + k * 3 + 2, none⟩) hb hb).trans HC2.out
          have hab' := Blk.kept (w := wr.drew) hab hkp' hfa
          have cab : w'.cell? ⟨ab, pg, none⟩ = some (.int .i64 (val S.ring pg)) := (hab'.cell pg).trans (nums_get _ (by omega))
          have cabf : w'.frozen? ⟨ab, pg, none⟩ = false := hab'.frozen pg
          clear hkb' hkp' hr hab hf' q
          go_wp2_with fail
          go_still_tail 11, (by kernel_rfl)
          change wpList _ _ _ _ _ w'.drew
          go_wp2_with fail
          go_roundw
          case rel =>
            refine ⟨k + 1, L', _, by omega, by go_num, Lib.hid (HG.out.add _ _), Lib.hid ((add_budget _ _ _).trans HB.out), (arr_rep' hr' hab' (by decide) _ _).drew, HE', ?_, (q'.setCell (fun _ hn => Nat.not_lt_of_le hle hn) _).drew⟩
            have h1 := hab'.set_ pg (.int .i64 p3)
            rw [nums_set] at h1
            have h2 : (fun j => if j = pg then p3 else val S.ring j) = val (S.add pg p3).2.ring := by
              funext j
              exact (HHAS.out j).symm
            rw [h2] at h1
            exact h1
          case measure => simp [intOf]; omega
        · have HOK := Lib.hid hok
          have HNO := Lib.hid (has_add_no (S := S) (n := p2) (b := p3) (by rw [hok]; decide))
          clear hok
          go_wp2_with fail
          go_still_tail 11, (by kernel_rfl)
          change wpList _ _ _ _ _ wr.drew
          go_wp2_with fail
          refine (AddE hr.drew HE.out HG.out _ _ hbs).mono ?_
          rintro e w' ⟨he, hgr⟩
          rw [HOK.out] at he
          subst he
          rw [HNO.out] at hgr
          have q' := hgr.past hr.drew q.drew
          obtain ⟨L', hr', hkb', hf', hkp'⟩ := hgr
          have HE' := Lib.hid (hkb'.trans HE.out)
          have hab' := Blk.kept (w := wr.drew) hab hkp' hfa
          clear hkb' hkp' hr hab hf' q
          go_wp2_with fail
          go_roundw
          case rel => exact ⟨k + 1, L', S, by omega, by go_num, HG, HB, hr', HE', hab', q'⟩
          case measure => simp [intOf]; omega
    · clear hk
      go_wp2_with fail
      go_loopw [11, 12] (fun m p wx => ∃ q : Nat, 1 ≤ q ∧ q ≤ 513 ∧ p = .int .i64 q ∧ m = .int .i64 (vs (q - 1) S.ring) ∧ wr = wx)
        (fun _ p _ => 513 - (intOf p).toNat)
      case atStart => exact ⟨1, by omega, by omega, rfl, rfl, rfl⟩
      case round =>
        obtain ⟨qq, hq1, hq2, rfl, rfl, rfl⟩ := hrel
        by_cases hq3 : qq ≤ 512
        · have hd : decide ((qq : Int) ≤ 512) = true := by simp; omega
          have hqi : (qq : Int) < 513 := by omega
          have cab : wr.cell? ⟨ab, qq, none⟩ = some (.int .i64 (val S.ring qq)) := (hab.cell qq).trans (nums_get _ (by omega))
          have hcs := vs_step S.ring hq1
          have hw : IntKind.i64.wrap (vs (qq - 1) S.ring + val S.ring qq) = vs qq S.ring := by
            have a1 := (vs_le HG.out.page qq).1
            have a2 := vs_mono HG.out.page hq3
            have a3 := vs_all S.ring HG.out.page
            have a4 := HG.out.tot_le
            have a5 := HG.out.tot
            rw [← hcs, IntKind.wrap_i64]
            omega
          clear hcs
          go_wp2_with fail
          go_roundw
          case rel => exact ⟨qq + 1, by omega, by omega, by go_num, rfl, trivial⟩
          case measure => simp [intOf]; omega
        · have hd : decide ((qq : Int) ≤ 512) = false := by simp; omega
          have hcr : vs (qq - 1) S.ring = S.tot := by
            rw [show qq - 1 = 512 by omega, vs_all S.ring HG.out.page, HG.out.tot]
          rw [hcr]
          have HL := HG.out.len
          clear hcr hq1 hq2
          go_wp2_with fail
          clear hd hq3 hlt
          go_loopw [11, 13] (fun sm i wx => ∃ (k : Nat) (L : Lay) (S : Ck), i = .int .i64 k ∧ sm = .int .i64 S.tot ∧ S.ring.length + k ≤ 512 ∧ Hid (Good S) ∧ Hid (S.budget = B) ∧ Rep wx w.heap.size L S ∧ Hid (L.kb = kb) ∧ Blk wx ab 37 (nums (val S.ring)) ∧ Kept (fun b => b < w.heap.size) w wx)
            (fun _ i _ => 513 - (intOf i).toNat)
          case atStart => exact ⟨0, L, S, rfl, rfl, by omega, HG, HB, hr, HE, hab, q⟩
          case round =>
            clear hr hab q HG HB HE HL
            obtain ⟨i, L, S, rfl, rfl, hi, HG, HB, hr, HE, hab, q⟩ := hrel
            have hd : decide ((i : Int) ≤ 512) = true := by simp; omega
            by_cases ht : S.tot ≤ S.budget
            · have HV := Lib.hid (victim_none ht)
              have hdt : decide (S.tot ≤ B) = true := by simp; rw [← HB.out]; exact ht
              have hvv : S.load.victim = ((0, false), S.load.load) := victim_none (S := S.load) ht
              have HVV := Lib.hid hvv
              clear ht hvv
              go_wp2_with fail
              refine (VictimE hr HE.out HG.out (by rw [HB.out]; exact hB0)).mono ?_
              rintro e w' ⟨he, hr2, hk2⟩
              rw [HV.out] at he hr2
              subst he
              have q2 := hr.past q hk2
              clear hk2 hr q hab
              go_wp2_with fail
              refine (VictimE hr2 HE.out HG.out.load (by show 0 ≤ S.budget; rw [HB.out]; exact hB0)).mono ?_
              rintro e w'' ⟨he, hr3, hk3⟩
              rw [HVV.out] at he hr3
              subst he
              have q3 := hr2.past q2 hk3
              clear hk3 hr2 q2
              go_wp2_with fail
              refine (ResidentE hr3 HE.out).mono ?_
              rintro e w''' ⟨he, hr4, hk4⟩
              change e = .returned (.int .i64 S.tot) at he
              subst he
              have q4 := hr3.past q3 hk4
              go_wp2_with fail
              go_ret
              exact ⟨rfl, q4⟩
            · obtain ⟨n, hF⟩ := freed HG.out (by rw [HB.out]; exact hB0) ht
              have n1 := hF.q1
              have n2 := hF.q2
              have v1 := hF.v1
              have v2 := hF.v2
              have htl := HG.out.tot_le
              have hd1 : decide ((n : Int) < 1) = false := by simp; omega
              have hd2 : decide (512 < (n : Int)) = false := by simp; omega
              have hd3 : (n : Int) < 513 := by omega
              have hd4 : (val S.ring n == 0) = false := by rw [beq_eq_false_iff_ne]; omega
              have hd5 : decide (S.tot ≤ B) = false := by rw [← HB.out]; simp; omega
              have hwr : IntKind.i64.wrap (S.tot - val S.ring n) = S.tot - val S.ring n := by rw [IntKind.wrap_i64]; omega
              have HF := Lib.hid hF
              have hres := hF.res
              have HRES := Lib.hid hres
              clear ht htl hF hres v1 v2
              go_wp2_with fail
              refine (VictimE hr HE.out HG.out (by rw [HB.out]; exact hB0)).mono ?_
              rintro e w' ⟨he, hr2, hk2⟩
              rw [HRES.out] at he
              subst he
              have q2 := hr.past q hk2
              have hab2 := hab.kept hk2 (hr.alien hab (by decide))
              have cab : w'.cell? ⟨ab, n, none⟩ = some (.int .i64 (val S.ring n)) := (hab2.cell n).trans (nums_get _ (by omega))
              have cabf : w'.frozen? ⟨ab, n, none⟩ = false := hab2.frozen n
              clear hk2 hr q hab
              go_wp2_with fail
              have hab3 := hab2.set_ n (.int .i64 0)
              rw [nums_set] at hab3
              have h2 : (fun j => if j = n then 0 else val S.ring j) = val (S.victim.2.add n 0).2.ring := by
                funext j
                exact (HF.out.vals j).symm
              rw [h2] at hab3
              have hr3 := arr_rep' hr2 hab2 (by decide) n (.int .i64 0)
              have q3 := q2.setCell (p := ⟨ab, n, none⟩) (fun _ hn => Nat.not_lt_of_le hle hn) (.int .i64 0)
              clear hr2 hab2 q2 h2 cab cabf
              refine (AddE hr3 HE.out HF.out.goodv _ _ q3.size).mono ?_
              rintro e w'' ⟨he, hgr⟩
              rw [HF.out.ok] at he
              subst he
              have q4 := hgr.past hr3 q3
              obtain ⟨L', hr', hkb', hf', hkp'⟩ := hgr
              have HE' := Lib.hid (hkb'.trans HE.out)
              have hab4 := hab3.kept hkp' (hr3.alien hab3 (by decide))
              clear hkb' hkp' hr3 hf' q3 hab3
              go_wp2_with fail
              go_roundw
              case rel => exact ⟨i + 1, L', _, by go_num, congrArg (Value.int .i64) HF.out.tot.symm, by have := HF.out.len; omega, Lib.hid HF.out.good, Lib.hid (HF.out.budget.trans HB.out), hr', HE', hab4, q4⟩
              case measure => simp [intOf]; omega
end Ytghcojaggplkkaa
end Go.Proofs
