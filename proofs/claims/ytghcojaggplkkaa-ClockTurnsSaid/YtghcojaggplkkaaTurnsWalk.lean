/-
  ClockTurns: the walk.
-/
import Derived.Test.YtghcojaggplkkaaAwake
import Derived.Test.YtghcojaggplkkaaArgs
import Derived.Test.YtghcojaggplkkaaTurnsPure
import Derived.StillTailTactics
set_option maxHeartbeats 1000000
set_option maxRecDepth 100000
namespace Go.Proofs
open Go.RowKit
theorem Try.cells30 : Try.prog.cellsOf 30 = 3 := by kernel_rfl
namespace Ytghcojaggplkkaa
attribute [local go_sem ↓] Go.wp_at_zero Go.wp_at_succ

theorem arr_rep {w : World} {base : Nat} {L : Lay} {S : Ck} {ab : Nat} {t : TypeId} {cs : Array Value} (hr : Rep w base L S) (hab : Blk w ab t cs) (ht : t ≠ 55 ∧ t ≠ 72 ∧ t ≠ 67 ∧ t ≠ 3 ∧ t ≠ 59) (i : Nat) (u : Value) : Rep (w.setCell ⟨ab, i, none⟩ u) base L S :=
  hr.kept ((Kept.refl _ w).setCell (fun _ hn => hr.alien hab ht hn) _)

theorem turns_any (turns : Int) (A : Option Addr) (l : List (Int × Int × Int)) (cap : Nat) (w : World) (hl : OpsIn w A l) :
    Calls Try.prog 3 #[.slice A l.length cap, .int .i64 turns] w fun e w' => e = .returned (.bool true) ∧ Kept (fun b => b < w.heap.size) w w' := by
  have hal := run_zero28
  have hlen := hl.len
  go_enter Try.func3, Try.ntmps3
  go_wp2_with fail
  refine (awake_any _).mono ?_
  rintro e w1 ⟨rfl, k1⟩
  go_wp2_with fail
  refine (new_good none 0 w1 w.heap.size (by omega) (by omega) k1.size (fun p hp => nomatch hp)).mono ?_
  rintro e w2 ⟨L, rfl, hr2, hf2, k2⟩
  have q2 : Kept (fun b => b < w.heap.size) w w2 := (k1.trans k2).mono fun _ _ _ => trivial
  obtain ⟨kb, hkb⟩ : ∃ kb, L.kb = kb := ⟨_, rfl⟩
  rw [hkb]
  have HKB := Lib.hid hkb
  clear hkb k1 k2 hf2
  go_wp2_with fail
  have q3 := q2.alloc (.cells (bools fun _ => false) 28)
  have hb3 : Blk (w2.alloc (.cells (bools fun _ => false) 28)) w2.heap.size 28 (bools (has [])) := Blk.new w2 28 (bools fun _ => false)
  have hr3 := hr2.kept ((Kept.refl _ w2).alloc (.cells (bools fun _ => false) 28))
  obtain ⟨ab, hab⟩ : ∃ ab, w2.heap.size = ab := ⟨_, rfl⟩
  have hle : w.heap.size ≤ ab := by rw [← hab]; exact q2.size
  rw [hab] at hb3 ⊢
  clear hab
  obtain ⟨w3, hw3⟩ : ∃ w3, w2.alloc (.cells (bools fun _ => false) 28) = w3 := ⟨_, rfl⟩
  rw [hw3] at hb3 hr3 q3 ⊢
  clear hw3 q2 hr2
  go_loopw [10] (fun i wr => ∃ (k : Nat) (L : Lay) (S : Ck), k ≤ l.length ∧ i = .int .i64 k ∧ Hid (Good S) ∧ Hid (S.budget = 0) ∧ Rep wr w.heap.size L S ∧ Hid (L.kb = kb) ∧ Blk wr ab 28 (bools (has S.ring)) ∧ Kept (fun b => b < w.heap.size) w wr)
    (fun i _ => l.length - (intOf i).toNat)
  case atStart => exact ⟨0, L, ⟨0, 0, [], 0, none⟩, Nat.zero_le _, rfl, Lib.hid (good_new 0 none), Lib.hid rfl, hr3, HKB, hb3, q3⟩
  case round =>
    clear hr3 hb3 q3 HKB
    obtain ⟨k, L, S, hk, rfl, HG, HB, hr, HE, hab, q⟩ := hrel
    by_cases hlt : k < l.length
    · obtain ⟨b, off, rfl, hb, c0', c1', c2'⟩ := hl.at_ k _ (List.getElem?_eq_getElem hlt)
      obtain ⟨⟨p1, p2, p3⟩, hp⟩ : ∃ p, l[k] = p := ⟨_, rfl⟩
      rw [hp] at c0' c1' c2'
      simp only at c0' c1' c2'
      clear hp
      have HC1 := Lib.hid c1'
      have HC2 := Lib.hid c2'
      have c0 := (q.cell (p := ⟨b, off + k * 3, none⟩) hb hb).trans c0'
      have c1 := (q.cell (p := ⟨b, off + k * 3 + 1, none⟩) hb hb).trans c1'
      have c2 := (q.cell (p := ⟨b, off + k * 3 + 2, none⟩) hb hb).trans c2'
      clear c0' c1' c2'
      have hbs : w.heap.size ≤ wr.heap.size := q.size
      have hkb : k ≤ 140737488355328 := by omega
      have hfa : ¬ L.foot ab := hr.alien hab (by decide)
      by_cases d0 : p1 = 0
      · have e0 : (p1 == 0) = true := beq_iff_eq.2 d0
        clear d0
        rcases add_code (S := S) p2 p3 with hok | hok
        · obtain ⟨pg, rfl, hpg1, hpg2, hhas⟩ := has_add HG.out hok
          have hpi : (pg : Int) < 513 := by omega
          have HOK := Lib.hid hok
          have HHAS := Lib.hid hhas
          clear hok hhas
          go_wp2_with fail
          go_still_tail 11, (by kernel_rfl)
          change wpList _ _ _ _ _ wr.drew
          go_wp2_with fail
          refine (AddE hr.drew HE.out HG.out _ _ hbs).mono ?_
          rintro e w' ⟨he, hgr⟩
          rw [HOK.out] at he
          subst he
          have q' := hgr.past hr.drew q.drew
          obtain ⟨L', hr', hkb', hf', hkp'⟩ := hgr
          have HE' := Lib.hid (hkb'.trans HE.out)
          have c1x := (q'.cell (p := ⟨b, off + k * 3 + 1, none⟩) hb hb).trans HC1.out
          have c2x := (q'.cell (p := ⟨b, off + k * 3 + 2, none⟩) hb hb).trans HC2.out
          have hab' := Blk.kept (w := wr.drew) hab hkp' hfa
          have cab : w'.cell? ⟨ab, pg, none⟩ = some (.bool (has S.ring pg)) := (hab'.cell pg).trans (bools_get _ (by omega))
          have cabf : w'.frozen? ⟨ab, pg, none⟩ = false := hab'.frozen pg
          clear hkb' hkp' hr hab hf' q
          go_wp2_with fail
          go_still_tail 12, (by kernel_rfl)
          change wpList _ _ _ _ _ w'.drew
          go_wp2_with fail
          go_roundw
          case rel =>
            refine ⟨k + 1, L', _, by omega, by go_num, Lib.hid (HG.out.add _ _), Lib.hid ((add_budget _ _ _).trans HB.out), (arr_rep hr' hab' (by decide) _ _).drew, HE', ?_, (q'.setCell (fun _ hn => Nat.not_lt_of_le hle hn) _).drew⟩
            have h1 := hab'.set_ pg (.bool (decide (0 < p3)))
            rw [bools_set] at h1
            have h2 : (fun j => if j = pg then decide (0 < p3) else has S.ring j) = has (S.add pg p3).2.ring := by
              funext j
              exact (HHAS.out j).symm
            rw [h2] at h1
            exact h1
          case measure => simp [intOf]; omega
        · have HOK := Lib.hid hok
          have HNO := Lib.hid (has_add_no (S := S) (n := p2) (b := p3) (by rw [hok]; decide))
          clear hok
          go_wp2_with fail
          go_still_tail 11, (by kernel_rfl)
          change wpList _ _ _ _ _ wr.drew
          go_wp2_with fail
          refine (AddE hr.drew HE.out HG.out _ _ hbs).mono ?_
          rintro e w' ⟨he, hgr⟩
          rw [HOK.out] at he
          subst he
          rw [HNO.out] at hgr
          have q' := hgr.past hr.drew q.drew
          obtain ⟨L', hr', hkb', hf', hkp'⟩ := hgr
          have HE' := Lib.hid (hkb'.trans HE.out)
          have hab' := Blk.kept (w := wr.drew) hab hkp' hfa
          clear hkb' hkp' hr hab hf' q
          go_wp2_with fail
          go_roundw
          case rel => exact ⟨k + 1, L', S, by omega, by go_num, HG, HB, hr', HE', hab', q'⟩
          case measure => simp [intOf]; omega
      · have e0 : (p1 == 0) = false := beq_eq_false_iff_ne.2 d0
        clear d0
        by_cases d1 : p1 = 1
        · have e1 : (p1 == 1) = true := beq_iff_eq.2 d1
          clear d1
          go_wp2_with fail
          refine (TouchE hr HE.out _).mono ?_
          rintro e w' ⟨rfl, hr', hk'⟩
          have q' := hr.past q hk'
          have hab' := hab.kept hk' hfa
          rw [← has_touch (S := S) p2] at hab'
          clear hk' hr hab q
          go_wp2_with fail
          go_roundw
          case rel => exact ⟨k + 1, L, S.touch p2, by omega, by go_num, Lib.hid (HG.out.touch p2), Lib.hid ((touch_budget S p2).trans HB.out), hr', HE, hab', q'⟩
          case measure => simp [intOf]; omega
        · have e1 : (p1 == 1) = false := beq_eq_false_iff_ne.2 d1
          clear d1
          go_wp2_with fail
          refine (VictimE hr HE.out HG.out (by rw [HB.out]; exact Int.le_refl _)).mono ?_
          rintro e w' ⟨rfl, hr', hk'⟩
          have q' := hr.past q hk'
          have hab' := hab.kept hk' hfa
          rw [← has_victim HG.out (by rw [HB.out]; exact Int.le_refl _)] at hab'
          clear hk' hr hab q
          go_wp2_with fail
          go_roundw
          case rel => exact ⟨k + 1, L, S.victim.2, by omega, by go_num, Lib.hid (HG.out.victim (by rw [HB.out]; exact Int.le_refl _)), Lib.hid ((victim_budget S).trans HB.out), hr', HE, hab', q'⟩
          case measure => simp [intOf]; omega
    · have hkl : k = l.length := by omega
      clear hk
      go_wp2_with fail
      have hfa : ¬ L.foot ab := hr.alien hab (by decide)
      go_loopw [9, 12] (fun m p wx => ∃ q : Nat, 1 ≤ q ∧ q ≤ 513 ∧ p = .int .i64 q ∧ m = .int .i64 (cnt (q - 1) (S.ring.map (·.n)) : Nat) ∧ wr = wx)
        (fun _ p _ => 513 - (intOf p).toNat)
      case atStart => exact ⟨1, by omega, by omega, rfl, rfl, rfl⟩
      case round =>
        obtain ⟨qq, hq1, hq2, rfl, rfl, rfl⟩ := hrel
        by_cases hq3 : qq ≤ 512
        · have hd : decide ((qq : Int) ≤ 512) = true := by simp; omega
          have hqi : (qq : Int) < 513 := by omega
          have cab : wr.cell? ⟨ab, qq, none⟩ = some (.bool (has S.ring qq)) := (hab.cell qq).trans (bools_get _ (by omega))
          have hcs := cnt_step (S.ring.map (·.n)) hq1
          have hcl := cnt_le (qq - 1) (S.ring.map (·.n))
          have HCS := Lib.hid hcs
          clear hcs
          cases hh : has S.ring qq with
          | true =>
            rw [hh] at cab
            have hm : (qq : Int) ∈ S.ring.map (·.n) := of_decide_eq_true hh
            have HM := Lib.hid hm
            clear hh hm
            go_wp2_with fail
            go_roundw
            case rel =>
              refine ⟨qq + 1, by omega, by omega, by go_num, ?_, trivial⟩
              have h1 := HCS.out
              rw [if_pos HM.out] at h1
              rw [Nat.add_sub_cancel, h1]
              go_num
            case measure => simp [intOf]; omega
          | false =>
            rw [hh] at cab
            have hm : ¬ (qq : Int) ∈ S.ring.map (·.n) := of_decide_eq_false hh
            have HM := Lib.hid hm
            clear hh hm
            go_wp2_with fail
            go_roundw
            case rel =>
              refine ⟨qq + 1, by omega, by omega, by go_num, ?_, trivial⟩
              have h1 := HCS.out
              rw [if_neg HM.out] at h1
              rw [Nat.add_sub_cancel, h1]
              rfl
            case measure => simp [intOf]; omega
        · have hd : decide ((qq : Int) ≤ 512) = false := by simp; omega
          have hcr : cnt (qq - 1) (S.ring.map (·.n)) = S.ring.length := by
            rw [show qq - 1 = 512 by omega]
            exact cnt_ring HG.out
          rw [hcr]
          have HL := HG.out.len
          obtain ⟨N, hN⟩ : ∃ N, S.ring.map (·.n) = N := ⟨_, rfl⟩
          obtain ⟨many, hmany⟩ : ∃ many, S.ring.length = many := ⟨_, rfl⟩
          rw [hmany] at HL ⊢
          have HN := Lib.hid hN
          have HMA := Lib.hid hmany
          clear hcr hN hmany hq1 hq2 hq3 hlt hkl
          go_wp2_with fail
          go_loopw [13] (fun i wx => ∃ (k : Nat) (S' : Ck), k ≤ many ∧ i = .int .i64 k ∧ Hid (Good S') ∧ Hid (S'.budget = 0) ∧ Rep wx w.heap.size L S' ∧ Hid (S'.ring.map (·.n) = N) ∧ Hid (unm k (rot S'.ring S'.hand)) ∧ Blk wx ab 28 (bools (has S.ring)) ∧ Kept (fun b => b < w.heap.size) w wx)
            (fun i _ => many - (intOf i).toNat)
          case atStart => exact ⟨0, S, Nat.zero_le _, rfl, HG, HB, hr, HN, Lib.hid (fun x hx => by simp at hx), hab, q⟩
          case round =>
            obtain ⟨i, S', hi, rfl, HG', HB', hr', HN', HU, hab', q'⟩ := hrel
            have hkb : i ≤ 512 := by omega
            by_cases hlt : i < many
            · have hd : decide ((i : Int) < (many : Int)) = true := by simp; omega
              have hlen : S'.ring.length = many := (len_of_map (HN'.out.trans HN.out.symm)).trans HMA.out
              obtain ⟨n, hT⟩ := told HG'.out HB'.out (by omega)
              have hu2 := told_unm HG'.out HB'.out (by omega) HU.out
              have HU2 := Lib.hid hu2
              have n1 := hT.q1
              have n2 := hT.q2
              have hres := hT.res
              have hmem : has S.ring n = true := by
                unfold has
                rw [HN.out, ← HN'.out]
                exact decide_eq_true hT.mem
              have hd1 : decide ((n : Int) < 1) = false := by simp; omega
              have hd2 : decide (512 < (n : Int)) = false := by simp; omega
              have hd3 : (n : Int) < 513 := by omega
              have HT := Lib.hid hT
              have HRES := Lib.hid hres
              have HMEM := Lib.hid hmem
              clear hT hres hmem hu2 hr hab q
              go_wp2_with fail
              refine (VictimE hr' HE.out HG'.out (by rw [HB'.out]; exact Int.le_refl _)).mono ?_
              rintro e w' ⟨he, hr2, hk2⟩
              rw [HRES.out] at he
              subst he
              have q2 := hr'.past q' hk2
              have hab2 := hab'.kept hk2 (hr'.alien hab' (by decide))
              have cab : w'.cell? ⟨ab, n, none⟩ = some (.bool true) := (hab2.cell n).trans ((bools_get _ (by omega)).trans (by rw [HMEM.out]))
              clear hk2 hr' hab' q'
              go_wp2_with fail
              go_roundw
              case rel => exact ⟨i + 1, S'.victim.2, by omega, by go_num, Lib.hid HT.out.good, Lib.hid HT.out.budget, hr2, Lib.hid (HT.out.ring.trans HN'.out), HU2, hab2, q2⟩
              case measure => simp [intOf]; omega
            · have him : i = many := by omega
              have hd : decide ((i : Int) < (many : Int)) = false := by simp; omega
              have hlen : S'.ring.length = many := (len_of_map (HN'.out.trans HN.out.symm)).trans HMA.out
              have hnd := HG'.out.ndn
              have hhand : S'.hand ≤ S'.ring.length := by
                rcases HG'.out.hand with h1 | ⟨h1, h2⟩
                · exact Nat.le_of_lt h1
                · omega
              obtain ⟨R0, hR0⟩ : ∃ R0, rot S'.ring S'.hand = R0 := ⟨_, rfl⟩
              have hRl : R0.length = many := by rw [← hR0, rot_len hhand, hlen]
              have hRu : ∀ x ∈ R0, x.m = false := by
                have := HU.out
                rw [hR0, him, ← hRl] at this
                exact unm_all this
              have hRn : (R0.map (·.n)).Nodup := by rw [← hR0]; exact rot_nodup hnd
              have HR0 := Lib.hid hR0
              have HRU := Lib.hid hRu
              have HRN := Lib.hid hRn
              have HRL := Lib.hid hRl
              clear hR0 hRu hRn hnd hhand hlen him hi hr hab q hRl HU
              go_wp2_with fail
              clear hd hlt
              go_loopw [16] (fun t wx => ∃ (k : Nat) (S' : Ck), t = .int .i64 k ∧ k ≤ 5 ∧ Hid (Good S') ∧ Hid (S'.budget = 0) ∧ Rep wx w.heap.size L S' ∧ Hid (S'.ring.map (·.n) = N) ∧ Hid (rot S'.ring S'.hand = R0) ∧ Blk wx ab 28 (bools (has S.ring)) ∧ Kept (fun b => b < w.heap.size) w wx)
                (fun t _ => 5 - (intOf t).toNat)
              case atStart => exact ⟨0, S', rfl, by omega, HG', HB', hr', HN', HR0, hab', q'⟩
              case round =>
                clear hr' HG' HB' HN' HR0 hab' q' hkb
                obtain ⟨tt, S', rfl, htt, HG', HB', hr', HN', HR0, hab', q'⟩ := hrel
                by_cases hgo : (tt : Int) < turns ∧ tt < 5
                · have hg1 : decide ((tt : Int) < turns) = true := by simp; omega
                  have hg2 : decide ((tt : Int) < 5) = true := by simp; omega
                  have hg3 : (tt : Int) < 5 := by omega
                  have hg4 : (tt : Int) < turns := hgo.1
                  have HTT := Lib.hid hgo.2
                  clear hgo
                  have q3 := q'.alloc (.cells (bools fun _ => false) 28)
                  have hb3 : Blk (wr.alloc (.cells (bools fun _ => false) 28)) wr.heap.size 28 (bools fun j => decide ((j : Int) ∈ (R0.take 0).map (·.n))) := Blk.new wr 28 (bools fun _ => false)
                  have hr3 := hr'.kept ((Kept.refl _ wr).alloc (.cells (bools fun _ => false) 28))
                  have hab3 := hab'.alloc (.cells (bools fun _ => false) 28)
                  have htl : w.heap.size ≤ wr.heap.size := q'.size
                  have htn : wr.heap.size ≠ ab := fun e => by have := hab'.lt; omega
                  go_wp2_with fail
                  obtain ⟨tb, htb⟩ : ∃ tb, wr.heap.size = tb := ⟨_, rfl⟩
                  rw [htb] at hb3 htl htn ⊢
                  clear htb
                  obtain ⟨w3, hw3⟩ : ∃ w3, wr.alloc (.cells (bools fun _ => false) 28) = w3 := ⟨_, rfl⟩
                  rw [hw3] at hb3 hr3 q3 hab3 ⊢
                  clear hw3 q' hr' hab'
                  go_loopw [18] (fun i wx => ∃ (k : Nat) (S' : Ck), k ≤ many ∧ i = .int .i64 k ∧ Hid (Good S') ∧ Hid (S'.budget = 0) ∧ Rep wx w.heap.size L S' ∧ Hid (S'.ring.map (·.n) = N) ∧ Hid (rot S'.ring S'.hand = R0.drop k ++ R0.take k) ∧ Blk wx ab 28 (bools (has S.ring)) ∧
                      Blk wx tb 28 (bools fun j => decide ((j : Int) ∈ (R0.take k).map (·.n))) ∧ Kept (fun b => b < w.heap.size) w wx)
                    (fun i _ => many - (intOf i).toNat)
                  case atStart => exact ⟨0, S', Nat.zero_le _, rfl, HG', HB', hr3, HN', Lib.hid (by rw [HR0.out]; simp), hab3, hb3, q3⟩
                  case round =>
                    clear hr3 HG' HB' HN' HR0 hab3 hb3 q3
                    obtain ⟨i, S', hi, rfl, HG', HB', hr', HN', HRO, hab', htb', q'⟩ := hrel
                    have hkb : i ≤ 512 := by omega
                    by_cases hlt : i < many
                    · have hd : decide ((i : Int) < (many : Int)) = true := by simp; omega
                      obtain ⟨n, hT, hno, hst, hro⟩ := turn_step HG'.out HB'.out (by rw [HRL.out]; exact hlt) HRO.out HRU.out HRN.out
                      have n1 := hT.q1
                      have n2 := hT.q2
                      have hres := hT.res
                      have hmem : has S.ring n = true := by
                        unfold has
                        rw [HN.out, ← HN'.out]
                        exact decide_eq_true hT.mem
                      have hd1 : decide ((n : Int) < 1) = false := by simp; omega
                      have hd2 : decide (512 < (n : Int)) = false := by simp; omega
                      have hd3 : (n : Int) < 513 := by omega
                      have HT := Lib.hid hT
                      have HRES := Lib.hid hres
                      have HMEM := Lib.hid hmem
                      have HNO := Lib.hid hno
                      have HST := Lib.hid hst
                      have HRO2 := Lib.hid hro
                      clear hT hres hmem hno hst hro
                      go_wp2_with fail
                      refine (VictimE hr' HE.out HG'.out (by rw [HB'.out]; exact Int.le_refl _)).mono ?_
                      rintro e w' ⟨he, hr2, hk2⟩
                      rw [HRES.out] at he
                      subst he
                      have q2 := hr'.past q' hk2
                      have hab2 := hab'.kept hk2 (hr'.alien hab' (by decide))
                      have htb2 := htb'.kept hk2 (hr'.alien htb' (by decide))
                      have cab : w'.cell? ⟨ab, n, none⟩ = some (.bool true) := (hab2.cell n).trans ((bools_get _ (by omega)).trans (by rw [HMEM.out]))
                      have ctb : w'.cell? ⟨tb, n, none⟩ = some (.bool false) := (htb2.cell n).trans ((bools_get _ (by omega)).trans (by rw [decide_eq_false HNO.out]))
                      have ctf : w'.frozen? ⟨tb, n, none⟩ = false := htb2.frozen n
                      clear hk2 hr' hab' q' htb'
                      go_wp2_with fail
                      go_roundw
                      case rel =>
                        refine ⟨i + 1, S'.victim.2, by omega, by go_num, Lib.hid HT.out.good, Lib.hid HT.out.budget, arr_rep hr2 htb2 (by decide) _ _, Lib.hid (HT.out.ring.trans HN'.out), HRO2, hab2.far (p := ⟨tb, n, none⟩) (Ne.symm htn) _, ?_, q2.setCell (fun _ hn => Nat.not_lt_of_le htl hn) _⟩
                        have h1 := htb2.set_ n (.bool true)
                        rw [bools_set] at h1
                        have h2 : (fun j => if j = n then true else decide ((j : Int) ∈ (R0.take i).map (·.n))) = fun j : Nat => decide ((j : Int) ∈ (R0.take (i + 1)).map (·.n)) := by
                          funext j
                          by_cases hj : j = n
                          · rw [if_pos hj]
                            exact (decide_eq_true ((HST.out j).2 (.inl hj))).symm
                          · rw [if_neg hj]
                            apply decide_eq_decide.2
                            rw [HST.out j]
                            simp [hj]
                        rw [h2] at h1
                        exact h1
                      case measure => simp [intOf]; omega
                    · have hd : decide ((i : Int) < (many : Int)) = false := by simp; omega
                      have him : i = many := by omega
                      go_wp2_with fail
                      go_roundw
                      case rel =>
                        refine ⟨tt + 1, S', by go_num, by have := HTT.out; omega, HG', HB', hr', HN', Lib.hid ?_, hab', q'⟩
                        rw [HRO.out, him, ← HRL.out]
                        simp
                      case measure =>
                        have := HTT.out
                        simp [intOf]; omega
                · clear hab' htt
                  have hlen : S'.ring.length = many := (len_of_map (HN'.out.trans HN.out.symm)).trans HMA.out
                  have HLEN := Lib.hid hlen
                  clear hlen
                  go_wp2_with fail
                  all_goals
                    go_loopw [21] (fun i wx => ∃ (k : Nat) (L : Lay) (S' : Ck), k ≤ many ∧ i = .int .i64 k ∧ Hid (Good S') ∧ Hid (S'.budget = 0) ∧ Rep wx w.heap.size L S' ∧ Hid (L.kb = kb) ∧ Hid (S'.ring.length + k = many) ∧ Kept (fun b => b < w.heap.size) w wx)
                      (fun i _ => many - (intOf i).toNat)
                    case atStart => exact ⟨0, L, S', Nat.zero_le _, rfl, HG', HB', hr', HE, HLEN, q'⟩
                    case round =>
                      clear hr' HG' HB' HN' HR0 HLEN q' HE
                      obtain ⟨i, L, S', hi, rfl, HG', HB', hr', HE, HLEN, q'⟩ := hrel
                      have hkb : i ≤ 512 := by omega
                      by_cases hlt : i < many
                      · have hd : decide ((i : Int) < (many : Int)) = true := by simp; omega
                        have h0 : 0 < S'.ring.length := by have := HLEN.out; omega
                        obtain ⟨n, hT⟩ := told HG'.out HB'.out h0
                        have hfr := free_step HG'.out HB'.out hT
                        have hres := hT.res
                        have HT := Lib.hid hT
                        have HFR := Lib.hid hfr
                        have HRES := Lib.hid hres
                        clear hT hres hfr h0
                        go_wp2_with fail
                        refine (VictimE hr' HE.out HG'.out (by rw [HB'.out]; exact Int.le_refl _)).mono ?_
                        rintro e w' ⟨he, hr2, hk2⟩
                        rw [HRES.out] at he
                        subst he
                        have q2 := hr'.past q' hk2
                        clear hk2 hr' q'
                        go_wp2_with fail
                        refine (AddE hr2 HE.out HT.out.good _ _ q2.size).mono ?_
                        rintro e w'' ⟨he, hgr⟩
                        rw [HFR.out.1] at he
                        subst he
                        have q3 := hgr.past hr2 q2
                        obtain ⟨L', hr', hkb', hf', hkp'⟩ := hgr
                        have HE' := Lib.hid (hkb'.trans HE.out)
                        clear hkb' hkp' hr2 hf' q2
                        go_wp2_with fail
                        go_roundw
                        case rel => exact ⟨i + 1, L', _, by omega, by go_num, Lib.hid (HT.out.good.add _ _), Lib.hid ((add_budget _ _ _).trans HT.out.budget), hr', HE', Lib.hid (by have := HFR.out.2; have := HLEN.out; omega), q3⟩
                        case measure => simp [intOf]; omega
                      · have hd : decide ((i : Int) < (many : Int)) = false := by simp; omega
                        have hev := empty_victim HG'.out HB'.out (by have := HLEN.out; omega)
                        have HEV := Lib.hid hev
                        clear hev
                        go_wp2_with fail
                        refine (VictimE hr' HE.out HG'.out (by rw [HB'.out]; exact Int.le_refl _)).mono ?_
                        rintro e w' ⟨he, hr2, hk2⟩
                        rw [HEV.out.1] at he hr2
                        subst he
                        have q2 := hr'.past q' hk2
                        clear hk2 hr' q'
                        go_wp2_with fail
                        refine (ResidentE hr2 HE.out).mono ?_
                        rintro e w'' ⟨he, hr3, hk3⟩
                        have ht0 : S'.load.tot = 0 := HEV.out.2
                        rw [ht0] at he
                        subst he
                        have q3 := hr2.past q2 hk3
                        go_wp2_with fail
                        go_ret
                        exact ⟨rfl, q3⟩
end Ytghcojaggplkkaa
end Go.Proofs
