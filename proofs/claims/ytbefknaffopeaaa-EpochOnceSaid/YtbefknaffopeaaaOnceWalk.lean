/-
  EpochOnce: the walk.
-/
import Derived.Test.YtbefknaffopeaaaAwake
import Derived.Test.YtbefknaffopeaaaArgs
import Derived.Test.YtbefknaffopeaaaOncePure
set_option maxHeartbeats 1000000
namespace Go.Proofs
open Go.RowKit
theorem Try.cells30 : Try.prog.cellsOf 30 = 2 := by kernel_rfl
namespace Ytbefknaffopeaaa
theorem once_bad (n : Int) (A : Option Addr) (len cap : Nat) (w : World) (h : n < 1 ∨ 64 < n) :
    Calls Try.prog 4 #[.int .i64 n, .slice A len cap] w fun e w' => e = .returned (.bool true) ∧ Kept (fun _ => True) w w' := by
  have HB := Lib.hid h
  rcases h with h | h
  · have hd : decide (n < 1) = true := by simp; omega
    go_enter Try.func4, Try.ntmps4
    go_wp2_with fail
    refine (awake_any _).mono ?_
    rintro e w1 ⟨rfl, k1⟩
    go_wp2_with fail
    refine (new_bad _ n _ HB.out).mono ?_
    rintro e w2 ⟨rfl, rfl⟩
    go_wp2_with fail
    go_ret
    exact ⟨rfl, k1⟩
  · have hd : decide (n < 1) = false := by simp; omega
    have hd2 : decide (64 < n) = true := by simp; omega
    go_enter Try.func4, Try.ntmps4
    go_wp2_with fail
    refine (awake_any _).mono ?_
    rintro e w1 ⟨rfl, k1⟩
    go_wp2_with fail
    refine (new_bad _ n _ HB.out).mono ?_
    rintro e w2 ⟨rfl, rfl⟩
    go_wp2_with fail
    go_ret
    exact ⟨rfl, k1⟩

theorem once_good (n : Nat) (A : Option Addr) (l : List (Int × Int)) (cap : Nat) (w : World) (h1 : 1 ≤ n) (h64 : n ≤ 64) (hl : OpsIn w A l) :
    Calls Try.prog 4 #[.int .i64 n, .slice A l.length cap] w fun e w' => e = .returned (.bool true) ∧ Kept (fun b => b < w.heap.size) w w' := by
  have hd : decide ((n : Int) < 1) = false := by simp; omega
  have hd2 : decide (64 < (n : Int)) = false := by simp; omega
  have hlen := hl.len
  go_enter Try.func4, Try.ntmps4
  go_wp2_with fail
  refine (awake_any _).mono ?_
  rintro e w1 ⟨rfl, k1⟩
  go_wp2_with fail
  refine (new_good none n w1 w.heap.size h1 h64 k1.size (fun p hp => nomatch hp)).mono ?_
  rintro e w2 ⟨L, rfl, hr2, hf2, k2⟩
  have q2 : Kept (fun b => b < w.heap.size) w w2 := (k1.trans k2).mono fun _ _ _ => trivial
  obtain ⟨eb, heb⟩ : ∃ eb, L.eb = eb := ⟨_, rfl⟩
  rw [heb]
  have HE := Lib.hid heb
  clear heb
  go_wp2_with fail
  go_loopw [8, 9, 10] (fun th tl i wr => ∃ (k things told : Nat) (L : Lay) (S : St), k ≤ l.length ∧ i = .int .i64 k ∧ th = .int .i64 things ∧ tl = .int .i64 told ∧ Hid (Once S things told k) ∧ Rep wr w.heap.size L S ∧ Hid (L.eb = eb) ∧ Kept (fun b => b < w.heap.size) w wr)
    (fun _ _ i _ => l.length - (intOf i).toNat)
  case atStart => exact ⟨0, 0, 0, L, _, Nat.zero_le _, rfl, rfl, rfl, Once.start _ _ _, hr2, HE, q2⟩
  case round =>
    clear hr2 HE q2 hf2 k2
    obtain ⟨k, things, told, L, S, hk, rfl, rfl, rfl, HO, hr, HE, q⟩ := hrel
    by_cases hlt : k < l.length
    · obtain ⟨b, off, p, hp, rfl, c0, c1⟩ := hl.get q hlt
      have HP := Lib.hid hp
      clear hp
      have hth := HO.out.le
      have htl := HO.out.li
      have hbs : w.heap.size ≤ wr.heap.size := q.size
      by_cases d0 : p.1 = 0
      · have e0 : (p.1 == 0) = true := beq_iff_eq.2 d0
        clear d0
        go_wp2_with fail
        refine (Enter hr HE.out p.2).mono ?_
        rintro e wx ⟨hez, hrx, hkx⟩
        obtain ⟨rv, hrv⟩ : ∃ rv : Int, (if S.at p.2 = some false then 0 else 1) = rv := ⟨_, rfl⟩
        rw [hrv] at hez
        clear hrv
        subst hez
        have qx := hr.past q hkx
        go_wp2_with fail
        refine (Waiting hrx HE.out).mono ?_
        rintro e wz ⟨hez, hwz⟩
        subst hwz
        have HOz := Lib.hid (HO.out.enter p.2)
        have hln : Hid ((S.enter p.2).waits.length = things - told) := HOz.length
        rw [hln.out] at hez
        have hle : told ≤ things := HOz.le
        have hli : things ≤ k + 1 := HOz.li
        subst hez
        have hcmp : (((things - told : Nat) : Int) != ((things : Nat) : Int) - ((told : Nat) : Int)) = false := by rw [bne_eq_false_iff_eq]; omega
        go_wp2_with fail
        go_roundw
        case rel => exact ⟨k + 1, things, told, _, S.enter p.2, by omega, by go_num, by go_num, by go_num, HOz, hrx, HE, qx⟩
        case measure => simp [intOf]; omega
      have e0 : (p.1 == 0) = false := beq_eq_false_iff_ne.2 d0
      clear d0
      by_cases d1 : p.1 = 1
      · have e1 : (p.1 == 1) = true := beq_iff_eq.2 d1
        clear d1
        go_wp2_with fail
        refine (Exit hr HE.out p.2).mono ?_
        rintro e wx ⟨hez, hrx, hkx⟩
        obtain ⟨rv, hrv⟩ : ∃ rv : Int, (if S.at p.2 = some true then 0 else 1) = rv := ⟨_, rfl⟩
        rw [hrv] at hez
        clear hrv
        subst hez
        have qx := hr.past q hkx
        go_wp2_with fail
        refine (Waiting hrx HE.out).mono ?_
        rintro e wz ⟨hez, hwz⟩
        subst hwz
        have HOz := Lib.hid (HO.out.exit p.2)
        have hln : Hid ((S.exit p.2).waits.length = things - told) := HOz.length
        rw [hln.out] at hez
        have hle : told ≤ things := HOz.le
        have hli : things ≤ k + 1 := HOz.li
        subst hez
        have hcmp : (((things - told : Nat) : Int) != ((things : Nat) : Int) - ((told : Nat) : Int)) = false := by rw [bne_eq_false_iff_eq]; omega
        go_wp2_with fail
        go_roundw
        case rel => exact ⟨k + 1, things, told, _, S.exit p.2, by omega, by go_num, by go_num, by go_num, HOz, hrx, HE, qx⟩
        case measure => simp [intOf]; omega
      have e1 : (p.1 == 1) = false := beq_eq_false_iff_ne.2 d1
      clear d1
      by_cases d2 : p.1 = 2
      · have e2 : (p.1 == 2) = true := beq_iff_eq.2 d2
        clear d2
        have hwl := HO.out.length
        have hm : (S.waits.length + 1) * 16 ≤ 140737488355328 := by omega
        have HM := Lib.hid hm
        clear hwl hm
        go_wp2_with fail
        refine (Retire hr HE.out (things : Int) HM.out hbs).mono ?_
        rintro e wx ⟨Lx, rfl, hrx, hex, hfx, hkx⟩
        have HEx := Lib.hid hex
        have qx := hr.past q hkx
        clear hex hfx
        go_wp2_with fail
        refine (Waiting hrx HEx.out).mono ?_
        rintro e wz ⟨hez, hwz⟩
        subst hwz
        have HOz := Lib.hid (HO.out.retire)
        have hln : Hid ((S.retire things).waits.length = (things + 1) - told) := HOz.length
        rw [hln.out] at hez
        have hle : told ≤ (things + 1) := HOz.le
        have hli : (things + 1) ≤ k + 1 := HOz.li
        subst hez
        have hcmp : ((((things + 1) - told : Nat) : Int) != (((things + 1) : Nat) : Int) - ((told : Nat) : Int)) = false := by rw [bne_eq_false_iff_eq]; omega
        go_wp2_with fail
        go_roundw
        case rel => exact ⟨k + 1, (things + 1), told, _, S.retire things, by omega, by go_num, by go_num, by go_num, HOz, hrx, HEx, qx⟩
        case measure => simp [intOf]; omega
      have e2 : (p.1 == 2) = false := beq_eq_false_iff_ne.2 d2
      clear d2
      by_cases d3 : p.1 = 3
      · have e3 : (p.1 == 3) = true := beq_iff_eq.2 d3
        clear d3
        go_wp2_with fail
        refine (Bump hr HE.out).mono ?_
        rintro e wx ⟨rfl, hrx, hkx⟩
        have qx := hr.past q hkx
        go_wp2_with fail
        refine (Waiting hrx HE.out).mono ?_
        rintro e wz ⟨hez, hwz⟩
        subst hwz
        have HOz := Lib.hid (HO.out.bump (by omega))
        have hln : Hid ((S.bump).waits.length = things - told) := HOz.length
        rw [hln.out] at hez
        have hle : told ≤ things := HOz.le
        have hli : things ≤ k + 1 := HOz.li
        subst hez
        have hcmp : (((things - told : Nat) : Int) != ((things : Nat) : Int) - ((told : Nat) : Int)) = false := by rw [bne_eq_false_iff_eq]; omega
        go_wp2_with fail
        go_roundw
        case rel => exact ⟨k + 1, things, told, _, S.bump, by omega, by go_num, by go_num, by go_num, HOz, hrx, HE, qx⟩
        case measure => simp [intOf]; omega
      have e3 : (p.1 == 3) = false := beq_eq_false_iff_ne.2 d3
      clear d3
      have hwl := HO.out.length
      have hm : S.waits.length * 16 ≤ 140737488355328 := by omega
      have HM := Lib.hid hm
      clear hwl hm
      go_wp2_with fail
      refine (Reclaim hr HE.out HM.out hbs).mono ?_
      rintro e wx ⟨Ax, cx, Lx, rfl, hox, hrx, hex, hfx, hkx⟩
      have HEx := Lib.hid hex
      have qx := hr.past q hkx
      clear hex hfx
      have HOx := Lib.hid HO.out.reclaim
      have htle := HO.out.told_le
      have HTA := Lib.hid HO.out.told_at
      have hbx : S.told.length * 16 ≤ 140737488355328 := by omega
      obtain ⟨tn, htn⟩ : ∃ tn, S.told.length = tn := ⟨_, rfl⟩
      have HTN := Lib.hid htn
      rw [htn] at hox htle hbx ⊢
      clear htn
      go_wp2_with fail
      go_loopw [9, 12] (fun tl j wy => ∃ m : Nat, m ≤ tn ∧ j = .int .i64 m ∧ tl = .int .i64 (told + m : Nat) ∧ wx = wy) (fun _ j _ => tn - (intOf j).toNat)
      case atStart => exact ⟨0, Nat.zero_le _, rfl, rfl, rfl⟩
      case round =>
        obtain ⟨m, hm, rfl, rfl, hww⟩ := hrel
        subst hww
        by_cases hmt : m < tn
        · obtain ⟨g, cg, hvg, _⟩ := hox.form (by omega)
          injection hvg with hA hn hc
          subst hA
          have cm : wx.cell? ⟨g, m, none⟩ = some (.int .i64 (told + m : Nat)) := by
            rw [hox.cellAt m (by omega), List.getElem?_map, HTA.out m (by rw [HTN.out]; exact hmt)]
            rfl
          have hcmp : ((((told + m : Nat) : Int)) != ((told + m : Nat) : Int)) = false := by simp
          clear hn hc
          go_wp2_with fail
          go_roundw
          case rel => exact ⟨m + 1, by omega, by go_num, by go_num, trivial⟩
          case measure => simp [intOf]; omega
        · obtain rfl : m = tn := by omega
          go_wp2_with fail
          refine (Waiting hrx HEx.out).mono ?_
          rintro e wz ⟨hez, hwz⟩
          subst hwz
          have hln : Hid (S.reclaim.waits.length = things - (told + m)) := by rw [← HTN.out]; exact HOx.out.length
          rw [hln.out] at hez
          subst hez
          have hli : things ≤ k + 1 := HOx.out.li
          have hcmp : (((things - (told + m) : Nat) : Int) != ((things : Nat) : Int) - (((told + m) : Nat) : Int)) = false := by rw [bne_eq_false_iff_eq]; omega
          go_wp2_with fail
          go_roundw
          case rel => exact ⟨k + 1, things, told + m, _, S.reclaim, by omega, by go_num, by go_num, by go_num, by rw [← HTN.out]; exact HOx, hrx, HEx, qx⟩
          case measure => simp [intOf]; omega
    · obtain rfl : k = l.length := by omega
      go_wp2_with fail
      go_ret
      exact ⟨rfl, q⟩
end Ytbefknaffopeaaa
end Go.Proofs
