/-
  EpochRises: the walk.
-/
import Derived.Test.YtbefknaffopeaaaAwake
import Derived.Test.YtbefknaffopeaaaArgs
import Derived.Test.YtbefknaffopeaaaRisesPure
set_option maxHeartbeats 1000000
namespace Go.Proofs
open Go.RowKit
theorem Try.cells30 : Try.prog.cellsOf 30 = 2 := by kernel_rfl
namespace Ytbefknaffopeaaa
theorem rises_bad (n : Int) (A : Option Addr) (len cap : Nat) (w : World) (h : n < 1 ∨ 64 < n) :
    Calls Try.prog 5 #[.int .i64 n, .slice A len cap] w fun e w' => e = .returned (.bool true) ∧ Kept (fun _ => True) w w' := by
  have HB := Lib.hid h
  rcases h with h | h
  · have hd : decide (n < 1) = true := by simp; omega
    go_enter Try.func5, Try.ntmps5
    go_wp2_with fail
    refine (awake_any _).mono ?_
    rintro e w1 ⟨rfl, k1⟩
    go_wp2_with fail
    refine (new_bad _ n _ HB.out).mono ?_
    rintro e w2 ⟨rfl, rfl⟩
    go_wp2_with fail
    go_ret
    exact ⟨rfl, k1⟩
  · have hd : decide (n < 1) = false := by simp; omega
    have hd2 : decide (64 < n) = true := by simp; omega
    go_enter Try.func5, Try.ntmps5
    go_wp2_with fail
    refine (awake_any _).mono ?_
    rintro e w1 ⟨rfl, k1⟩
    go_wp2_with fail
    refine (new_bad _ n _ HB.out).mono ?_
    rintro e w2 ⟨rfl, rfl⟩
    go_wp2_with fail
    go_ret
    exact ⟨rfl, k1⟩

theorem rises_good (n : Nat) (A : Option Addr) (l : List (Int × Int)) (cap : Nat) (w : World) (h1 : 1 ≤ n) (h64 : n ≤ 64) (hl : OpsIn w A l) :
    Calls Try.prog 5 #[.int .i64 n, .slice A l.length cap] w fun e w' => e = .returned (.bool true) ∧ Kept (fun b => b < w.heap.size) w w' := by
  have hd : decide ((n : Int) < 1) = false := by simp; omega
  have hd2 : decide (64 < (n : Int)) = false := by simp; omega
  have hlen := hl.len
  go_enter Try.func5, Try.ntmps5
  go_wp2_with fail
  refine (awake_any _).mono ?_
  rintro e w1 ⟨rfl, k1⟩
  go_wp2_with fail
  refine (new_good none n w1 w.heap.size h1 h64 k1.size (fun p hp => nomatch hp)).mono ?_
  rintro e w2 ⟨L, rfl, hr2, hf2, k2⟩
  have q2 : Kept (fun b => b < w.heap.size) w w2 := (k1.trans k2).mono fun _ _ _ => trivial
  obtain ⟨eb, heb⟩ : ∃ eb, L.eb = eb := ⟨_, rfl⟩
  rw [heb]
  have HE := Lib.hid heb
  clear heb
  have HR0 := Lib.hid (Rise.start n none)
  have hn0 : Hid ((⟨1, List.replicate n 0, List.replicate n false, [], none⟩ : St).now = 1) := rfl
  obtain ⟨S0, hS0⟩ : ∃ S0 : St, (⟨1, List.replicate n 0, List.replicate n false, [], none⟩ : St) = S0 := ⟨_, rfl⟩
  rw [hS0] at hr2 HR0 hn0
  clear hS0
  go_wp2_with fail
  refine (Safe hr2 HE.out).mono ?_
  rintro e w3 ⟨rfl, hr3, k3⟩
  have q3 := hr2.past q2 k3
  go_wp2_with fail
  go_loopw [8, 9, 10] (fun la nw i wr => ∃ (k : Nat) (L : Lay) (S : St), k ≤ l.length ∧ i = .int .i64 k ∧ la = .int .i64 (safeOf S) ∧ nw = .int .i64 S.now ∧ Hid (Rise S k) ∧ Rep wr w.heap.size L S ∧ Hid (L.eb = eb) ∧ Kept (fun b => b < w.heap.size) w wr)
    (fun _ _ i _ => l.length - (intOf i).toNat)
  case atStart => exact ⟨0, L, S0.asked, Nat.zero_le _, rfl, rfl, by rw [← hn0.out]; rfl, HR0.out.asked, hr3, HE, q3⟩
  case round =>
    clear hr2 HE q2 hf2 k2 hr3 q3 k3
    obtain ⟨k, L, S, hk, rfl, rfl, rfl, HO, hr, HE, q⟩ := hrel
    by_cases hlt : k < l.length
    · obtain ⟨b, off, p, hp, rfl, c0, c1⟩ := hl.get q hlt
      clear hp
      have hbs : w.heap.size ≤ wr.heap.size := q.size
      have hkb : k ≤ 140737488355328 := by omega
      by_cases d0 : p.1 = 0
      · have e0 : (p.1 == 0) = true := beq_iff_eq.2 d0
        clear d0
        go_wp2_with fail
        refine (Enter hr HE.out p.2).mono ?_
        rintro e wx ⟨hez, hrx, hkx⟩
        obtain ⟨rv, hrv⟩ : ∃ rv : Int, (if S.at p.2 = some false then 0 else 1) = rv := ⟨_, rfl⟩
        rw [hrv] at hez
        clear hrv
        subst hez
        have qx := hr.past q hkx
        go_wp2_with fail
        refine (Safe hrx HE.out).mono ?_
        rintro e wz ⟨rfl, hrz, hkz⟩
        have qz := hrx.past qx hkz
        have HRz := Lib.hid (HO.out.enter p.2)
        have hmono : safeOf S ≤ safeOf (S.enter p.2) := (safe_enter S p.2).1
        have hle := safe_le (S.enter p.2)
        have hnow : Hid ((S.enter p.2).now = S.now) := by first | rfl | exact (safe_enter S p.2).2 | exact (safe_exit S p.2).2
        obtain ⟨Sx, hSx⟩ : ∃ Sx, S.enter p.2 = Sx := ⟨_, rfl⟩
        rw [hSx] at hrz HRz hmono hle hnow ⊢
        clear hSx
        have hc1 : decide (safeOf Sx < safeOf S) = false := by simp; omega
        have hc2 : decide (Sx.now < safeOf Sx) = false := by simp; omega
        have hc2' : decide (S.now < safeOf Sx) = false := by rw [← hnow.out]; exact hc2
        go_wp2_with fail
        go_roundw
        case rel => exact ⟨k + 1, _, Sx.asked, by omega, by go_num, rfl, congrArg (Value.int .i64) hnow.out.symm, HRz.out.asked, hrz, HE, qz⟩
        case measure => simp [intOf]; omega
      have e0 : (p.1 == 0) = false := beq_eq_false_iff_ne.2 d0
      clear d0
      by_cases d1 : p.1 = 1
      · have e1 : (p.1 == 1) = true := beq_iff_eq.2 d1
        clear d1
        go_wp2_with fail
        refine (Exit hr HE.out p.2).mono ?_
        rintro e wx ⟨hez, hrx, hkx⟩
        obtain ⟨rv, hrv⟩ : ∃ rv : Int, (if S.at p.2 = some true then 0 else 1) = rv := ⟨_, rfl⟩
        rw [hrv] at hez
        clear hrv
        subst hez
        have qx := hr.past q hkx
        go_wp2_with fail
        refine (Safe hrx HE.out).mono ?_
        rintro e wz ⟨rfl, hrz, hkz⟩
        have qz := hrx.past qx hkz
        have HRz := Lib.hid (HO.out.exit p.2)
        have hmono : safeOf S ≤ safeOf (S.exit p.2) := (safe_exit S p.2).1
        have hle := safe_le (S.exit p.2)
        have hnow : Hid ((S.exit p.2).now = S.now) := by first | rfl | exact (safe_enter S p.2).2 | exact (safe_exit S p.2).2
        obtain ⟨Sx, hSx⟩ : ∃ Sx, S.exit p.2 = Sx := ⟨_, rfl⟩
        rw [hSx] at hrz HRz hmono hle hnow ⊢
        clear hSx
        have hc1 : decide (safeOf Sx < safeOf S) = false := by simp; omega
        have hc2 : decide (Sx.now < safeOf Sx) = false := by simp; omega
        have hc2' : decide (S.now < safeOf Sx) = false := by rw [← hnow.out]; exact hc2
        go_wp2_with fail
        go_roundw
        case rel => exact ⟨k + 1, _, Sx.asked, by omega, by go_num, rfl, congrArg (Value.int .i64) hnow.out.symm, HRz.out.asked, hrz, HE, qz⟩
        case measure => simp [intOf]; omega
      have e1 : (p.1 == 1) = false := beq_eq_false_iff_ne.2 d1
      clear d1
      by_cases d2 : p.1 = 2
      · have e2 : (p.1 == 2) = true := beq_iff_eq.2 d2
        clear d2
        have hwl := HO.out.len
        have HM := Lib.hid (show (S.waits.length + 1) * 16 ≤ 140737488355328 by omega)
        clear hwl
        go_wp2_with fail
        refine (Retire hr HE.out p.2 HM.out hbs).mono ?_
        rintro e wx ⟨Lx, rfl, hrx, hex, hfx, hkx⟩
        have HEx := Lib.hid hex
        have qx := hr.past q hkx
        clear hex hfx
        go_wp2_with fail
        refine (Safe hrx HEx.out).mono ?_
        rintro e wz ⟨rfl, hrz, hkz⟩
        have qz := hrx.past qx hkz
        have HRz := Lib.hid (HO.out.retire p.2)
        have hmono : safeOf S ≤ safeOf (S.retire p.2) := Int.le_refl _
        have hle := safe_le (S.retire p.2)
        have hnow : Hid ((S.retire p.2).now = S.now) := by first | rfl | exact (safe_enter S p.2).2 | exact (safe_exit S p.2).2
        obtain ⟨Sx, hSx⟩ : ∃ Sx, S.retire p.2 = Sx := ⟨_, rfl⟩
        rw [hSx] at hrz HRz hmono hle hnow ⊢
        clear hSx
        have hc1 : decide (safeOf Sx < safeOf S) = false := by simp; omega
        have hc2 : decide (Sx.now < safeOf Sx) = false := by simp; omega
        have hc2' : decide (S.now < safeOf Sx) = false := by rw [← hnow.out]; exact hc2
        go_wp2_with fail
        go_roundw
        case rel => exact ⟨k + 1, _, Sx.asked, by omega, by go_num, rfl, congrArg (Value.int .i64) hnow.out.symm, HRz.out.asked, hrz, HEx, qz⟩
        case measure => simp [intOf]; omega
      have e2 : (p.1 == 2) = false := beq_eq_false_iff_ne.2 d2
      clear d2
      by_cases d3 : p.1 = 3
      · have e3 : (p.1 == 3) = true := beq_iff_eq.2 d3
        clear d3
        go_wp2_with fail
        refine (Bump hr HE.out).mono ?_
        rintro e wx ⟨rfl, hrx, hkx⟩
        have qx := hr.past q hkx
        go_wp2_with fail
        refine (Safe hrx HE.out).mono ?_
        rintro e wz ⟨rfl, hrz, hkz⟩
        have qz := hrx.past qx hkz
        have HRz := Lib.hid (HO.out.bump hkb)
        have hmono : safeOf S ≤ safeOf (S.bump) := safe_bump HO.out hkb
        have hle := safe_le (S.bump)
        have hnow : Hid (S.bump.now = S.bump.now) := by first | rfl | exact (safe_enter S p.2).2 | exact (safe_exit S p.2).2
        obtain ⟨Sx, hSx⟩ : ∃ Sx, S.bump = Sx := ⟨_, rfl⟩
        rw [hSx] at hrz HRz hmono hle hnow ⊢
        clear hSx
        have hc1 : decide (safeOf Sx < safeOf S) = false := by simp; omega
        have hc2 : decide (Sx.now < safeOf Sx) = false := by simp; omega
        go_wp2_with fail
        go_roundw
        case rel => exact ⟨k + 1, _, Sx.asked, by omega, by go_num, rfl, rfl, HRz.out.asked, hrz, HE, qz⟩
        case measure => simp [intOf]; omega
      have e3 : (p.1 == 3) = false := beq_eq_false_iff_ne.2 d3
      clear d3
      have hwl := HO.out.len
      have HM := Lib.hid (show S.waits.length * 16 ≤ 140737488355328 by omega)
      clear hwl
      go_wp2_with fail
      refine (Reclaim hr HE.out HM.out hbs).mono ?_
      rintro e wx ⟨Ax, cx, Lx, rfl, hox, hrx, hex, hfx, hkx⟩
      have HEx := Lib.hid hex
      have qx := hr.past q hkx
      clear hex hfx hox
      go_wp2_with fail
      refine (Safe hrx HEx.out).mono ?_
      rintro e wz ⟨rfl, hrz, hkz⟩
      have qz := hrx.past qx hkz
      have HRz := Lib.hid (HO.out.reclaim)
      have hmono : safeOf S ≤ safeOf (S.reclaim) := Int.le_refl _
      have hle := safe_le (S.reclaim)
      have hnow : Hid (S.reclaim.now = S.now) := by first | rfl | exact (safe_enter S p.2).2 | exact (safe_exit S p.2).2
      obtain ⟨Sx, hSx⟩ : ∃ Sx, S.reclaim = Sx := ⟨_, rfl⟩
      rw [hSx] at hrz HRz hmono hle hnow ⊢
      clear hSx
      have hc1 : decide (safeOf Sx < safeOf S) = false := by simp; omega
      have hc2 : decide (Sx.now < safeOf Sx) = false := by simp; omega
      have hc2' : decide (S.now < safeOf Sx) = false := by rw [← hnow.out]; exact hc2
      go_wp2_with fail
      go_roundw
      case rel => exact ⟨k + 1, _, Sx.asked, by omega, by go_num, rfl, congrArg (Value.int .i64) hnow.out.symm, HRz.out.asked, hrz, HEx, qz⟩
      case measure => simp [intOf]; omega
    · obtain rfl : k = l.length := by omega
      go_wp2_with fail
      go_ret
      exact ⟨rfl, q⟩
end Ytbefknaffopeaaa
end Go.Proofs
