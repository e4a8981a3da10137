/-
  EpochHolds: the walk.
-/
import Derived.Test.YtbefknaffopeaaaAwake
import Derived.Test.YtbefknaffopeaaaArgs
import Derived.Test.YtbefknaffopeaaaHoldsPure
set_option maxHeartbeats 2000000
set_option maxRecDepth 100000
namespace Go.Proofs
open Go.RowKit
theorem Try.cells30 : Try.prog.cellsOf 30 = 2 := by kernel_rfl
namespace Ytbefknaffopeaaa
theorem holds_bad1 (n c : Int) (A : Option Addr) (len cap : Nat) (w : World) (h : n < 1 ∨ 64 < n) :
    Calls Try.prog 3 #[.int .i64 n, .int .i64 c, .slice A len cap] w fun e w' => e = .returned (.bool true) ∧ Kept (fun _ => True) w w' := by
  have HB := Lib.hid h
  rcases h with h | h
  · have hd : decide (n < 1) = true := by simp; omega
    go_enter Try.func3, Try.ntmps3
    go_wp2_with fail
    refine (awake_any _).mono ?_
    rintro e w1 ⟨rfl, k1⟩
    go_wp2_with fail
    refine (new_bad _ n _ HB.out).mono ?_
    rintro e w2 ⟨rfl, rfl⟩
    go_wp2_with fail
    go_ret
    exact ⟨rfl, k1⟩
  · have hd : decide (n < 1) = false := by simp; omega
    have hd2 : decide (64 < n) = true := by simp; omega
    go_enter Try.func3, Try.ntmps3
    go_wp2_with fail
    refine (awake_any _).mono ?_
    rintro e w1 ⟨rfl, k1⟩
    go_wp2_with fail
    refine (new_bad _ n _ HB.out).mono ?_
    rintro e w2 ⟨rfl, rfl⟩
    go_wp2_with fail
    go_ret
    exact ⟨rfl, k1⟩
theorem holds_bad2 (n : Nat) (c : Int) (A : Option Addr) (len cap : Nat) (w : World) (h1 : 1 ≤ n) (h64 : n ≤ 64) (h : c < 0 ∨ (n : Int) ≤ c) :
    Calls Try.prog 3 #[.int .i64 n, .int .i64 c, .slice A len cap] w fun e w' => e = .returned (.bool true) ∧ Kept (fun _ => True) w w' := by
  have hd : decide ((n : Int) < 1) = false := by simp; omega
  have hd2 : decide (64 < (n : Int)) = false := by simp; omega
  rcases h with h | h
  · have hd3 : decide (c < 0) = true := by simp; omega
    go_enter Try.func3, Try.ntmps3
    go_wp2_with fail
    refine (awake_any _).mono ?_
    rintro e w1 ⟨rfl, k1⟩
    go_wp2_with fail
    refine (new_good none n w1 w.heap.size h1 h64 k1.size (fun p hp => nomatch hp)).mono ?_
    rintro e w2 ⟨L, rfl, hr2, hf2, k2⟩
    go_wp2_with fail
    go_ret
    exact ⟨rfl, k1.trans k2⟩
  · have hd3 : decide (c < 0) = false := by simp; omega
    have hd4 : decide ((n : Int) ≤ c) = true := by simp; omega
    go_enter Try.func3, Try.ntmps3
    go_wp2_with fail
    refine (awake_any _).mono ?_
    rintro e w1 ⟨rfl, k1⟩
    go_wp2_with fail
    refine (new_good none n w1 w.heap.size h1 h64 k1.size (fun p hp => nomatch hp)).mono ?_
    rintro e w2 ⟨L, rfl, hr2, hf2, k2⟩
    go_wp2_with fail
    go_ret
    exact ⟨rfl, k1.trans k2⟩

/-- The law's own slice: who is in. -/
def InAt (w : World) (b : Nat) (l : List Bool) : Prop := Blk w b 4 (l.map Value.bool).toArray
theorem InAt.cell {w : World} {b : Nat} {l : List Bool} (h : InAt w b l) {j : Nat} {x : Bool} (hj : l[j]? = some x) : w.cell? ⟨b, j, none⟩ = some (.bool x) := by
  rw [Blk.cell h]
  simp [hj]
theorem InAt.set {w : World} {b : Nat} {l : List Bool} (h : InAt w b l) (j : Nat) (x : Bool) : InAt (w.setCell ⟨b, j, none⟩ (.bool x)) b (l.set j x) := by
  have := Blk.set_ h j (.bool x)
  rw [List.setIfInBounds_toArray, ← List.map_set] at this
  exact this

theorem holds_good (n cl : Nat) (A : Option Addr) (l : List (Int × Int)) (cap : Nat) (w : World) (h1 : 1 ≤ n) (h64 : n ≤ 64) (hcl : cl < n) (hl : OpsIn w A l) :
    Calls Try.prog 3 #[.int .i64 n, .int .i64 cl, .slice A l.length cap] w fun e w' => e = .returned (.bool true) ∧ Kept (fun b => b < w.heap.size) w w' := by
  have hd : decide ((n : Int) < 1) = false := by simp; omega
  have hd2 : decide (64 < (n : Int)) = false := by simp; omega
  have hd3 : decide ((cl : Int) < 0) = false := by simp
  have hd4 : decide ((n : Int) ≤ (cl : Int)) = false := by simp; omega
  have hd5 : decide (n ≤ cl) = false := by simp; omega
  have hlen := hl.len
  have hmk := make_falses n h64
  go_enter Try.func3, Try.ntmps3
  go_wp2_with fail
  refine (awake_any _).mono ?_
  rintro e w1 ⟨rfl, k1⟩
  go_wp2_with fail
  refine (new_good none n w1 w.heap.size h1 h64 k1.size (fun p hp => nomatch hp)).mono ?_
  rintro e w2 ⟨L, rfl, hr2, hf2, k2⟩
  have q2 : Kept (fun b => b < w.heap.size) w w2 := (k1.trans k2).mono fun _ _ _ => trivial
  obtain ⟨eb, heb⟩ : ∃ eb, L.eb = eb := ⟨_, rfl⟩
  rw [heb]
  have HE := Lib.hid heb
  clear heb hf2
  go_wp2_with fail
  have hr3 := hr2.kept (w' := w2.alloc (.cells (falses n) 4)) ((Kept.refl _ _).alloc _)
  have q3 := q2.alloc (.cells (falses n) 4)
  have hI : InAt (w2.alloc (.cells (falses n) 4)) w2.heap.size (List.replicate n false) := Blk.new _ _ _
  have hnf : Hid (¬ L.foot w2.heap.size) := fun hf => Nat.lt_irrefl _ (hr2.foot_lt _ hf)
  have hbb : w.heap.size ≤ w2.heap.size := q2.size
  obtain ⟨ib, hib⟩ : ∃ ib, w2.heap.size = ib := ⟨_, rfl⟩
  rw [hib] at hI hnf hbb ⊢
  obtain ⟨w3, hw3⟩ : ∃ w3, w2.alloc (.cells (falses n) 4) = w3 := ⟨_, rfl⟩
  rw [hw3] at hr3 q3 hI ⊢
  clear hib hw3 hmk hr2 q2
  go_loopw [11, 12, 13, 14] (fun th tl fi i wr => ∃ (k things told : Nat) (L : Lay) (S : St) (first : Int), k ≤ l.length ∧ i = .int .i64 k ∧ th = .int .i64 things ∧ tl = .int .i64 told ∧ fi = .int .i64 first ∧ Hid (Hold S cl first things told k) ∧ Hid (S.ins.length = n) ∧ Rep wr w.heap.size L S ∧ Hid (L.eb = eb) ∧ InAt wr ib S.ins ∧ Hid (¬ L.foot ib) ∧ Kept (fun b => b < w.heap.size) w wr)
    (fun _ _ _ i _ => l.length - (intOf i).toNat)
  case atStart => exact ⟨0, 0, 0, L, _, -1, Nat.zero_le _, rfl, rfl, rfl, rfl, Hold.start n cl none, by unfold Hid; simp, hr3, HE, hI, hnf, q3⟩
  case round =>
    clear hr3 HE q3 k2 hI hnf
    obtain ⟨k, things, told, L, S, first, hk, rfl, rfl, rfl, rfl, HH, HL, hr, HE, hI, HF, q⟩ := hrel
    by_cases hlt : k < l.length
    · obtain ⟨b, off, p, hp, rfl, c0, c1⟩ := hl.get q hlt
      clear hp
      have hth := HH.out.once.le
      have htl := HH.out.once.li
      have hbs : w.heap.size ≤ wr.heap.size := q.size
      by_cases d0 : p.1 = 0
      · have e0 : (p.1 == 0) = true := beq_iff_eq.2 d0
        clear d0
        by_cases hat : S.at p.2 = some false
        · obtain ⟨j, hj, hjb⟩ := St.at_lt hat
          have hjn : j < n := by have := (List.getElem?_eq_some_iff.1 hjb).1; have := HL.out; omega
          have hjn' : (j : Int) < (n : Int) := by omega
          have HJ := Lib.hid hjb
          have HAT := Lib.hid hat
          clear hjb hat
          obtain ⟨pk, pn⟩ := p
          simp only at hj
          subst hj
          simp only at c0 c1 e0  HAT
          go_wp2_with fail
          refine (Enter hr HE.out (j : Int)).mono ?_
          rintro e wx ⟨hez, hrx, hkx⟩
          rw [if_pos HAT.out] at hez
          subst hez
          have qx := hr.past q hkx
          have hIx : InAt wx ib S.ins := Blk.kept hI hkx HF.out
          have cj := hIx.cell HJ.out
          have fj := Blk.frozen hIx j
          have hIy := hIx.set j true
          have hIn : Hid ((S.enter j).ins = S.ins.set j true) := by rw [enter_hit HJ.out]; rfl
          have hry := hrx.kept (w' := wx.setCell ⟨ib, j, none⟩ (.bool true)) ((Kept.refl _ wx).setCell (fun _ hf => HF.out hf) _)
          have qy := qx.setCell (p := ⟨ib, j, none⟩) (fun _ hb => Nat.not_lt_of_le hbb hb) (.bool true)
          rw [← hIn.out] at hIy
          by_cases hjc : j = cl
          · subst hjc
            have hself : ((j : Int) == (j : Int)) = true := beq_self_eq_true _
            go_wp2_with fail
            go_roundw
            case rel => exact ⟨k + 1, things, told, _, _, things, by omega, by go_num, by go_num, by go_num, rfl, Lib.hid (HH.out.enterSelf HJ.out), Lib.hid (by first | exact HL.out | (rw [enter_len]; exact HL.out) | (rw [exit_len]; exact HL.out)), hry, HE, hIy, HF, qy⟩
            case measure => simp [intOf]; omega
          · have hnself : ((j : Int) == (cl : Int)) = false := beq_eq_false_iff_ne.2 (by omega)
            go_wp2_with fail
            go_roundw
            case rel => exact ⟨k + 1, things, told, _, _, first, by omega, by go_num, by go_num, by go_num, rfl, Lib.hid (HH.out.enterOther HJ.out hjc), Lib.hid (by first | exact HL.out | (rw [enter_len]; exact HL.out) | (rw [exit_len]; exact HL.out)), hry, HE, hIy, HF, qy⟩
            case measure => simp [intOf]; omega
        · have HAT := Lib.hid hat
          clear hat
          go_wp2_with fail
          refine (Enter hr HE.out p.2).mono ?_
          rintro e wx ⟨hez, hrx, hkx⟩
          rw [if_neg HAT.out] at hez
          subst hez
          have qx := hr.past q hkx
          have hIx : InAt wx ib S.ins := Blk.kept hI hkx HF.out
          have hIn : Hid ((S.enter p.2).ins = S.ins) := by unfold Hid; rw [St.enter, if_neg HAT.out]
          rw [← hIn.out] at hIx
          go_wp2_with fail
          go_roundw
          case rel => exact ⟨k + 1, things, told, _, _, first, by omega, by go_num, by go_num, by go_num, rfl, Lib.hid (HH.out.enterMiss HAT.out), Lib.hid (by first | exact HL.out | (rw [enter_len]; exact HL.out) | (rw [exit_len]; exact HL.out)), hrx, HE, hIx, HF, qx⟩
          case measure => simp [intOf]; omega
      have e0 : (p.1 == 0) = false := beq_eq_false_iff_ne.2 d0
      clear d0
      by_cases d1 : p.1 = 1
      · have e1 : (p.1 == 1) = true := beq_iff_eq.2 d1
        clear d1
        by_cases hat : S.at p.2 = some true
        · obtain ⟨j, hj, hjb⟩ := St.at_lt hat
          have hjn : j < n := by have := (List.getElem?_eq_some_iff.1 hjb).1; have := HL.out; omega
          have hjn' : (j : Int) < (n : Int) := by omega
          have HJ := Lib.hid hjb
          have HAT := Lib.hid hat
          clear hjb hat
          obtain ⟨pk, pn⟩ := p
          simp only at hj
          subst hj
          simp only at c0 c1 e0 e1 HAT
          go_wp2_with fail
          refine (Exit hr HE.out (j : Int)).mono ?_
          rintro e wx ⟨hez, hrx, hkx⟩
          rw [if_pos HAT.out] at hez
          subst hez
          have qx := hr.past q hkx
          have hIx : InAt wx ib S.ins := Blk.kept hI hkx HF.out
          have cj := hIx.cell HJ.out
          have fj := Blk.frozen hIx j
          have hIy := hIx.set j false
          have hIn : Hid ((S.exit j).ins = S.ins.set j false) := by rw [exit_hit HJ.out]; rfl
          have hry := hrx.kept (w' := wx.setCell ⟨ib, j, none⟩ (.bool false)) ((Kept.refl _ wx).setCell (fun _ hf => HF.out hf) _)
          have qy := qx.setCell (p := ⟨ib, j, none⟩) (fun _ hb => Nat.not_lt_of_le hbb hb) (.bool false)
          rw [← hIn.out] at hIy
          by_cases hjc : j = cl
          · subst hjc
            have hself : ((j : Int) == (j : Int)) = true := beq_self_eq_true _
            go_wp2_with fail
            go_roundw
            case rel => exact ⟨k + 1, things, told, _, _, (-1), by omega, by go_num, by go_num, by go_num, rfl, Lib.hid (HH.out.exitSelf HJ.out), Lib.hid (by first | exact HL.out | (rw [enter_len]; exact HL.out) | (rw [exit_len]; exact HL.out)), hry, HE, hIy, HF, qy⟩
            case measure => simp [intOf]; omega
          · have hnself : ((j : Int) == (cl : Int)) = false := beq_eq_false_iff_ne.2 (by omega)
            go_wp2_with fail
            go_roundw
            case rel => exact ⟨k + 1, things, told, _, _, first, by omega, by go_num, by go_num, by go_num, rfl, Lib.hid (HH.out.exitOther HJ.out hjc), Lib.hid (by first | exact HL.out | (rw [enter_len]; exact HL.out) | (rw [exit_len]; exact HL.out)), hry, HE, hIy, HF, qy⟩
            case measure => simp [intOf]; omega
        · have HAT := Lib.hid hat
          clear hat
          go_wp2_with fail
          refine (Exit hr HE.out p.2).mono ?_
          rintro e wx ⟨hez, hrx, hkx⟩
          rw [if_neg HAT.out] at hez
          subst hez
          have qx := hr.past q hkx
          have hIx : InAt wx ib S.ins := Blk.kept hI hkx HF.out
          have hIn : Hid ((S.exit p.2).ins = S.ins) := by unfold Hid; rw [St.exit, if_neg HAT.out]
          rw [← hIn.out] at hIx
          go_wp2_with fail
          go_roundw
          case rel => exact ⟨k + 1, things, told, _, _, first, by omega, by go_num, by go_num, by go_num, rfl, Lib.hid (HH.out.exitMiss HAT.out), Lib.hid (by first | exact HL.out | (rw [enter_len]; exact HL.out) | (rw [exit_len]; exact HL.out)), hrx, HE, hIx, HF, qx⟩
          case measure => simp [intOf]; omega
      have e1 : (p.1 == 1) = false := beq_eq_false_iff_ne.2 d1
      clear d1
      by_cases d2 : p.1 = 2
      · have e2 : (p.1 == 2) = true := beq_iff_eq.2 d2
        clear d2
        have hwl := HH.out.once.length
        have HM := Lib.hid (show (S.waits.length + 1) * 16 ≤ 140737488355328 by omega)
        clear hwl
        go_wp2_with fail
        refine (Retire hr HE.out (things : Int) HM.out hbs).mono ?_
        rintro e wx ⟨Lx, rfl, hrx, hex, hfx, hkx⟩
        have HEx := Lib.hid hex
        have qx := hr.past q hkx
        have hIx : InAt wx ib S.ins := Blk.kept hI hkx HF.out
        have HFx : Hid (¬ Lx.foot ib) := fun hf => (hfx ib hf).elim HF.out (fun hle => Nat.not_lt_of_le hle (Blk.lt hI))
        clear hex hfx
        go_wp2_with fail
        go_roundw
        case rel => exact ⟨k + 1, things + 1, told, _, _, first, by omega, by go_num, by go_num, by go_num, rfl, Lib.hid (HH.out.retire), Lib.hid (by first | exact HL.out | (rw [enter_len]; exact HL.out) | (rw [exit_len]; exact HL.out)), hrx, HEx, hIx, HFx, qx⟩
        case measure => simp [intOf]; omega
      have e2 : (p.1 == 2) = false := beq_eq_false_iff_ne.2 d2
      clear d2
      by_cases d3 : p.1 = 3
      · have e3 : (p.1 == 3) = true := beq_iff_eq.2 d3
        clear d3
        go_wp2_with fail
        refine (Bump hr HE.out).mono ?_
        rintro e wx ⟨rfl, hrx, hkx⟩
        have qx := hr.past q hkx
        have hIx : InAt wx ib S.ins := Blk.kept hI hkx HF.out
        go_wp2_with fail
        go_roundw
        case rel => exact ⟨k + 1, things, told, _, _, first, by omega, by go_num, by go_num, by go_num, rfl, Lib.hid (HH.out.bump (by omega)), Lib.hid (by first | exact HL.out | (rw [enter_len]; exact HL.out) | (rw [exit_len]; exact HL.out)), hrx, HE, hIx, HF, qx⟩
        case measure => simp [intOf]; omega
      have e3 : (p.1 == 3) = false := beq_eq_false_iff_ne.2 d3
      clear d3
      have hwl := HH.out.once.length
      have HM := Lib.hid (show S.waits.length * 16 ≤ 140737488355328 by omega)
      clear hwl
      go_wp2_with fail
      refine (Reclaim hr HE.out HM.out hbs).mono ?_
      rintro e wx ⟨Ax, cx, Lx, rfl, hox, hrx, hex, hfx, hkx⟩
      have HEx := Lib.hid hex
      have qx := hr.past q hkx
      have hIx : InAt wx ib S.ins := Blk.kept hI hkx HF.out
      have HFx : Hid (¬ Lx.foot ib) := fun hf => (hfx ib hf).elim HF.out (fun hle => Nat.not_lt_of_le hle (Blk.lt hI))
      clear hex hfx
      have htle := HH.out.once.told_le
      have HTA := Lib.hid HH.out.once.told_at
      have HTO := Lib.hid HH.out.told_ok
      have hbx : S.told.length * 16 ≤ 140737488355328 := by omega
      have HHx := Lib.hid HH.out.reclaim
      obtain ⟨tn, htn⟩ : ∃ tn, S.told.length = tn := ⟨_, rfl⟩
      have HTN := Lib.hid htn
      rw [htn] at hox htle hbx HHx ⊢
      clear htn
      go_wp2_with fail
      go_loopw [19] (fun j wy => ∃ m : Nat, m ≤ tn ∧ j = .int .i64 m ∧ wx = wy) (fun j _ => tn - (intOf j).toNat)
      case atStart => exact ⟨0, Nat.zero_le _, rfl, rfl⟩
      case round =>
        obtain ⟨m, hm, rfl, hww⟩ := hrel
        subst hww
        by_cases hmt : m < tn
        · obtain ⟨g, cg, hvg, _⟩ := hox.form (by omega)
          injection hvg with hA hn hc
          subst hA
          have cm : wx.cell? ⟨g, m, none⟩ = some (.int .i64 (told + m : Nat)) := by
            rw [hox.cellAt m (by omega), List.getElem?_map, HTA.out m (by rw [HTN.out]; exact hmt)]
            rfl
          obtain ⟨v, hv⟩ : ∃ v : Int, ((told + m : Nat) : Int) = v := ⟨_, rfl⟩
          obtain ⟨t1, t2⟩ := HTO.out m (by rw [HTN.out]; exact hmt)
          rw [hv] at cm t2
          have g1 : decide (v < 0) = false := by simp; omega
          have g2 : decide ((things : Int) ≤ v) = false := by simp; omega
          clear hn hc hv t1
          by_cases hf0 : 0 ≤ first
          · have g0 : decide (0 ≤ first) = true := by simpa using hf0
            have g3 : decide (first ≤ v) = false := by have := t2 hf0; simp; omega
            clear t2
            go_wp2_with fail
            go_roundw
            case rel => exact ⟨m + 1, by omega, by go_num, trivial⟩
            case measure => simp [intOf]; omega
          · have g0 : decide (0 ≤ first) = false := by simpa using hf0
            clear t2
            go_wp2_with fail
            go_roundw
            case rel => exact ⟨m + 1, by omega, by go_num, trivial⟩
            case measure => simp [intOf]; omega
        · obtain rfl : m = tn := by omega
          clear hox
          go_wp2_with fail
          go_roundw
          case rel => exact ⟨k + 1, things, (told + m), _, _, first, by omega, by go_num, by go_num, by go_num, rfl, Lib.hid (HHx.out), Lib.hid (by first | exact HL.out | (rw [enter_len]; exact HL.out) | (rw [exit_len]; exact HL.out)), hrx, HEx, hIx, HFx, qx⟩
          case measure => simp [intOf]; omega
    · obtain rfl : k = l.length := by omega
      have hbs : w.heap.size ≤ wr.heap.size := q.size
      have HO := Lib.hid HH.out.once
      have HS := Lib.hid (Outs.start HH.out)
      have hkb : l.length ≤ 140737488355328 := by omega
      have htl : things ≤ l.length := HO.out.li
      have hth : told ≤ things := HO.out.le
      clear HH
      go_wp2_with fail
      go_loopw [20] (fun i wy => ∃ (m : Nat) (T : St), m ≤ n ∧ i = .int .i64 m ∧ Hid (Outs S T m) ∧ Rep wy w.heap.size L T ∧ InAt wy ib S.ins ∧ Kept (fun b => b < w.heap.size) w wy)
        (fun i _ => n - (intOf i).toNat)
      case atStart => exact ⟨0, S, Nat.zero_le _, rfl, HS, hr, hI, q⟩
      case round =>
        clear hr hI q
        obtain ⟨m, T, hm, rfl, HT, hr, hI, q⟩ := hrel
        by_cases hmt : m < n
        · have hmt' : (m : Int) < (n : Int) := by omega
          obtain ⟨x, hx⟩ : ∃ x, S.ins[m]? = some x := ⟨_, List.getElem?_eq_getElem (by rw [HL.out]; exact hmt)⟩
          have cm := hI.cell hx
          have HX := Lib.hid hx
          clear hx
          cases x with
          | false =>
            go_wp2_with fail
            go_roundw
            case rel => exact ⟨m + 1, T, by omega, by go_num, HT.out.skip HX.out, hr, hI, q⟩
            case measure => simp [intOf]; omega
          | true =>
            obtain ⟨hTi, hTo⟩ := HT.out.exit HX.out
            have HTI := Lib.hid (show T.at (m : Int) = some true by unfold St.at; rw [if_pos (by omega)]; exact hTi)
            have HTO := Lib.hid hTo
            clear hTi hTo
            go_wp2_with fail
            refine (Exit hr HE.out (m : Int)).mono ?_
            rintro e wx ⟨hez, hrx, hkx⟩
            rw [if_pos HTI.out] at hez
            subst hez
            have qx := hr.past q hkx
            have hIx : InAt wx ib S.ins := Blk.kept hI hkx HF.out
            go_wp2_with fail
            go_roundw
            case rel => exact ⟨m + 1, _, by omega, by go_num, HTO, hrx, hIx, qx⟩
            case measure => simp [intOf]; omega
        · obtain rfl : m = n := by omega
          have HA := Lib.hid (HT.out.all HL.out HO.out hkb)
          go_wp2_with fail
          refine (Bump hr HE.out).mono ?_
          rintro e wx ⟨rfl, hrx, hkx⟩
          have qx := hr.past q hkx
          go_wp2_with fail
          refine (Reclaim hrx HE.out (by have := HA.out.2.2.2; omega) qx.size).mono ?_
          rintro e wy ⟨Ay, cy, Ly, rfl, hoy, hry, hey, hfy, hky⟩
          have HEy := Lib.hid hey
          have qy := hrx.past qx hky
          have hcnt : told + T.bump.told.length = things := HA.out.1
          obtain ⟨tn, htn⟩ : ∃ tn, T.bump.told.length = tn := ⟨_, rfl⟩
          rw [htn] at hcnt ⊢
          have hsum : (((told : Nat) : Int) + (tn : Int) == (things : Int)) = true := beq_iff_eq.2 (by omega)
          clear htn hey hfy hoy
          go_wp2_with fail
          refine (Waiting hry HEy.out).mono ?_
          rintro e wz ⟨hez, hwz⟩
          subst hwz
          rw [HA.out.2.1] at hez
          subst hez
          go_wp2_with fail
          refine (Reclaim hry HEy.out (by rw [HA.out.2.1]; simp) qy.size).mono ?_
          rintro e wz ⟨Az, cz, Lz, rfl, hoz, hrz, hez, hfz, hkz⟩
          have qz := hry.past qy hkz
          rw [HA.out.2.2.1]
          clear hez hfz hoz hcnt
          go_wp2_with fail
          go_ret
          exact ⟨rfl, qz⟩
end Ytbefknaffopeaaa
end Go.Proofs
