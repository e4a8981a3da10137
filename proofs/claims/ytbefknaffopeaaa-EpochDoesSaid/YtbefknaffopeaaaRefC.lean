/-
  The reference: Safe.
-/
import Derived.Test.YtbefknaffopeaaaRefB
set_option maxHeartbeats 1000000
namespace Go.Proofs
open Go.RowKit
namespace Ytbefknaffopeaaa
attribute [local go_sem ↓] Go.wp_at_zero Go.wp_at_succ
section
variable {w w' : World} {base : Nat} {R : RLay} {S : St}
theorem wrap_add (a b : Int) : wrap64 (wrap64 a + b) = wrap64 (a + b) := by unfold wrap64; omega
def Tal.many (t : Tal) (n : Nat) : Tal := { t with l := wrap64 (t.l + 1 + n) }
theorem ons_eq (k : Nat) (t : Tal) : ∀ n : Nat, Gho.ons (Gho.on (some (k, t)) Tal.load) n = some (k, t.many n)
  | 0 => by simp [Gho.ons, Gho.on, Tal.load, Tal.many]
  | n + 1 => by
    show Gho.on (Gho.ons (Gho.on (some (k, t)) Tal.load) n) Tal.load = _
    rw [ons_eq k t n]
    simp only [Gho.on, Option.map_some, Tal.load, Tal.many]
    rw [wrap_add]
    have e : t.l + 1 + (n : Int) + 1 = t.l + 1 + ((n + 1 : Nat) : Int) := by push_cast; omega
    rw [e]
theorem tal_asked (h : S.g ≠ none) : S.asked.tal = S.tal.many S.ins.length ∧ S.asked.g ≠ none := by
  unfold St.asked St.tal
  cases hg : S.g with
  | none => exact absurd hg h
  | some p =>
    obtain ⟨k, t⟩ := p
    simp only [ons_eq]
    exact ⟨trivial, by simp⟩

theorem safeR (h : RRep w base R S) (hI : InOk S) :
    Calls Try.prog 22 #[.pointer (some ⟨R.rb, 0, none⟩)] w fun e w' => e = .returned (.int .i64 (safeOf S)) ∧ RRep w' base R S.asked ∧ Kept (fun b => ¬ R.foot b) w w' := by
  have hlc := hI.len
  have h64 := hI.le
  have c1 : w.cell? ⟨R.rb, 1, none⟩ = some (.slice (some ⟨R.ib, 0, none⟩) S.cells.length S.cells.length) := h.rblk.cell 1
  have c3 : w.cell? ⟨R.rb, 3, none⟩ = some (.int .i64 S.tal.l) := h.rblk.cell 3
  have c3f : w.frozen? ⟨R.rb, 3, none⟩ = false := h.rblk.frozen 3
  have hr1 : RRep (w.setCell ⟨R.rb, 3, none⟩ (.int .i64 (wrap64 (wrap64 (S.tal.l + 1) + (S.cells.length : Int))))) base R S.asked := h.struct 3 _ (by
    have := (tal_asked h.some_).1
    rw [← hlc] at this
    simp only [refCells, this, wrap_add]
    rfl) rfl rfl (tal_asked h.some_).2
  have kp : Kept (fun b => ¬ R.foot b) w (w.setCell ⟨R.rb, 3, none⟩ (.int .i64 (wrap64 (wrap64 (S.tal.l + 1) + (S.cells.length : Int))))) := (Kept.refl _ w).setCell (fun _ hn => hn (.inl rfl)) _
  obtain ⟨w1, hw1⟩ : ∃ w1, w.setCell ⟨R.rb, 3, none⟩ (.int .i64 (wrap64 (wrap64 (S.tal.l + 1) + (S.cells.length : Int)))) = w1 := ⟨_, rfl⟩
  rw [hw1] at hr1 kp
  have e0 : w1.cell? ⟨R.rb, 0, none⟩ = some (.int .i64 S.now) := hr1.rblk.cell 0
  have e1 : w1.cell? ⟨R.rb, 1, none⟩ = some (.slice (some ⟨R.ib, 0, none⟩) S.cells.length S.cells.length) := hr1.rblk.cell 1
  have HR := Lib.hid hr1
  have HK := Lib.hid kp
  have HI2 := Lib.hid hr1.iblk
  clear h hr1 kp hlc
  go_enter Try.func22, Try.ntmps22
  go_wp2_with fail
  go_still_tail 16, (by kernel_rfl)
  change wpList _ _ _ _ _ w.drew
  go_wp2_with fail
  clear hw1
  go_loopw [3, 4] (fun o i wr => ∃ k : Nat, k ≤ S.cells.length ∧ i = .int .i64 k ∧ o = .int .i64 (safeTo S.now S.cells k) ∧ w1.drew = wr)
    (fun _ i _ => S.cells.length - (intOf i).toNat)
  case atStart => exact ⟨0, Nat.zero_le _, rfl, rfl, rfl⟩
  case round =>
    obtain ⟨k, hk, rfl, rfl, rfl⟩ := hrel
    by_cases hlt : k < S.cells.length
    · obtain ⟨c, hc⟩ : ∃ c, S.cells[k]? = some c := ⟨_, List.getElem?_eq_getElem hlt⟩
      have hS := Lib.hid (safeTo_succ S.now S.cells k c hc)
      have ck : w1.cell? ⟨R.ib, k, none⟩ = some (.int .i64 c) := by
        rw [HI2.out.cell]
        show (S.cells.map (Value.int .i64)).toArray[k]? = _
        simp [hc]
      have hli : (k : Int) < (S.cells.length : Int) := by omega
      have hkb : k ≤ 64 := by have := hI.len; omega
      clear hc
      by_cases hcz : c = 0
      · have hnz : (c == 0) = true := by rw [hcz]; rfl
        have hnz2 : (c != 0) = false := by rw [hcz]; rfl
        have HZ := Lib.hid hcz
        clear hcz
        go_wp2_with fail
        go_roundw
        case rel => exact ⟨k + 1, by omega, by go_num, by rw [hS.out, HZ.out]; rfl, trivial⟩
        case measure => simp [intOf]; omega
      · have hnz : (c == 0) = false := beq_eq_false_iff_ne.2 hcz
        have hnz2 : (c != 0) = true := bne_iff_ne.2 hcz
        have HZ := Lib.hid hcz
        clear hcz
        by_cases hcl : c < safeTo S.now S.cells k
        · have hd : decide (c < safeTo S.now S.cells k) = true := by simp; omega
          have HL := Lib.hid hcl
          clear hcl
          go_wp2_with fail
          go_roundw
          case rel => exact ⟨k + 1, by omega, by go_num, by rw [hS.out, safeStep, if_neg HZ.out, if_pos HL.out], trivial⟩
          case measure => simp [intOf]; omega
        · have hd : decide (c < safeTo S.now S.cells k) = false := by simp; omega
          have HL := Lib.hid hcl
          clear hcl
          go_wp2_with fail
          go_roundw
          case rel => exact ⟨k + 1, by omega, by go_num, by rw [hS.out, safeStep, if_neg HZ.out, if_neg HL.out], trivial⟩
          case measure => simp [intOf]; omega
    · have hkl : k = S.cells.length := by omega
      go_wp2_with fail
      go_ret
      refine ⟨?_, HR.out.drew, HK.out.drew⟩
      rw [hkl]
      simp [safeTo, safeOf]
end
end Ytbefknaffopeaaa
end Go.Proofs
