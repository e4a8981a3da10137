/-
  The chapter's example.
-/
import Derived.Test.YtglhkfiigbbpdaaNum
import Derived.Test.YtglhkfiigbbpdaaReader
set_option maxHeartbeats 1000000
namespace Go.Proofs
open Go.RowKit
namespace Ytglhkfiigbbpdaa
attribute [local go_sem ↓] Go.wp_at_zero Go.wp_at_succ
theorem run_str26 {w : World} {v : Value} {l : List UInt8} (h : Rd w v l) : (convert 26 9 v).run Try.prog w = .ok (.string (str l)) w := run_str Try.underlying26 Try.underlying5 Try.underlying9 h
/-- A constant string's bytes: the block is marked, its cells are as they were. -/
theorem run_const26 (w : World) : ∃ w', (convert 26 26 (.slice (some ⟨w.heap.size, 0, none⟩) 2 2)).run Try.prog (w.alloc (.cells #[.int .u8 97, .int .u8 98] 5)) = .ok (.slice (some ⟨w.heap.size, 0, none⟩) 2 2) w' ∧
    Rd w' (.slice (some ⟨w.heap.size, 0, none⟩) 2 2) [97, 98] ∧ Kept (fun _ => True) w w' ∧ w.heap.size < w'.heap.size := by
  refine ⟨(w.alloc (.cells #[.int .u8 97, .int .u8 98] 5)).freeze ⟨w.heap.size, 2, none⟩ 1, ?_, ?_, ?_, ?_⟩
  · have hsh : (w.alloc (.cells #[.int .u8 97, .int .u8 98] 5)).shape? w.heap.size = some (5, 2) := by
      simp [World.shape?, World.alloc, -World.alloc_eq]
    simp [convert, run_underlying Try.underlying26, run_underlying Try.underlying5, markStringish, hsh]
  · have hg : ((w.alloc (.cells #[.int .u8 97, .int .u8 98] 5)).freeze ⟨w.heap.size, 2, none⟩ 1).heap[w.heap.size]? = some (.cells #[.int .u8 97, .int .u8 98] 5 (2, 3)) := by
      simp [World.freeze, World.alloc, -World.alloc_eq]
      rw [Array.getElem_modify_self]
      simp
    refine ⟨some ⟨w.heap.size, 0, none⟩, 2, rfl, Nat.le_refl _, fun i u hu => ⟨w.heap.size, 0, rfl, ?_⟩⟩
    rw [cell_of_row _ _ _ _ _ _ hg]
    match i, hu with
    | 0, hu => cases hu; rfl
    | 1, hu => cases hu; rfl
  · refine ⟨rfl, rfl, rfl, by simp [World.freeze, World.alloc, -World.alloc_eq], fun k hk _ => ?_⟩
    have hne : w.heap.size ≠ k := by omega
    simp [World.freeze, World.alloc, -World.alloc_eq, Array.getElem?_modify, hne, Array.getElem?_push, Ne.symm hne]
  · simp [World.freeze, World.alloc, -World.alloc_eq]
theorem form300 : form 300 = [172, 2] := by rw [form_ge (by decide), form_lt (by decide)]; rfl
theorem form2 : form 2 = [2] := form_lt (by decide)
theorem awake_any (w : World) : Calls Try.prog 8 #[] w fun e w' => e = .returned (.bool true) ∧ Kept (fun _ => True) w w' := by
  go_enter Try.func8, Try.ntmps8
  go_wp2_with fail
  refine (newW_any w).mono ?_
  rintro e w1 ⟨rfl, hw1⟩
  have hW := WRep.new w w.heap.size (Nat.le_refl _)
  have k1 : Kept (fun _ => True) w (w.alloc (.cells #[.slice none 0 0] 50)) := (Kept.refl _ w).alloc _
  have hs1 : (w.alloc (.cells #[.slice none 0 0] 50)).heap.size = w.heap.size + 1 := by simp
  rw [← hw1] at hW k1 hs1
  clear hw1
  obtain ⟨wb, hwb⟩ : ∃ wb, w.heap.size = wb := ⟨_, rfl⟩
  rw [hwb] at hW hs1 ⊢
  have HWB := Lib.hid hwb
  have HS1 := Lib.hid hs1
  clear hwb hs1
  go_wp2_with fail
  refine (num_any w1 wb wb _ [] hW 300 (by omega) (by simp) (by rw [HS1.out]; omega)).mono ?_
  rintro e w2 ⟨rfl, v2, hW2, ho2, hk2⟩
  have k2 : Kept (fun b => b < wb) w w2 := (k1.mono fun _ _ _ => trivial).trans' hk2 fun b _ hb hf => by
    have := hW.foot_low b hf
    omega
  have hs2 : wb + 1 ≤ w2.heap.size := by have := hk2.size; rw [HS1.out] at this; exact this
  rw [form300] at hW2
  obtain ⟨w2', hcs, hx, hkc, hsc⟩ := run_const26 w2
  have hW3 := hW2.kept (hkc.mono fun _ _ _ => trivial)
  have HS2 := Lib.hid hs2
  have K2 := Lib.hid k2
  clear hk2 ho2 k1 hW k2 hs2
  go_wp2_with fail
  refine (bytes_any hW3 hx (fun _ b hb => ?_) (by simp) (by have := HS2.out; omega)).mono ?_
  · have : w2.heap.size = b := by simpa [Value.ownBlock] using hb
    subst this
    exact ⟨fun hf => Nat.lt_irrefl _ (hW2.foot_lt _ hf), hsc⟩
  rintro e w3 ⟨rfl, v3, hW4, ho3, hk3⟩
  have k3 : Kept (fun b => b < wb) w w3 := (K2.out.trans (hkc.mono fun _ _ _ => trivial)).trans' hk3 fun b _ hb hf => by
    have := hW3.foot_low b hf
    omega
  have hs3 : wb + 1 ≤ w3.heap.size := by have := hk3.size; have := HS2.out; omega
  have hl4 : form [(97 : UInt8), 98].length = [2] := form2
  rw [hl4] at hW4
  have K3 := Lib.hid k3
  have HS3 := Lib.hid hs3
  clear hk3 ho3 k3 hs3 hW3 hW2 hx hl4 hkc hsc hcs
  go_wp2_with fail
  refine (doneW_any hW4 (by simp)).mono ?_
  rintro e w4 ⟨v4, rfl, hF⟩
  have hv4 := hF.val
  subst hv4
  have hrd4 := hF.rd
  have k4 : Kept (fun b => b < wb) w w4 := K3.out.trans (hF.kept.mono fun _ _ _ => trivial)
  have hs4 : w3.heap.size < w4.heap.size := hF.blk.lt
  have K4 := Lib.hid k4
  have HS4 := Lib.hid hs4
  clear k4 hs4 hW4 hF
  go_wp2_with fail
  refine (newRd_any (base := w4.heap.size) hrd4 (by simp) (Nat.le_refl _)).mono ?_
  rintro e w5 ⟨rb, lb, rfl, hR5, hf5, hk5⟩
  have hrd5 := hrd4.kept hk5 fun _ _ _ => trivial
  have k5 := K4.out.trans (hk5.mono fun _ _ _ => trivial)
  have hdis : ∀ b, (Value.slice (some ⟨w3.heap.size, 0, none⟩) ([] ++ [172, 2] ++ [2] ++ [(97 : UInt8), 98]).length ([] ++ [172, 2] ++ [2] ++ [(97 : UInt8), 98]).length).ownBlock = some b → ¬ rfoot rb lb b := fun b hb hf => by
    have e1 : w3.heap.size = b := by simpa [Value.ownBlock] using hb
    have := hf5 b hf
    have := HS4.out
    omega
  have hlow : ∀ b, rfoot rb lb b → ¬ b < wb := fun b hf => by
    have := hf5 b hf
    have := HS4.out
    have := HS3.out
    omega
  clear hk5 hrd4 hf5
  have n1 : rnum ([] ++ [172, 2] ++ [2] ++ [(97 : UInt8), 98]) 0 300 = (300, [2, 97, 98], 0) := by decide +kernel
  have n2 : rbytes [2, (97 : UInt8), 98] 0 2 = ([97, 98], [], 0) := by decide +kernel
  have HD := Lib.hid hdis
  have HLO := Lib.hid hlow
  have N1 := Lib.hid n1
  have N2 := Lib.hid n2
  clear hdis hlow n1 n2
  go_wp2_with fail
  refine (numR_any hR5 300 (by omega)).mono ?_
  rintro e w6 ⟨he, hR6, hk6⟩
  rw [N1.out] at he hR6
  subst he
  have hrd6 := hrd5.kept hk6 fun _ b hb => HD.out b hb
  have k6 : Kept (fun b => b < wb) w w6 := k5.trans' hk6 fun b _ hb hf => HLO.out b hf hb
  clear hk6 hrd5 k5 hR5
  go_wp2_with fail
  refine (bytesR_any hR6 2 (by omega)).mono ?_
  rintro e w7 ⟨v7, rfl, hrow7, hR7, hk7⟩
  rw [N2.out] at hrow7 hR7
  have hrd7 := hrd6.kept hk7 fun _ b hb => HD.out b hb
  have k7 : Kept (fun b => b < wb) w w7 := k6.trans' hk7 fun b _ hb hf => HLO.out b hf hb
  have hrv := hrow7.rd
  obtain ⟨A7, c7, rfl⟩ := hrow7.form
  have s1 := run_str26 hrd7
  have s2 := run_str26 hrv
  change (convert 26 9 (.slice (some ⟨w3.heap.size, 0, none⟩) 5 5)).run Try.prog w7 = .ok (.string { data := #[172, 2, 2, 97, 98] }) w7 at s1
  change _ = Result.ok (Value.string { data := #[97, 98] }) w7 at s2
  have K7 := Lib.hid k7
  have HWB2 : Hid (Kept (fun _ => True) w w7) := ⟨k7.os, k7.tape, k7.output, k7.size, fun b hb _ => k7.block b hb (by rw [HWB.out] at hb; exact hb)⟩
  have HR7 := Lib.hid hR7
  clear hrd7 hrow7 hrv hrd6 hk7 k7 k6 hR6 hR7
  go_wp2_with fail
  refine (leftR_any HR7.out).mono ?_
  rintro e w' ⟨rfl, rfl⟩
  go_wp2_with fail
  refine (doneR_any HR7.out).mono ?_
  rintro e w' ⟨rfl, rfl⟩
  have hd : rdone [] 0 = 0 := rfl
  rw [hd]
  go_wp2_with fail
  go_ret
  exact ⟨rfl, HWB2.out⟩
end Ytglhkfiigbbpdaa
end Go.Proofs
