/-
  Bytes that came in, opened.
-/
import Derived.Test.YtglhkfiigbbpdaaRows
import Derived.Test.YtglhkfiigbbpdaaOpen
import Derived.Test.YtglhkfiigbbpdaaBytes
import Derived.ProofKit
import Derived.OpenShut
import Derived.ShutString
import Derived.ChangeOld
import Derived.SizedLaws
namespace Go.Proofs.Ytglhkfiigbbpdaa
open Go.ChangeShapes Go.WideShapes Go.ChangeAt Go.RowKit
open Go.ChangeMaps (open_string shut_string)
theorem own : ownKnob Try.prog.godebug = none := by kernel_rfl
theorem laidOut : laidOutB Try.prog = true := by kernel_rfl
theorem cells5 : Try.prog.cellsOf 5 = 1 := by kernel_rfl
theorem bytes5 : Try.prog.bytesOf 5 = 1 := by kernel_rfl
theorem u64_of_wf {n : Int} (h : (Lit.int IntKind.u64 n).wf = true) : 0 ≤ n ∧ n ≤ 18446744073709551615 := by
  simp only [Lit.wf, Bool.and_eq_true, decide_eq_true_eq] at h
  exact h
theorem u8_of_wf {n : Int} (h : (Lit.int IntKind.u8 n).wf = true) : 0 ≤ n ∧ n ≤ 255 := by
  simp only [Lit.wf, Bool.and_eq_true, decide_eq_true_eq] at h
  exact h
/-- A slice of bytes that came in. -/
theorem open_bytes {H : Type} {enc : TypeId × Value → H} {W : World} {fuel : Nat} {a : Option Addr} {len cap : Nat} {x : DataW H × List MemPlace} (h : DataW.trod enc Try.prog W 0 (fun _ => true) true fuel 26 [.slice a len cap] = some x) :
    ∃ l : List UInt8, len = l.length ∧ Rd W (.slice a len cap) l ∧ (l = [] ∨ ∃ elems spare, x.1 = .slice elems spare ∧ elems.length = l.length) := by
  rcases open_ints Try.underlying26 Try.underlying5 cells5 h with ⟨hcs, rfl⟩ | ⟨ad, l, c, zs, hcs, _, hlc, hcm, hzl, rfl, hc, hw⟩
  · simp at hcs
    obtain ⟨rfl, rfl, rfl⟩ := hcs
    exact ⟨[], rfl, Rd.nil _, .inl rfl⟩
  · simp at hcs
    obtain ⟨rfl, rfl, rfl⟩ := hcs
    simp only [if_true] at hzl
    have hcell : ∀ i, i < len → ∃ b off u, ad = ⟨b, off, none⟩ ∧ zs[i]? = some ((u : UInt8).toNat : Int) ∧ W.cell? ⟨b, off + i, none⟩ = some (.int .u8 (u.toNat : Int)) := by
      intro i hi
      have h1 := hc i (by omega)
      have hz : zs[i]? = some (zs.getD i 0) := by rw [List.getD_eq_getElem?_getD, List.getElem?_eq_getElem (by omega)]; rfl
      have hz2 := u8_of_wf (hw _ (List.mem_of_getElem? hz))
      obtain ⟨b, off, spot⟩ := ad
      have hspot : spot = none := by
        have h2 := hc 0 (by omega)
        simpa [Addr.add] using World.cell?_spot h2
      subst hspot
      rw [addr_add] at h1
      have hu : ((UInt8.ofNat (zs.getD i 0).toNat).toNat : Int) = zs.getD i 0 := by
        rw [UInt8.toNat_ofNat']
        omega
      exact ⟨b, off, UInt8.ofNat (zs.getD i 0).toNat, rfl, by rw [hu]; exact hz, by rw [hu]; exact h1⟩
    refine ⟨(zs.take len).map fun n => UInt8.ofNat n.toNat, by simp; omega, ⟨some ad, cap, by simp; omega, by simp; omega, fun i u hu => ?_⟩, .inr ⟨_, _, rfl, ?_⟩⟩
    · have hi : i < len := by
        have := (List.getElem?_eq_some_iff.1 hu).1
        simp at this
        omega
      obtain ⟨b, off, u', hab, hz, h1⟩ := hcell i hi
      have : u = u' := by
        rw [List.getElem?_map, List.getElem?_take_of_lt hi, hz] at hu
        simp at hu
        exact hu.symm
      subst this
      exact ⟨b, off, by rw [hab], h1⟩
    · simp [lits]
end Go.Proofs.Ytglhkfiigbbpdaa
