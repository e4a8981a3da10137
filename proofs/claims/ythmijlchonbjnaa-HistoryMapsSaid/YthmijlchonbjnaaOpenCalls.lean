/-
  Calls that came in, opened.
-/
import Derived.Test.YthmijlchonbjnaaRows
import Derived.Test.YthmijlchonbjnaaOpen
import Derived.Test.YthmijlchonbjnaaHist
import Derived.ProofKit
import Derived.OpenShut
import Derived.ShutString
import Derived.ChangeOld
import Derived.SizedLaws
namespace Go.Proofs.Ythmijlchonbjnaa
open Go.ChangeShapes Go.WideShapes Go.ChangeAt Go.RowKit
open Go.ChangeMaps (open_string shut_string)
theorem own : ownKnob Try.prog.godebug = none := by kernel_rfl
theorem laidOut : laidOutB Try.prog = true := by kernel_rfl
theorem cell_blk_lt {w : World} {b o : Nat} {v : Value} (h : w.cell? ⟨b, o, none⟩ = some v) : b < w.heap.size := by
  rcases Nat.lt_or_ge b w.heap.size with h1 | h1
  · exact h1
  · simp [World.cell?, Array.getElem?_eq_none h1] at h
/-- A list of things out of what each place holds. -/
theorem list_of {α : Type} [Inhabited α] {n : Nat} {P : Nat → α → Prop} (h : ∀ i, i < n → ∃ x, P i x) : ∃ l : List α, l.length = n ∧ ∀ i x, l[i]? = some x → P i x := by
  refine ⟨(List.range n).map fun i => if h' : i < n then Classical.choose (h i h') else default, by simp, fun i x hx => ?_⟩
  have hi : i < n := by simpa using (List.getElem?_eq_some_iff.1 hx).1
  have hxe : Classical.choose (h i hi) = x := by simpa [hi] using hx
  rw [← hxe]
  exact Classical.choose_spec (h i hi)
section
variable {H : Type} {enc : TypeId × Value → H} {W : World}
theorem open_calls {fuel : Nat} {v : Value} {x : DataW H × List MemPlace} (h : DataW.trod enc Try.prog W 0 (fun _ => true) true fuel 22 [v] = some x) : ∃ A c, ∃ l : List Call, v = .slice A l.length c ∧ CaR W v l := by
  rcases open_slice_fields Try.underlying22 Try.underlying38 (by kernel_rfl) (by kernel_rfl) h with ⟨hcs, _⟩ | ⟨ad, len, c, m, D, Pl, hcs, _, hlc, hcm, hmm, hx, hi⟩
  · simp only [List.cons.injEq, and_true] at hcs
    subst hcs
    exact ⟨none, 0, [], rfl, RdK.nil W⟩
  · simp only [List.cons.injEq, and_true] at hcs
    subst hcs
    simp only [if_true] at hmm
    subst hmm
    have hcell : ∀ i, i < len → ∃ q : Call, W.cell? (ad.add (i * 6)) = some (.int .i64 q.client) ∧ W.cell? (ad.add (i * 6 + 1)) = some (.int .i64 q.kind) ∧ W.cell? (ad.add (i * 6 + 2)) = some (.string q.key) ∧ W.cell? (ad.add (i * 6 + 3)) = some (.string q.val) ∧ W.cell? (ad.add (i * 6 + 4)) = some (.string q.fin) ∧ W.cell? (ad.add (i * 6 + 5)) = some (.int .i64 q.most) := fun i hil => by
      obtain ⟨ys, n, _, _, _, hf⟩ := hi i (by omega)
      obtain ⟨v0, y0, c0, _, t0⟩ := hf 0 _ rfl
      obtain ⟨v1, y1, c1, _, t1⟩ := hf 1 _ rfl
      obtain ⟨v2, y2, c2, _, t2⟩ := hf 2 _ rfl
      obtain ⟨v3, y3, c3, _, t3⟩ := hf 3 _ rfl
      obtain ⟨v4, y4, c4, _, t4⟩ := hf 4 _ rfl
      obtain ⟨v5, y5, c5, _, t5⟩ := hf 5 _ rfl
      obtain ⟨k0, e0, _, _⟩ := DataW.trod_int Try.underlying3 t0
      obtain ⟨k1, e1, _, _⟩ := DataW.trod_int Try.underlying3 t1
      obtain ⟨k2, e2, _, _⟩ := DataW.trod_string Try.underlying9 t2
      obtain ⟨k3, e3, _, _⟩ := DataW.trod_string Try.underlying9 t3
      obtain ⟨k4, e4, _, _⟩ := DataW.trod_string Try.underlying9 t4
      obtain ⟨k5, e5, _, _⟩ := DataW.trod_int Try.underlying3 t5
      simp only [List.cons.injEq, and_true] at e0 e1 e2 e3 e4 e5
      subst e0 e1 e2 e3 e4 e5
      exact ⟨⟨k0, k1, k2, k3, k4, k5⟩, c0, c1, c2, c3, c4, c5⟩
    obtain ⟨l, rfl, hl⟩ := list_of hcell
    refine ⟨some ad, m, l, rfl, ⟨some ad, m, rfl, hlc, fun i q hq => ?_⟩⟩
    obtain ⟨h0, h1, h2, h3, h4, h5⟩ := hl i q hq
    obtain ⟨b, off, spot⟩ := ad
    have hspot : spot = none := by
      obtain ⟨q0, hq0⟩ : ∃ q0, l[0]? = some q0 := ⟨_, List.getElem?_eq_getElem (by have := (List.getElem?_eq_some_iff.1 hq).1; omega)⟩
      have := (hl 0 q0 hq0).1
      simpa [Addr.add] using World.cell?_spot this
    subst hspot
    rw [addr_add] at h0 h1 h2 h3 h4 h5
    refine ⟨b, off, rfl, cell_blk_lt h0, fun j u hu => ?_⟩
    match j, hu with
    | 0, hu => injection hu with hu; subst hu; exact h0
    | 1, hu => injection hu with hu; subst hu; exact h1
    | 2, hu => injection hu with hu; subst hu; exact h2
    | 3, hu => injection hu with hu; subst hu; exact h3
    | 4, hu => injection hu with hu; subst hu; exact h4
    | 5, hu => injection hu with hu; subst hu; exact h5
    | j + 6, hu => simp [ccs] at hu
end
end Go.Proofs.Ythmijlchonbjnaa
