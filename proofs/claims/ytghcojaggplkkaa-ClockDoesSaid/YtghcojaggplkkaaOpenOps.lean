/-
  The calls that came in, opened.
-/
import Derived.Test.YtghcojaggplkkaaRows
import Derived.Test.YtghcojaggplkkaaOpen
import Derived.Test.YtghcojaggplkkaaArgs
import Derived.ProofKit
import Derived.OpenShut
import Derived.ShutString
import Derived.ChangeOld
import Derived.SizedLaws
namespace Go.Proofs.Ytghcojaggplkkaa
open Go.ChangeShapes Go.WideShapes Go.ChangeAt Go.RowKit
open Go.ChangeMaps (open_string shut_string)

theorem own : ownKnob Try.prog.godebug = none := by kernel_rfl
theorem laidOut : laidOutB Try.prog = true := by kernel_rfl
theorem bytes30 : Try.prog.bytesOf 30 = 24 := by kernel_rfl

/-- A slice of calls that came in. -/
theorem open_ops {H : Type} {enc : TypeId × Value → H} {W : World} {a : Option Addr} {len cap : Nat} {d : DataW H} {p : List MemPlace} (h : DataW.Trod enc Try.prog W 0 (fun _ => true) true 22 (.slice a len cap) d p)
    (hlt : ∀ x ∈ p, x.block < W.heap.size) (hsz : ∀ elems spare, d = .slice elems spare → (elems.length + spare.length) * 24 ≤ 140737488351232) : ∃ l, len = l.length ∧ OpsIn W a l := by
  obtain ⟨fuel, hf⟩ := h
  rcases open_slice_fields Try.underlying22 Try.underlying30 (by kernel_rfl) (by kernel_rfl) hf with ⟨hcs, _⟩ | ⟨ad, l, c, m, D, Pl, hcs, _, hlc, hm, hmm, hx, hi⟩
  · simp [Value.cells] at hcs
    obtain ⟨rfl, rfl, rfl⟩ := hcs
    exact ⟨[], rfl, by simp, fun i p hp => by simp at hp⟩
  · simp [Value.cells] at hcs
    obtain ⟨rfl, rfl, rfl⟩ := hcs
    simp only [if_true] at hmm
    subst hmm
    simp only [Prod.mk.injEq] at hx
    obtain ⟨hd, hp⟩ := hx
    have hs := hsz _ _ hd
    simp only [List.length_map, List.length_range] at hs
    have hcell : ∀ i, i < len → ∃ q : Int × Int × Int, W.cell? (ad.add (i * 3)) = some (.int .i64 q.1) ∧ W.cell? (ad.add (i * 3 + 1)) = some (.int .i64 q.2.1) ∧ W.cell? (ad.add (i * 3 + 2)) = some (.int .i64 q.2.2) := by
      intro i hil
      obtain ⟨ys, n, _, _, _, hf⟩ := hi i (by omega)
      obtain ⟨v0, y0, c0, _, t0⟩ := hf 0 _ rfl
      obtain ⟨v1, y1, c1, _, t1⟩ := hf 1 _ rfl
      obtain ⟨v2, y2, c2, _, t2⟩ := hf 2 _ rfl
      obtain ⟨k0, e0, _, _⟩ := DataW.trod_int Try.underlying3 t0
      obtain ⟨k1, e1, _, _⟩ := DataW.trod_int Try.underlying3 t1
      obtain ⟨k2, e2, _, _⟩ := DataW.trod_int Try.underlying3 t2
      simp only [List.cons.injEq, and_true] at e0 e1 e2
      subst e0 e1 e2
      exact ⟨(k0, k1, k2), c0, c1, c2⟩
    refine ⟨(List.range len).map fun i => if h : i < len then Classical.choose (hcell i h) else (0, 0, 0), by simp, by simp; omega, ?_⟩
    intro i q hq
    have hil : i < len := by simpa using (List.getElem?_eq_some_iff.1 hq).1
    have hqe : Classical.choose (hcell i hil) = q := by simpa [hil] using hq
    have := Classical.choose_spec (hcell i hil)
    rw [hqe] at this
    obtain ⟨b, off, spot⟩ := ad
    have hspot : spot = none := by
      obtain ⟨_, h2, _, _⟩ := hcell 0 (by omega)
      simpa [Addr.add] using World.cell?_spot h2
    subst hspot
    have hadd : ∀ k, (⟨b, off, none⟩ : Addr).add k = ⟨b, off + k, none⟩ := fun k => by unfold Addr.add; split <;> simp_all
    rw [hadd, hadd, hadd] at this
    refine ⟨b, off, rfl, ?_, this.1, by rw [Nat.add_assoc]; exact this.2.1, by rw [Nat.add_assoc]; exact this.2.2⟩
    rcases Nat.lt_or_ge b W.heap.size with h | h
    · exact h
    · have h2 := this.1
      simp [World.cell?, Array.getElem?_eq_none h] at h2

end Go.Proofs.Ytghcojaggplkkaa
