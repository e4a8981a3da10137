/-
  A page that came in, opened.
-/
import Derived.Test.YtfoolgojcmkdbaaRows
import Derived.Test.YtfoolgojcmkdbaaOpen
import Derived.Test.YtfoolgojcmkdbaaPg
import Derived.ProofKit
import Derived.OpenShut
import Derived.ShutString
import Derived.ChangeOld
import Derived.SizedLaws
namespace Go.Proofs.Ytfoolgojcmkdbaa
open Go.ChangeShapes Go.WideShapes Go.ChangeAt Go.RowKit
open Go.ChangeMaps (open_string shut_string)
theorem own : ownKnob Try.prog.godebug = none := by kernel_rfl
theorem laidOut : laidOutB Try.prog = true := by kernel_rfl
theorem cell_blk_lt {w : World} {b o : Nat} {v : Value} (h : w.cell? ⟨b, o, none⟩ = some v) : b < w.heap.size := by
  rcases Nat.lt_or_ge b w.heap.size with h1 | h1
  · exact h1
  · simp [World.cell?, Array.getElem?_eq_none h1] at h
theorem reach_len {n m b : Nat} (hb : 1 ≤ b) (h : (n + m) * b ≤ reachBytes) : n ≤ 140737488351232 := by
  have : n * 1 ≤ (n + m) * b := Nat.mul_le_mul (by omega) hb
  simp only [reachBytes] at h
  omega
/-- A list of things out of what each place holds. -/
theorem list_of {α : Type} [Inhabited α] {n : Nat} {P : Nat → α → Prop} (h : ∀ i, i < n → ∃ x, P i x) : ∃ l : List α, l.length = n ∧ ∀ i x, l[i]? = some x → P i x := by
  refine ⟨(List.range n).map fun i => if h' : i < n then Classical.choose (h i h') else default, by simp, fun i x hx => ?_⟩
  have hi : i < n := by simpa using (List.getElem?_eq_some_iff.1 hx).1
  have hxe : Classical.choose (h i hi) = x := by simpa [hi] using hx
  rw [← hxe]
  exact Classical.choose_spec (h i hi)
section
variable {H : Type} {enc : TypeId × Value → H} {W : World}
theorem open_items {fuel : Nat} {v : Value} {x : DataW H × List MemPlace} (h : DataW.trod enc Try.prog W 0 (fun _ => true) true fuel 22 [v] = some x) : ∃ A c, ∃ l : List Item, v = .slice A l.length c ∧ ItR W v l ∧ (l = [] ∨ ∃ elems spare, x.1 = .slice elems spare ∧ elems.length = l.length) := by
  rcases open_slice_fields Try.underlying22 Try.underlying30 (by kernel_rfl) (by kernel_rfl) h with ⟨hcs, _⟩ | ⟨ad, len, c, m, D, Pl, hcs, _, hlc, hcm, hmm, hx, hi⟩
  · simp only [List.cons.injEq, and_true] at hcs
    subst hcs
    exact ⟨none, 0, [], rfl, RdK.nil W, .inl rfl⟩
  · simp only [List.cons.injEq, and_true] at hcs
    subst hcs
    simp only [if_true] at hmm
    subst hmm
    have hcell : ∀ i, i < len → ∃ q : Item, W.cell? (ad.add (i * 4)) = some (.string q.key) ∧ W.cell? (ad.add (i * 4 + 1)) = some (.string q.val) ∧ W.cell? (ad.add (i * 4 + 2)) = some (.int .i64 q.no) ∧ W.cell? (ad.add (i * 4 + 3)) = some (.bool q.gone) := fun i hil => by
      obtain ⟨ys, n, _, _, _, hf⟩ := hi i (by omega)
      obtain ⟨v0, y0, c0, _, t0⟩ := hf 0 _ rfl
      obtain ⟨v1, y1, c1, _, t1⟩ := hf 1 _ rfl
      obtain ⟨v2, y2, c2, _, t2⟩ := hf 2 _ rfl
      obtain ⟨v3, y3, c3, _, t3⟩ := hf 3 _ rfl
      obtain ⟨k0, e0, _, _⟩ := DataW.trod_string Try.underlying9 t0
      obtain ⟨k1, e1, _, _⟩ := DataW.trod_string Try.underlying9 t1
      obtain ⟨k2, e2, _, _⟩ := DataW.trod_int Try.underlying3 t2
      obtain ⟨k3, e3, _⟩ := DataW.trod_bool Try.underlying4 t3
      simp only [List.cons.injEq, and_true] at e0 e1 e2 e3
      subst e0 e1 e2 e3
      exact ⟨⟨k0, k1, k2, k3⟩, c0, c1, c2, c3⟩
    obtain ⟨l, rfl, hl⟩ := list_of hcell
    refine ⟨some ad, m, l, rfl, ⟨some ad, m, rfl, hlc, fun i q hq => ?_⟩, .inr ⟨_, _, by rw [hx], by simp⟩⟩
    obtain ⟨h0, h1, h2, h3⟩ := hl i q hq
    obtain ⟨b, off, spot⟩ := ad
    have hspot : spot = none := by
      obtain ⟨q0, hq0⟩ : ∃ q0, l[0]? = some q0 := ⟨_, List.getElem?_eq_getElem (by have := (List.getElem?_eq_some_iff.1 hq).1; omega)⟩
      have := (hl 0 q0 hq0).1
      simpa [Addr.add] using World.cell?_spot this
    subst hspot
    rw [addr_add] at h0 h1 h2 h3
    refine ⟨b, off, rfl, cell_blk_lt h0, fun j u hu => ?_⟩
    match j, hu with
    | 0, hu => injection hu with hu; subst hu; exact h0
    | 1, hu => injection hu with hu; subst hu; exact h1
    | 2, hu => injection hu with hu; subst hu; exact h2
    | 3, hu => injection hu with hu; subst hu; exact h3
    | j + 4, hu => simp [ics] at hu
theorem open_kids {fuel : Nat} {v : Value} {x : DataW H × List MemPlace} (h : DataW.trod enc Try.prog W 0 (fun _ => true) true fuel 23 [v] = some x) : ∃ A c, ∃ l : List Kid, v = .slice A l.length c ∧ KdR W v l ∧ (l = [] ∨ ∃ elems spare, x.1 = .slice elems spare ∧ elems.length = l.length) := by
  rcases open_slice_fields Try.underlying23 Try.underlying41 (by kernel_rfl) (by kernel_rfl) h with ⟨hcs, _⟩ | ⟨ad, len, c, m, D, Pl, hcs, _, hlc, hcm, hmm, hx, hi⟩
  · simp only [List.cons.injEq, and_true] at hcs
    subst hcs
    exact ⟨none, 0, [], rfl, RdK.nil W, .inl rfl⟩
  · simp only [List.cons.injEq, and_true] at hcs
    subst hcs
    simp only [if_true] at hmm
    subst hmm
    have hcell : ∀ i, i < len → ∃ q : Kid, W.cell? (ad.add (i * 2)) = some (.string q.key) ∧ W.cell? (ad.add (i * 2 + 1)) = some (.int .i64 q.page) := fun i hil => by
      obtain ⟨ys, n, _, _, _, hf⟩ := hi i (by omega)
      obtain ⟨v0, y0, c0, _, t0⟩ := hf 0 _ rfl
      obtain ⟨v1, y1, c1, _, t1⟩ := hf 1 _ rfl
      obtain ⟨k0, e0, _, _⟩ := DataW.trod_string Try.underlying9 t0
      obtain ⟨k1, e1, _, _⟩ := DataW.trod_int Try.underlying3 t1
      simp only [List.cons.injEq, and_true] at e0 e1
      subst e0 e1
      exact ⟨⟨k0, k1⟩, c0, c1⟩
    obtain ⟨l, rfl, hl⟩ := list_of hcell
    refine ⟨some ad, m, l, rfl, ⟨some ad, m, rfl, hlc, fun i q hq => ?_⟩, .inr ⟨_, _, by rw [hx], by simp⟩⟩
    obtain ⟨h0, h1⟩ := hl i q hq
    obtain ⟨b, off, spot⟩ := ad
    have hspot : spot = none := by
      obtain ⟨q0, hq0⟩ : ∃ q0, l[0]? = some q0 := ⟨_, List.getElem?_eq_getElem (by have := (List.getElem?_eq_some_iff.1 hq).1; omega)⟩
      have := (hl 0 q0 hq0).1
      simpa [Addr.add] using World.cell?_spot this
    subst hspot
    rw [addr_add] at h0 h1
    refine ⟨b, off, rfl, cell_blk_lt h0, fun j u hu => ?_⟩
    match j, hu with
    | 0, hu => injection hu with hu; subst hu; exact h0
    | 1, hu => injection hu with hu; subst hu; exact h1
    | j + 2, hu => simp [kcs] at hu
/-- A page as an argument. -/
theorem open_page {base : Nat} {v : Value} {d : DataW H} {p : List MemPlace} (hval : Value.okWide Try.prog W .any base 25 v) (h : DataW.Trod enc Try.prog W 0 (fun _ => true) true 25 v d p) (hz : ∀ n ∈ d.weights Try.prog 25, n ≤ reachBytes) :
    ∃ (pg : Page) (iA kA : Option Addr) (ic kc : Nat), v = pv pg (.slice iA pg.items.length ic) (.slice kA pg.kids.length kc) ∧ ItR W (.slice iA pg.items.length ic) pg.items ∧ KdR W (.slice kA pg.kids.length kc) pg.kids ∧
      pg.items.length ≤ 140737488351232 ∧ pg.kids.length ≤ 140737488351232 := by
  obtain ⟨cs, rfl, hsz⟩ := okWide_struct Try.underlying25 hval
  have h7 : Try.prog.cellsOf 25 = 7 := by kernel_rfl
  rw [h7] at hsz
  obtain ⟨fuel, hf⟩ := h
  obtain ⟨xs, n, _, hdx, _, hxl, hfs⟩ := DataW.trod_struct Try.underlying25 hf
  simp only [Prod.mk.injEq] at hdx
  rw [hdx.1] at hz
  simp only [DataW.weights, Try.underlying25] at hz
  obtain ⟨v0, v1, v2, v3, v4, v5, v6, rfl⟩ : ∃ v0 v1 v2 v3 v4 v5 v6, cs = #[v0, v1, v2, v3, v4, v5, v6] := by
    obtain ⟨l⟩ := cs
    match l, hsz with
    | [v0, v1, v2, v3, v4, v5, v6], _ => exact ⟨v0, v1, v2, v3, v4, v5, v6, rfl⟩
  have c3 : Try.prog.cellsOf 3 = 1 := by kernel_rfl
  have c4 : Try.prog.cellsOf 4 = 1 := by kernel_rfl
  have c9 : Try.prog.cellsOf 9 = 1 := by kernel_rfl
  have c22 : Try.prog.cellsOf 22 = 1 := by kernel_rfl
  have c23 : Try.prog.cellsOf 23 = 1 := by kernel_rfl
  have g : ∀ i, i < 7 → ∃ y, xs[i]? = some y := fun i hi => ⟨_, List.getElem?_eq_getElem (by rw [hxl]; exact hi)⟩
  obtain ⟨y0, e0⟩ := g 0 (by omega)
  obtain ⟨y1, e1⟩ := g 1 (by omega)
  obtain ⟨y2, e2⟩ := g 2 (by omega)
  obtain ⟨y3, e3⟩ := g 3 (by omega)
  obtain ⟨y4, e4⟩ := g 4 (by omega)
  obtain ⟨y5, e5⟩ := g 5 (by omega)
  obtain ⟨y6, e6⟩ := g 6 (by omega)
  have t0 : DataW.trod enc Try.prog W 0 (fun _ => true) true n 3 ((([v0, v1, v2, v3, v4, v5, v6] : List Value).drop 0).take (Try.prog.cellsOf 3)) = some y0 := (hfs 0 _ rfl).trans e0
  have t1 : DataW.trod enc Try.prog W 0 (fun _ => true) true n 9 ((([v0, v1, v2, v3, v4, v5, v6] : List Value).drop 1).take (Try.prog.cellsOf 9)) = some y1 := (hfs 1 _ rfl).trans e1
  have t2 : DataW.trod enc Try.prog W 0 (fun _ => true) true n 9 ((([v0, v1, v2, v3, v4, v5, v6] : List Value).drop 2).take (Try.prog.cellsOf 9)) = some y2 := (hfs 2 _ rfl).trans e2
  have t3 : DataW.trod enc Try.prog W 0 (fun _ => true) true n 4 ((([v0, v1, v2, v3, v4, v5, v6] : List Value).drop 3).take (Try.prog.cellsOf 4)) = some y3 := (hfs 3 _ rfl).trans e3
  have t4 : DataW.trod enc Try.prog W 0 (fun _ => true) true n 3 ((([v0, v1, v2, v3, v4, v5, v6] : List Value).drop 4).take (Try.prog.cellsOf 3)) = some y4 := (hfs 4 _ rfl).trans e4
  have t5 : DataW.trod enc Try.prog W 0 (fun _ => true) true n 22 ((([v0, v1, v2, v3, v4, v5, v6] : List Value).drop 5).take (Try.prog.cellsOf 22)) = some y5 := (hfs 5 _ rfl).trans e5
  have t6 : DataW.trod enc Try.prog W 0 (fun _ => true) true n 23 ((([v0, v1, v2, v3, v4, v5, v6] : List Value).drop 6).take (Try.prog.cellsOf 23)) = some y6 := (hfs 6 _ rfl).trans e6
  rw [c3] at t0 t4
  rw [c9] at t1 t2
  rw [c4] at t3
  rw [c22] at t5
  rw [c23] at t6
  simp only [List.drop_zero, List.drop_succ_cons, List.take_succ_cons, List.take_zero] at t0 t1 t2 t3 t4 t5 t6
  obtain ⟨a0, h0, _, _⟩ := DataW.trod_int Try.underlying3 t0
  obtain ⟨a1, h1, _, _⟩ := DataW.trod_string Try.underlying9 t1
  obtain ⟨a2, h2, _, _⟩ := DataW.trod_string Try.underlying9 t2
  obtain ⟨a3, h3, _⟩ := DataW.trod_bool Try.underlying4 t3
  obtain ⟨a4, h4, _, _⟩ := DataW.trod_int Try.underlying3 t4
  obtain ⟨A5, n5, l5, rfl, r5, b5⟩ := open_items t5
  obtain ⟨A6, n6, l6, rfl, r6, b6⟩ := open_kids t6
  have q5 : l5.length ≤ 140737488351232 := by
    rcases b5 with rfl | ⟨elems, spare, hs, hl⟩
    · simp
    · have := hz ((elems.length + spare.length) * Try.prog.bytesOf 30) (DataW.weights_mem_each (j := 5) (t := 22) (d := y5.1) rfl (by simp [e5]) _ (by rw [hs]; simp [DataW.weights, Try.underlying22]))
      rw [← hl]
      exact reach_len (by rw [show Try.prog.bytesOf 30 = 48 by kernel_rfl]; omega) this
  have q6 : l6.length ≤ 140737488351232 := by
    rcases b6 with rfl | ⟨elems, spare, hs, hl⟩
    · simp
    · have := hz ((elems.length + spare.length) * Try.prog.bytesOf 41) (DataW.weights_mem_each (j := 6) (t := 23) (d := y6.1) rfl (by simp [e6]) _ (by rw [hs]; simp [DataW.weights, Try.underlying23]))
      rw [← hl]
      exact reach_len (by rw [show Try.prog.bytesOf 41 = 24 by kernel_rfl]; omega) this
  simp only [List.cons.injEq, and_true] at h0 h1 h2 h3 h4
  subst h0 h1 h2 h3 h4
  exact ⟨⟨a0, a1, a2, a3, a4, l5, l6⟩, A5, A6, n5, n6, rfl, r5, r6, q5, q6⟩
end
end Go.Proofs.Ytfoolgojcmkdbaa
