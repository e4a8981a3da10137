/-
  EpochOnce holds: for every input the law returns true, and its arguments read as they did. No condition.
-/
import Derived.Test.YtbefknaffopeaaaRows
import Derived.Test.YtbefknaffopeaaaOpen
import Derived.Test.YtbefknaffopeaaaOnceWalk
import Derived.ProofKit
import Derived.OpenShut
import Derived.ShutString
import Derived.ChangeOld
import Derived.SizedLaws
namespace Go.Proofs.Ytbefknaffopeaaa
open Go.ChangeShapes Go.WideShapes Go.ChangeAt Go.RowKit
open Go.ChangeMaps (open_string shut_string)

theorem own : ownKnob Try.prog.godebug = none := by kernel_rfl
theorem laidOut : laidOutB Try.prog = true := by kernel_rfl
theorem bytes30 : Try.prog.bytesOf 30 = 16 := by kernel_rfl

/-- A slice of calls that came in. -/
theorem open_ops {H : Type} {enc : TypeId × Value → H} {W : World} {a : Option Addr} {len cap : Nat} {d : DataW H} {p : List MemPlace} (h : DataW.Trod enc Try.prog W 0 (fun _ => true) true 22 (.slice a len cap) d p)
    (hlt : ∀ x ∈ p, x.block < W.heap.size) (hsz : ∀ elems spare, d = .slice elems spare → (elems.length + spare.length) * 16 ≤ 140737488351232) : ∃ l, len = l.length ∧ OpsIn W a l := by
  obtain ⟨fuel, hf⟩ := h
  rcases open_slice_fields Try.underlying22 Try.underlying30 (by kernel_rfl) (by kernel_rfl) hf with ⟨hcs, _⟩ | ⟨ad, l, c, m, D, Pl, hcs, _, hlc, hm, hmm, hx, hi⟩
  · simp [Value.cells] at hcs
    obtain ⟨rfl, rfl, rfl⟩ := hcs
    exact ⟨[], rfl, by simp, fun i p hp => by simp at hp⟩
  · simp [Value.cells] at hcs
    obtain ⟨rfl, rfl, rfl⟩ := hcs
    simp only [if_true] at hmm
    subst hmm
    simp only [Prod.mk.injEq] at hx
    obtain ⟨hd, hp⟩ := hx
    have hs := hsz _ _ hd
    simp only [List.length_map, List.length_range] at hs
    have hcell : ∀ i, i < len → ∃ q : Int × Int, W.cell? (ad.add (i * 2)) = some (.int .i64 q.1) ∧ W.cell? (ad.add (i * 2 + 1)) = some (.int .i64 q.2) := by
      intro i hil
      obtain ⟨ys, n, _, _, _, hf⟩ := hi i (by omega)
      obtain ⟨v0, y0, c0, _, t0⟩ := hf 0 _ rfl
      obtain ⟨v1, y1, c1, _, t1⟩ := hf 1 _ rfl
      obtain ⟨k0, e0, _, _⟩ := DataW.trod_int Try.underlying3 t0
      obtain ⟨k1, e1, _, _⟩ := DataW.trod_int Try.underlying3 t1
      simp only [List.cons.injEq, and_true] at e0 e1
      subst e0 e1
      exact ⟨(k0, k1), c0, c1⟩
    refine ⟨(List.range len).map fun i => if h : i < len then Classical.choose (hcell i h) else (0, 0), by simp, by simp; omega, ?_⟩
    intro i q hq
    have hil : i < len := by simpa using (List.getElem?_eq_some_iff.1 hq).1
    have hqe : Classical.choose (hcell i hil) = q := by simpa [hil] using hq
    have := Classical.choose_spec (hcell i hil)
    rw [hqe] at this
    obtain ⟨b, off, spot⟩ := ad
    have hspot : spot = none := by
      obtain ⟨_, h2, _⟩ := hcell 0 (by omega)
      simpa [Addr.add] using World.cell?_spot h2
    subst hspot
    have hadd : ∀ k, (⟨b, off, none⟩ : Addr).add k = ⟨b, off + k, none⟩ := fun k => by unfold Addr.add; split <;> simp_all
    rw [hadd, hadd] at this
    refine ⟨b, off, rfl, ?_, this.1, by rw [Nat.add_assoc]; exact this.2⟩
    rcases Nat.lt_or_ge b W.heap.size with h | h
    · exact h
    · have h2 := this.1
      simp [World.cell?, Array.getElem?_eq_none h] at h2

set_option maxRecDepth 100000 in
theorem once_lifted (os : Os) (started : os.Started) (H : Type) (enc : TypeId × Value → H) :
    ReturnsInHanded {} Try.checked os 4 .any (Rows.epochOnceSpec.pre6 enc Try.prog Try.f4 Rows.epochOnceRow.domain false) (Rows.epochOnceSpec.post enc Try.prog Try.f4 false true false false) := by
  refine returnsInHanded_of_change_sized (C := Try.checked) own started (by kernel_rfl) Try.func4
    (ChangeSpec.witness6 (enc := enc) (C := Try.checked) false ⟨#[], #[.int .i64 0, .slice none 0 0], []⟩ 8 (by kernel_rfl) (by kernel_rfl) (by kernel_rfl) (by kernel_rfl)) ?_
  intro W base args ds gs before hval0 hW hcnd hsz0 _
  have hval : ∀ (j : Nat) t v, Try.f4.params[j]? = some t → args[j]? = some v → Value.okWide Try.prog W .any base t v := hval0
  have hsz : (DataW.weightsEach Try.prog (Try.f4.params.toList ++ Rows.epochOnceSpec.plain.varTypes Try.prog) (ds ++ gs)).all (· ≤ reachBytes) = true := hsz0
  have hW' := hW
  obtain ⟨p, q, hA0, hV, rfl, hfz, hnd⟩ := hW
  have hA : DataW.TrodAll enc Try.prog W 0 (fun _ => true) true Try.f4.params.toList args.toList ds p := hA0
  rw [Try.params4] at hA hval hsz
  obtain ⟨v0, vs0, d0, ds0, p0, q0, hargs, rfl, rfl, h0, r0⟩ := trodAll_cons hA
  obtain ⟨v1, vs1, d1, ds1, p1, q1, rfl, rfl, rfl, h1, r1⟩ := trodAll_cons r0
  obtain ⟨rfl, rfl, rfl⟩ := trodAll_nil r1
  obtain rfl : args = #[v0, v1] := by cases args; simp_all
  obtain ⟨rfl, rfl⟩ := trodVars_none hV
  obtain ⟨n, rfl, rfl, rfl, w0⟩ := open_int Try.underlying3 (hval 0 3 v0 rfl rfl) h0
  obtain ⟨a1, len1, cap1, rfl⟩ := okWide_slice Try.underlying22 (hval 1 22 v1 rfl rfl)
  have k1 := h1
  have lt1 : ∀ x ∈ p1, x.block < W.heap.size := by obtain ⟨m, hm⟩ := k1; exact DataW.trod_lt m _ _ _ hm
  obtain ⟨l, rfl, hl⟩ := open_ops h1 lt1 (by
    rintro elems spare rfl
    have := sized_slice hsz (j := 1) (t := 22) (e := 30) rfl rfl Try.underlying22
    rw [bytes30] at this
    exact this)
  clear hA0 hval0
  have hwalk : Calls Try.prog 4 #[.int .i64 n, .slice a1 l.length cap1] W fun e w' => e = .returned (.bool true) ∧ Kept (fun b => b < W.heap.size) W w' := by
    by_cases hn : n < 1 ∨ 64 < n
    · exact (once_bad n a1 l.length cap1 W hn).mono fun e w' ⟨h1, h2⟩ => ⟨h1, h2.mono fun _ _ _ => trivial⟩
    · obtain ⟨k, rfl⟩ := Int.eq_ofNat_of_zero_le (show 0 ≤ n by omega)
      exact once_good k a1 l cap1 W (by omega) (by omega) hl
  refine hwalk.mono fun e W' ⟨he, hk⟩ => ?_
  have bel : Below W.heap.size W W' := hk.below (Nat.le_refl _) fun _ h => h
  subst he
  exact ⟨_, rfl, _, _, _, [], _, [], hW', trodAll_mk1 (shut_bool Try.underlying4 _), (trodAll_cons_mk (shut_int Try.underlying3 w0) (trodAll_cons_mk (Below.trod laidOut (by kernel_rfl) (of_decide_eq_true (by kernel_rfl)) k1 bel lt1) trodAll_mk0)), rfl, bel.frame _, fun h => by cases h⟩

theorem once_over : Rows.epochOnceRow.holds Try.pinned (OpenSpec.ofChange Rows.epochOnceSpec) :=
  OpenClaim.holds_of_wide 4 Try.f4 rfl rfl rfl rfl rfl rfl rfl ⟨rfl, rfl, rfl, rfl, rfl⟩ rfl rfl rfl rfl rfl (by kernel_rfl) Try.func4 (by kernel_rfl)
    (of_decide_eq_true (by kernel_rfl)) (by unfold Func.isWrapper; first | (rw [if_pos (by decide +kernel)]; kernel_rfl) | (rw [if_neg (by decide +kernel)]; exact ⟨rfl, rfl⟩))
    (fun os started H enc _ => once_lifted os started H enc)

/-- THE STATEMENT. -/
theorem epochOnce_holds : Rows.EpochOnceSaid := once_over
#print axioms epochOnce_holds
end Go.Proofs.Ytbefknaffopeaaa
