/-
  A range over the digits: what a caller owes.
-/
import Derived.Test.YtglhkfiigbbpdaaWriter
set_option maxHeartbeats 1000000
namespace Go.Proofs
open Go.RowKit Go.Shelf
namespace Ytglhkfiigbbpdaa
theorem kept_put {K : Nat → Prop} {W : World} {l : Nat} (o : Obj) (hl : ¬ K l) : Kept K W (W.putObj l o) :=
  ⟨rfl, rfl, rfl, by simp, fun k _ hk => World.putObj_heap_other (fun e => hl (e ▸ hk))⟩
theorem Kept.heap {K : Nat → Prop} {w w' : World} (h : Kept K w w') {k : Nat} {o : Obj} (hk : w.heap[k]? = some o) (hK : K k) : w'.heap[k]? = some o :=
  (h.block k (Array.getElem?_eq_some_iff.1 hk).1 hK).trans hk
theorem range_digits {assign body : Code} {Q : Exit → Act → World → Prop} {a : Act} {W0 : World} {g : Operand} {p : Tmp} {bn N D : Nat} (hD : W0.heap.size = D) (hN : N < 18446744073709551616)
    (hg : a.eval g = .func (.func 32) #[] #[.pointer (some ⟨bn, 0, none⟩)]) (hb : Blk W0 bn 27 #[.int .u64 (N : Int)])
    (I : List UInt8 → World → Prop) (hI : ∀ pre W W', I pre W → Kept (fun b => b ≠ bn ∧ b ≠ D ∧ b ≠ D + 1) W W' → I pre W') (h0 : I [] W0)
    (hround : ∀ pre x post W, form N = pre ++ x :: post → I pre W → D + 2 ≤ W.heap.size →
      assign.wpIn (Fence.wide.inRound (D + 1)) 1 Try.prog (Exit.then (fun a1 w1 => w1 = W ∧ ∀ w2, I pre w2 → W.heap.size ≤ w2.heap.size →
        body.wpIn (Fence.wide.inRound (D + 1)) 1 Try.prog (fun e _ W' => e = .normal ∧ I (pre ++ [x]) W' ∧ Kept (fun b => b = bn ∨ b = D ∨ b = D + 1) w2 W') a1 w2) (fun _ _ _ => False))
        { tmps := a.tmps.setIfInBounds p (.int .u8 (x.toNat : Int)), defers := [] } W)
    (hdone : ∀ W, I (form N) W → W.heap[D]? = some (.deferred (some [])) → Q .normal { a with defers := { target := .collected D, args := #[] } :: a.defers } W) :
    (Code.rangeFunc g #[p] assign body).wpIn Fence.wide 3 Try.prog Q a W0 := by
  have hbD : bn < D := by rw [← hD]; exact hb.lt
  refine wpIn_rangeFunc ?_
  intro fn hfn
  obtain ⟨rec, hrec⟩ : ∃ rec : LoopState → Option Code → Loop, rec = fun st pe => { state := st, pending := pe, fn, tmps := a.tmps, params := #[p], assign, body, defers := D } := ⟨_, rfl⟩
  obtain ⟨W1, hW1⟩ : ∃ W1, (W0.alloc (.deferred (some []))).alloc (.loop (rec .ready none)) = W1 := ⟨_, rfl⟩
  have hsz1 : W1.heap.size = D + 2 := by rw [← hW1]; simp [hD]
  have hl1 : W1.heap[D + 1]? = some (.loop (rec .ready none)) := by
    rw [← hW1]
    have := World.alloc_heap_new (W0.alloc (.deferred (some []))) (.loop (rec .ready none))
    rwa [World.size_alloc, hD] at this
  have hd1 : W1.heap[D]? = some (.deferred (some [])) := by
    rw [← hW1]
    have h1 := World.alloc_heap_new W0 (.deferred (some []))
    rw [hD] at h1
    exact (Below.heap_alloc _ _ _ (by simp [hD])).trans h1
  have hk1 : Kept (fun _ => True) W0 W1 := by rw [← hW1]; exact ((Kept.refl _ W0).alloc _).alloc _
  refine ⟨D + 1, [{ target := .collected D, args := #[] }], W1, { target := .fn (.func 32) #[.pointer (some ⟨bn, 0, none⟩)], args := #[.func (.yield (D + 1)) #[] #[]] }, W1, 32,
    #[.func (.yield (D + 1)) #[] #[]] ++ #[.pointer (some ⟨bn, 0, none⟩)], W1, ?_, ?_, ?_, ?_, fun _ => by omega, ?_⟩
  · rw [← hW1, hrec, ← hD]
    exact run_enterLoop_outer _ _ _ _ _
  · simp only [resolve, hg]
    simp [go_sem]
  · intro f' _
    trivial
  · simp [invoke, go_sem]
  · refine (digits1_in Fence.wide (3 - 1) trivial rfl (by omega) (D + 1) bn N hN (fun pre W => I pre W ∧ W.heap[D + 1]? = some (.loop (rec .ready none)) ∧ W.heap[D]? = some (.deferred (some []))) ?_ ?_ W1 (hb.kept hk1 trivial) ⟨hI _ _ _ h0 (hk1.mono fun _ _ _ => trivial), hl1, hd1⟩).mono ?_
    · rintro pre W u ⟨h1, h2, h3⟩
      have hk : Kept (fun b => b ≠ bn) W (W.setCell ⟨bn, 0, none⟩ u) := (Kept.refl _ W).setCell (fun _ hn => hn rfl) u
      exact ⟨hI _ _ _ h1 (hk.mono fun _ _ h => h.1), hk.heap h2 (by omega), hk.heap h3 (by omega)⟩
    · rintro pre x post W hf ⟨h1, h2, h3⟩
      have hlt : D + 1 < W.heap.size := (Array.getElem?_eq_some_iff.1 h2).1
      have hy : (Instr.yield (D + 1) #[.int .u8 (x.toNat : Int)]).run Try.prog W = .ok (.round (D + 1) fn (a.tmps.setIfInBounds p (.int .u8 (x.toNat : Int))) assign body) W := by
        have := run_yield (P := Try.prog) (args := #[.int .u8 (x.toNat : Int)]) h2 (by rw [hrec]; rfl)
        rw [hrec] at this
        simpa using this
      refine ⟨fn, _, assign, body, hy, roundIn_of_wpIn hfn ?_⟩
      refine wpIn_mono (hround pre x post W hf h1 (by omega)) ?_
      rintro e a1 w1 hp
      cases e with
      | normal =>
        obtain ⟨rfl, hbody⟩ := hp
        have hk2 : Kept (fun b => b ≠ D + 1) w1 (w1.putObj (D + 1) (.loop { rec .ready none with state := .busy })) := kept_put _ (fun h => h rfl)
        refine ⟨_, run_beginRound h2 (by rw [hrec]), ?_⟩
        refine wpIn_mono (hbody _ (hI _ _ _ h1 (hk2.mono fun _ _ h => h.2.2)) (by simp)) ?_
        rintro e2 a2 w3 ⟨rfl, hi3, hk3⟩
        have hl2 : (w1.putObj (D + 1) (.loop { rec .ready none with state := .busy })).heap[D + 1]? = some (.loop { rec .ready none with state := .busy }) := World.putObj_heap_same hlt
        have hl3 := hk3.heap hl2 (.inr (.inr rfl))
        have hd3 := hk3.heap (hk2.heap h3 (by omega)) (.inr (.inl rfl))
        have hlt3 := (Array.getElem?_eq_some_iff.1 hl3).1
        have hr := run_endRound (P := Try.prog) none hl3
        refine ⟨_, _, hr, rfl, ⟨hI _ _ _ hi3 ((kept_put (K := fun b => b ≠ D + 1) _ (fun h => h rfl)).mono fun _ _ h => h.2.2), ?_, ?_⟩, ?_⟩
        · have := World.putObj_heap_same (o := .loop (rec .ready none)) hlt3
          rw [hrec] at this ⊢
          exact this
        · exact (World.putObj_heap_other (by omega)).trans hd3
        · have ka : Kept (fun b => b = bn) w1 (w1.putObj (D + 1) (.loop { rec .ready none with state := .busy })) := hk2.mono fun b _ h => by omega
          refine (ka.trans (hk3.mono fun b _ h => .inl h)).trans (kept_put _ (fun h => by omega))
      | exit id => exact hp.elim
      | goto t => exact hp.elim
      | ret => exact hp.elim
      | panic ch => exact hp.elim
      | outgrown => exact hp.elim
    · rintro e W2 ⟨⟨v, rfl⟩, hi, hl, hd⟩
      refine ⟨none, _, by have := run_endLoop (P := Try.prog) hl (by rw [hrec]; simp); rw [hrec] at this; exact this, ?_⟩
      exact hdone _ (hI _ _ _ hi ((kept_put (K := fun b => b ≠ D + 1) _ (fun h => h rfl)).mono fun _ _ h => h.2.2)) ((World.putObj_heap_other (by omega)).trans hd)

/-! ### A region that draws its order, within a round: the order's cases as outside of one -/
section
variable {n l : Nat} {P : Program} {md : Region.Mode} {ops : Array Oper} {Q : Exit → Act → World → Prop}
theorem op_round {o : Oper} {a : Act} {w : World} {K : Act → World → Prop} (hd : ∀ c, o.op ≠ .defer c) (h : o.wpIn Fence.wide n P a w K Q) : o.wpIn (Fence.wide.inRound l) n P a w K Q := by
  unfold Oper.wpIn at h ⊢
  rw [Oper.semAt_eq _ _ _ hd] at h ⊢
  exact h
theorem any_round (hd : ∀ (i : Nat) (o : Oper), ops[i]? = some o → ∀ c, o.op ≠ .defer c) : ∀ (fuel : Nat) (listed : Array Bool) (a : Act) (w : World),
    wpAnyIn Fence.wide n P md ops Q fuel listed a w → wpAnyIn (Fence.wide.inRound l) n P md ops Q fuel listed a w
  | 0, _, _, _, h => h
  | fuel + 1, listed, a, w, h => by
    refine ⟨h.1, fun i hi => ?_⟩
    have h1 := wpOpIn_mono (fun a w => any_round hd fuel (listed.setIfInBounds i true) a w) (h.2 i hi)
    unfold wpOpIn at h1 ⊢
    cases ho : ops[i]? with
    | none => simpa [ho] using h1
    | some o =>
      simp only [ho] at h1 ⊢
      split at h1
      · next hw =>
        rw [if_pos hw]
        exact op_round (hd i o ho) h1
      · next hw =>
        rw [if_neg hw]
        exact h1
theorem region_round {id : Nat} {a : Act} {w : World} (hm : P.follows .mixedOrders = true) (hd : ∀ (i : Nat) (o : Oper), ops[i]? = some o → ∀ c, o.op ≠ .defer c)
    (h : wpAnyIn Fence.wide n P .any ops Q ops.size (Array.replicate ops.size false) a w.drew) : (Code.region id ops true).wpIn (Fence.wide.inRound l) n P Q a w :=
  wpIn_region_any hm (any_round hd _ _ _ _ h)
/-- A look at what may come up. -/
theorem guard_ready {F : Fence} {fuel : Nat} {listed : Array Bool} {a : Act} {w : World} (rs : List Nat) (_ : Region.ready md ops listed = rs) (h : wpAnyIn F n P md ops Q fuel listed a w) : wpAnyIn F n P md ops Q fuel listed a w := h
/-- An append whose run is known, at the operation. -/
theorem stepIn_append_run {F : Fence} {w : World} {o : Oper} {a : Act} {K : Act → World → Prop} {E : Prop} (hgd : o.guard = none) (s x : Operand) (t : TypeId)
    (ho : o.op = .call { callee := .builtin .append, args := #[s, x], argTypes := #[t, t] }) {vs vx v' : Value} {w' : World} (hs : a.eval s = vs) (hx : a.eval x = vx)
    (hr : (Builtin.append_ #[t, t] o.type #[vs, vx]).run P w = .ok v' w') (h : K (a.put o.dst v') w') : if Region.wanted o (yielded ops a.tmps) = true then Oper.wpIn F n P o a w K Q else E := by
  have hw : Region.wanted o (yielded ops a.tmps) = true := by simp [Region.wanted, hgd]
  rw [if_pos hw]
  unfold Oper.wpIn
  refine ⟨by simp [Oper.about, ho, resolve, Target.leads, Sem.run_pure], ?_⟩
  rw [Oper.semAt_plain F _ _ (by rw [ho]; intro c hc'; cases hc')]
  simp [execOp, ho, resolve, invoke, builtin, hs, hx, hr, Result.andThen]
  exact h
end
end Ytglhkfiigbbpdaa
end Go.Proofs
