/-
  A map with integer keys, known as the list of its entries: look-up, store, delete.
-/
import Derived.Test.YtghcojaggplkkaaKit
import Derived.Carry
import Derived.MapKept
namespace Go.Proofs.Ytghcojaggplkkaa
open Go.RowKit

/-- The map in block b has just these entries, in this order. -/
def MapIs (w : World) (b : Nat) (l : List (Int × Value)) : Prop :=
  ∃ es clock, w.heap[b]? = some (.map es clock) ∧ es.toList.map (fun e => (e.key, e.val)) = l.map (fun p => (Value.int .i64 p.1, p.2))

def getAt (l : List (Int × Value)) (k : Int) : Option Value := (l.find? (fun p => k == p.1)).map (·.2)

theorem findNow_int (q : IntKind) (k : Int) : ∀ (es : List MapEntry) (l : List (Int × Value)) (i : Nat), es.map (fun e => (e.key, e.val)) = l.map (fun p => (Value.int .i64 p.1, p.2)) →
    Instr.findNow (.int q) (.int .i64 k) es i = some ((l.findIdx? (fun p => k == p.1)).bind fun j => (l[j]?).map fun p => (i + j, p.2))
  | [], [], i, _ => rfl
  | [], _ :: _, _, h => by simp at h
  | _ :: _, [], _, h => by simp at h
  | e :: es, p :: l, i, h => by
    simp only [List.map_cons, List.cons.injEq, Prod.mk.injEq] at h
    obtain ⟨⟨hk, hv⟩, ht⟩ := h
    simp only [Instr.findNow, hk, Instr.sameNow, if_true]
    by_cases hc : k == p.1
    · simp only [hc, List.findIdx?_cons, if_true]
      simp [hv]
    · simp only [hc, List.findIdx?_cons]
      rw [findNow_int q k es l (i + 1) ht]
      simp only [Bool.false_eq_true, if_false]
      cases l.findIdx? (fun p => k == p.1) with
      | none => rfl
      | some j =>
        simp
        cases l[j]? with
        | none => rfl
        | some x => simp; omega

section
variable {P : Program} {w : World}
theorem findKey_int {kt : TypeId} {q : IntKind} (hk : P.underlying kt = some (.int q)) {es : List MapEntry} {l : List (Int × Value)} (h : es.map (fun e => (e.key, e.val)) = l.map (fun p => (Value.int .i64 p.1, p.2))) (k : Int) :
    (Instr.findKey kt (.int .i64 k) es).run P w = .ok ((l.findIdx? (fun p => k == p.1)).bind fun j => (l[j]?).map fun p => (j, p.2)) w := by
  unfold Instr.findKey
  have := findNow_int q k es l 0 h
  simp only [Nat.zero_add] at this
  simp [run_underlying hk, this]

theorem checkKey_int {kt : TypeId} {q : IntKind} (hk : P.underlying kt = some (.int q)) (e : Bool) (k : Int) : (Instr.checkKey e 10000 kt (.int .i64 k)).run P w = .ok () w := by
  unfold Instr.checkKey
  simp [run_underlying hk]

theorem find_of_idx (l : List (Int × Value)) (k : Int) : ((l.findIdx? (fun p => k == p.1)).bind fun j => (l[j]?).map fun p => (j, p.2)).map (·.2) = getAt l k := by
  unfold getAt
  induction l with
  | nil => rfl
  | cons p l ih =>
    by_cases hc : k == p.1
    · simp [List.findIdx?_cons, List.find?_cons, hc]
    · simp only [List.findIdx?_cons, List.find?_cons, hc]
      rw [← ih]
      cases l.findIdx? (fun p => k == p.1) with
      | none => rfl
      | some j =>
        simp
        cases l[j]? <;> rfl

/-- 'v, ok := m[k]', the key there. -/
theorem lookup_hit {t kt e : TypeId} {q : IntKind} (ht : P.underlying t = some (.map kt e)) (hk : P.underlying kt = some (.int q)) {b : Nat} {l : List (Int × Value)} (h : MapIs w b l) {k : Int} {v : Value} (hv : getAt l k = some v) (ok : Bool) :
    (Instr.lookup t (.map (some b)) (.int .i64 k) ok).run P w = .ok (if ok then .tuple #[v, .bool true] else v) w := by
  obtain ⟨es, clock, hb, hl⟩ := h
  rw [← find_of_idx] at hv
  have hf := findKey_int (P := P) (w := w) hk hl k
  cases hx : ((l.findIdx? (fun p => k == p.1)).bind fun j => (l[j]?).map fun p => (j, p.2)) with
  | none => rw [hx] at hv; simp at hv
  | some r =>
    rw [hx] at hv hf
    have hr : r.2 = v := by simpa using hv
    obtain ⟨j, v'⟩ := r
    simp only at hr
    subst hr
    simp [Instr.lookup, run_underlying ht, MapKept.run_getObj_map hb, checkKey_int hk, hf, Result.andThen]

/-- 'v, ok := m[k]', the key not there. -/
theorem lookup_miss {t kt e : TypeId} {q : IntKind} (ht : P.underlying t = some (.map kt e)) (hk : P.underlying kt = some (.int q)) {z : Value} (hz : (zeroValue e).run P w = .ok z w) {b : Nat} {l : List (Int × Value)} (h : MapIs w b l) {k : Int} (hv : getAt l k = none) (ok : Bool) :
    (Instr.lookup t (.map (some b)) (.int .i64 k) ok).run P w = .ok (if ok then .tuple #[z, .bool false] else z) w := by
  obtain ⟨es, clock, hb, hl⟩ := h
  rw [← find_of_idx] at hv
  have hf := findKey_int (P := P) (w := w) hk hl k
  cases hx : ((l.findIdx? (fun p => k == p.1)).bind fun j => (l[j]?).map fun p => (j, p.2)) with
  | some r => rw [hx] at hv; simp at hv
  | none =>
    rw [hx] at hf
    simp [Instr.lookup, run_underlying ht, MapKept.run_getObj_map hb, checkKey_int hk, hf, hz, Result.andThen]

theorem idx_none {l : List (Int × Value)} {k : Int} (hv : getAt l k = none) : l.findIdx? (fun p => k == p.1) = none := by
  unfold getAt at hv
  rw [List.findIdx?_eq_none_iff]
  intro x hx
  rw [Option.map_eq_none_iff, List.find?_eq_none] at hv
  simpa using hv x hx

/-- 'm[k] = v', the key not there. -/
theorem store_new {t kt e : TypeId} {q : IntKind} (ht : P.underlying t = some (.map kt e)) (hk : P.underlying kt = some (.int q)) {b : Nat} {l : List (Int × Value)} (h : MapIs w b l) {k : Int} (v : Value) (hv : getAt l k = none) :
    ∃ w', (Instr.mapUpdate t (.map (some b)) (.int .i64 k) v).run P w = .ok () w' ∧ MapIs w' b (l ++ [(k, v)]) ∧ Kept (fun c => c ≠ b) w w' := by
  obtain ⟨es, clock, hb, hl⟩ := h
  have hf := findKey_int (P := P) (w := w) hk hl k
  rw [idx_none hv] at hf
  have hlt := (Array.getElem?_eq_some_iff.1 hb).1
  refine ⟨{ w with heap := w.heap.setIfInBounds b (.map (es.push { key := .int .i64 k, val := v, born := clock }) (clock + 1)) }, ?_, ⟨es.push { key := .int .i64 k, val := v, born := clock }, clock + 1, by simp [hlt], by simp [hl]⟩, ⟨rfl, rfl, rfl, by simp, fun i _ hi => ?_⟩⟩
  · simp [Instr.mapUpdate, run_underlying ht, MapKept.run_getObj_map hb, checkKey_int hk, hf, MapKept.run_setObj_map _ hb, Result.andThen]
  · simp [Array.getElem?_setIfInBounds_ne (Ne.symm hi)]

theorem map_eraseIdx' {α β : Type} (f : α → β) : ∀ (l : List α) (j : Nat), (l.eraseIdx j).map f = (l.map f).eraseIdx j
  | [], _ => by simp
  | _ :: _, 0 => by simp
  | _ :: l, j + 1 => by simp [map_eraseIdx' f l j]

/-- 'delete(m, k)', the key at place j. -/
theorem delete_at {t kt e ty : TypeId} {q : IntKind} (ht : P.underlying t = some (.map kt e)) (hk : P.underlying kt = some (.int q)) {b : Nat} {l : List (Int × Value)} (h : MapIs w b l) {k : Int} {j : Nat} (hj : l.findIdx? (fun p => k == p.1) = some j) :
    ∃ w', (Builtin.delete_ #[t, kt] ty #[.map (some b), .int .i64 k]).run P w = .ok (.tuple #[]) w' ∧ MapIs w' b (l.eraseIdx j) ∧ Kept (fun c => c ≠ b) w w' := by
  obtain ⟨es, clock, hb, hl⟩ := h
  have hf := findKey_int (P := P) (w := w) hk hl k
  rw [hj] at hf
  have hjl : j < l.length := by
    obtain ⟨h1, _⟩ := List.findIdx?_eq_some_iff_getElem.1 hj
    exact h1
  have hje : j < es.size := by
    have := congrArg List.length hl
    simp at this
    omega
  have hlt := (Array.getElem?_eq_some_iff.1 hb).1
  rw [Option.bind_some, List.getElem?_eq_getElem hjl] at hf
  simp only [Option.map_some] at hf
  refine ⟨{ w with heap := w.heap.setIfInBounds b (.map (es.eraseIdxIfInBounds j) clock) }, ?_, ⟨es.eraseIdxIfInBounds j, clock, by simp [hlt], ?_⟩, ⟨rfl, rfl, rfl, by simp, fun i _ hi => ?_⟩⟩
  · simp [Builtin.delete_, run_underlying ht, MapKept.run_getObj_map hb, checkKey_int hk, hf, MapKept.run_setObj_map _ hb, Result.andThen]
  · have hsub : (es.eraseIdxIfInBounds j).toList = es.toList.eraseIdx j := by
      unfold Array.eraseIdxIfInBounds
      rw [dif_pos hje]
      simp
    rw [hsub, map_eraseIdx', hl, map_eraseIdx']
  · simp [Array.getElem?_setIfInBounds_ne (Ne.symm hi)]
theorem MapIs.kept {w' : World} {b : Nat} {l : List (Int × Value)} {K : Nat → Prop} (h : MapIs w b l) (hk : Kept K w w') (hb : K b) : MapIs w' b l := by
  obtain ⟨es, clock, h1, h2⟩ := h
  exact ⟨es, clock, (hk.block b (Array.getElem?_eq_some_iff.1 h1).1 hb).trans h1, h2⟩
theorem MapIs.lt {b : Nat} {l : List (Int × Value)} (h : MapIs w b l) : b < w.heap.size := by
  obtain ⟨es, clock, h1, h2⟩ := h
  exact (Array.getElem?_eq_some_iff.1 h1).1
theorem MapIs.ne_blk {b g : Nat} {l : List (Int × Value)} {t : TypeId} {cs : Array Value} (h : MapIs w b l) (hg : Blk w g t cs) : b ≠ g := by
  rintro rfl
  obtain ⟨es, clock, h1, h2⟩ := h
  unfold Blk at hg
  rw [hg] at h1
  cases h1
theorem MapIs.drew {b : Nat} {l : List (Int × Value)} (h : MapIs w b l) : MapIs w.drew b l := h
end
end Go.Proofs.Ytghcojaggplkkaa
