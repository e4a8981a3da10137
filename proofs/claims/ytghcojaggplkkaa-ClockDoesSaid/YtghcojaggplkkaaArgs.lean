/-
  The arguments of a law: a slice of calls, each a kind, a page and a number of bytes; an array of marks, one of numbers.
-/
import Derived.Test.YtghcojaggplkkaaOps
set_option maxRecDepth 10000
namespace Go.Proofs
open Go.RowKit
namespace Ytghcojaggplkkaa
/-- The slice value v holds the calls l. -/
structure OpsIn (w : World) (A : Option Addr) (l : List (Int × Int × Int)) : Prop where
  len : l.length * 24 ≤ 140737488351232
  at_ : ∀ (i : Nat) (p : Int × Int × Int), l[i]? = some p → ∃ b off, A = some ⟨b, off, none⟩ ∧ b < w.heap.size ∧ w.cell? ⟨b, off + i * 3, none⟩ = some (.int .i64 p.1) ∧ w.cell? ⟨b, off + i * 3 + 1, none⟩ = some (.int .i64 p.2.1) ∧ w.cell? ⟨b, off + i * 3 + 2, none⟩ = some (.int .i64 p.2.2)
theorem OpsIn.get {w w' : World} {A : Option Addr} {l : List (Int × Int × Int)} (h : OpsIn w A l) (hk : Kept (fun b => b < w.heap.size) w w') {i : Nat} (hi : i < l.length) :
    ∃ b off p, l[i]? = some p ∧ A = some ⟨b, off, none⟩ ∧ w'.cell? ⟨b, off + i * 3, none⟩ = some (.int .i64 p.1) ∧ w'.cell? ⟨b, off + i * 3 + 1, none⟩ = some (.int .i64 p.2.1) ∧ w'.cell? ⟨b, off + i * 3 + 2, none⟩ = some (.int .i64 p.2.2) := by
  obtain ⟨b, off, hA, hb, h1, h2, h3⟩ := h.at_ i _ (List.getElem?_eq_getElem hi)
  exact ⟨b, off, _, List.getElem?_eq_getElem hi, hA, (hk.cell (p := ⟨b, off + i * 3, none⟩) hb hb).trans h1, (hk.cell (p := ⟨b, off + i * 3 + 1, none⟩) hb hb).trans h2, (hk.cell (p := ⟨b, off + i * 3 + 2, none⟩) hb hb).trans h3⟩

/-- 513 cells. -/
def row513 (f : Nat → Value) : Array Value := ((List.range 513).map f).toArray
theorem row513_get (f : Nat → Value) {i : Nat} (hi : i < 513) : (row513 f)[i]? = some (f i) := by
  simp [row513, hi]
theorem row513_set (f : Nat → Value) (v : Value) (i : Nat) : (row513 f).setIfInBounds i v = row513 (fun j => if j = i then v else f j) := by
  apply Array.ext_getElem? fun j => ?_
  rw [Array.getElem?_setIfInBounds]
  simp only [row513, List.getElem?_toArray, List.getElem?_map, Array.size, List.length_map, List.length_range]
  by_cases hj : j < 513
  · rw [List.getElem?_range hj]
    by_cases hij : i = j
    · subst hij
      simp [hj]
    · rw [if_neg hij]
      simp [Ne.symm hij]
  · rw [List.getElem?_eq_none (by simpa using hj)]
    by_cases hij : i = j
    · subst hij
      simp [hj]
    · simp [hij]
theorem Try.info28 : (Try.prog.info? 28).map (fun i => i.zero) = some (some (.agg (row513 fun _ => .bool false))) := by kernel_rfl
theorem Try.info37 : (Try.prog.info? 37).map (fun i => i.zero) = some (some (.agg (row513 fun _ => .int .i64 0))) := by kernel_rfl
theorem run_zero_agg {P : Program} {t : TypeId} {cs : Array Value} (h : (P.info? t).map (fun i => i.zero) = some (some (.agg cs))) (w : World) : (zeroValue t).run P w = .ok (.agg cs) w := by
  cases hi : P.info? t with
  | none => rw [hi] at h; cases h
  | some i =>
    rw [hi] at h
    simp only [Option.map_some, Option.some.injEq] at h
    have e := run_typeInfo (P := P) w hi
    simp [zeroValue, e, h, Result.andThen]
def bools (f : Nat → Bool) : Array Value := row513 fun i => .bool (f i)
def nums (f : Nat → Int) : Array Value := row513 fun i => .int .i64 (f i)
theorem run_zero28 (w : World) : (zeroValue 28).run Try.prog w = .ok (.agg (bools fun _ => false)) w := run_zero_agg Try.info28 w
theorem run_zero37 (w : World) : (zeroValue 37).run Try.prog w = .ok (.agg (nums fun _ => 0)) w := run_zero_agg Try.info37 w
theorem bools_get (f : Nat → Bool) {i : Nat} (hi : i < 513) : (bools f)[i]? = some (.bool (f i)) := row513_get _ hi
theorem nums_get (f : Nat → Int) {i : Nat} (hi : i < 513) : (nums f)[i]? = some (.int .i64 (f i)) := row513_get _ hi
theorem bools_set (f : Nat → Bool) (b : Bool) (i : Nat) : (bools f).setIfInBounds i (.bool b) = bools (fun j => if j = i then b else f j) := by
  unfold bools
  rw [row513_set]
  congr 1
  funext j
  simp only
  split <;> rfl
theorem nums_set (f : Nat → Int) (b : Int) (i : Nat) : (nums f).setIfInBounds i (.int .i64 b) = nums (fun j => if j = i then b else f j) := by
  unfold nums
  rw [row513_set]
  congr 1
  funext j
  simp only
  split <;> rfl
/-- A block of another kind is none of a clock's. -/
theorem Rep.alien {w : World} {base : Nat} {L : Lay} {S : Ck} (h : Rep w base L S) {b : Nat} {t : TypeId} {cs : Array Value} (hb : Blk w b t cs) (ht : t ≠ 55 ∧ t ≠ 72 ∧ t ≠ 67 ∧ t ≠ 3 ∧ t ≠ 59) : ¬ L.foot b := by
  rintro (rfl | rfl | rfl | hr | rfl | hm)
  · exact Blk.ne_ hb h.kblk ht.1 rfl
  · exact Blk.ne_ hb h.res ht.2.1 rfl
  · obtain ⟨t', ht', _⟩ := h.cnt.get
    exact Blk.ne_ hb ht' ht.2.2.1 rfl
  · exact h.ring.ne_ hb (Ne.symm ht.2.2.2.1) hr
  · exact h.map.ne_blk hb rfl
  · obtain ⟨i, hi⟩ := List.getElem?_of_mem hm
    have hil : i < S.ring.length := by rw [← h.lp]; exact (List.getElem?_eq_some_iff.1 hi).1
    exact Blk.ne_ hb (h.pages i _ b (List.getElem?_eq_getElem hil) hi) ht.2.2.2.2 rfl
section
variable {w : World} {base : Nat} {L : Lay} {S : Ck} {kb : Nat}
theorem AddE (h : Rep w base L S) (he : L.kb = kb) (G : Good S) (n b : Int) (hbase : base ≤ w.heap.size) :
    Calls Try.prog 8 #[.pointer (some ⟨kb, 0, none⟩), .int .i64 n, .int .i64 b] w fun e w' => e = .returned (.int .i64 (S.add n b).1) ∧ Grown w w' base L (S.add n b).2 := by
  subst he
  exact Add h G n b hbase
theorem TouchE (h : Rep w base L S) (he : L.kb = kb) (n : Int) :
    Calls Try.prog 9 #[.pointer (some ⟨kb, 0, none⟩), .int .i64 n] w fun e w' => e = .returned (.tuple #[]) ∧ Rep w' base L (S.touch n) ∧ Kept (fun b => ¬ L.foot b) w w' := by
  subst he
  exact Touch h n
theorem VictimE (h : Rep w base L S) (he : L.kb = kb) (G : Good S) (hb : 0 ≤ S.budget) :
    Calls Try.prog 10 #[.pointer (some ⟨kb, 0, none⟩)] w fun e w' => e = .returned (.tuple #[.int .i64 S.victim.1.1, .bool S.victim.1.2]) ∧ Rep w' base L S.victim.2 ∧ Kept (fun b => ¬ L.foot b) w w' := by
  subst he
  exact Victim h G hb
theorem ResidentE (h : Rep w base L S) (he : L.kb = kb) :
    Calls Try.prog 11 #[.pointer (some ⟨kb, 0, none⟩)] w fun e w' => e = .returned (.int .i64 S.tot) ∧ Rep w' base L S.load ∧ Kept (fun b => ¬ L.foot b) w w' := by
  subst he
  exact Resident h
end
end Ytghcojaggplkkaa
end Go.Proofs
