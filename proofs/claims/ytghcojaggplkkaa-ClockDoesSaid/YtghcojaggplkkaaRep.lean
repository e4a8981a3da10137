/-
  What a Clock is in memory.
-/
import Derived.Test.YtghcojaggplkkaaCell
import Derived.Test.YtghcojaggplkkaaMapK
import Derived.Test.YtghcojaggplkkaaRowK
set_option maxRecDepth 4000
namespace Go.Proofs.Ytghcojaggplkkaa
open Go.RowKit

abbrev Gho := Option (Nat × Tal)
def Gho.on (g : Gho) (f : Tal → Tal) : Gho := g.map fun p => (p.1, f p.2)
/-- The count of a clock's cell: nobody's, or block k. -/
def CntOk (w : World) (k : Nat) (g : Gho) : Prop := match g with | none => ∃ t, CntAt w k t | some p => k = p.1 ∧ CntAt w p.1 p.2

/-- A page of the ring. -/
structure Pg where
  n : Int
  b : Int
  m : Bool
/-- A clock's state. -/
structure Ck where
  budget : Int
  tot : Int
  ring : List Pg
  hand : Nat
  g : Gho
def total (r : List Pg) : Int := (r.map (·.b)).sum

/-- Where it lies: the struct, the cell and its count, the ring's slice, the map, the pages. -/
structure Lay where
  kb : Nat
  rb : Nat
  rk : Nat
  rv : Value
  mb : Nat
  pbs : List Nat
def Lay.foot (L : Lay) (b : Nat) : Prop := b = L.kb ∨ b = L.rb ∨ b = L.rk ∨ L.rv.ownBlock = some b ∨ b = L.mb ∨ b ∈ L.pbs

def entries (r : List Pg) (pbs : List Nat) : List (Int × Value) := List.zipWith (fun (p : Pg) (b : Nat) => (p.n, Value.pointer (some ⟨b, 0, none⟩))) r pbs

structure Good (S : Ck) : Prop where
  page : ∀ p ∈ S.ring, 1 ≤ p.n ∧ p.n ≤ 512 ∧ 1 ≤ p.b ∧ p.b ≤ 1099511627776
  ndn : (S.ring.map (·.n)).Nodup
  hand : S.hand < S.ring.length ∨ (S.ring = [] ∧ S.hand = 0)
  tot : S.tot = total S.ring

structure Rep (w : World) (base : Nat) (L : Lay) (S : Ck) : Prop where
  kblk : Blk w L.kb 55 #[.int .i64 S.budget, .pointer (some ⟨L.rb, 0, none⟩), L.rv, .map (some L.mb), .int .i64 S.hand]
  res : IntAt w L.rb L.rk S.tot
  ring : Row1 w base 3 L.rv (S.ring.map fun p => .int .i64 p.n)
  map : MapIs w L.mb (entries S.ring L.pbs)
  pages : ∀ (i : Nat) (p : Pg) (b : Nat), S.ring[i]? = some p → L.pbs[i]? = some b → Blk w b 59 #[.int .i64 p.b, .bool p.m]
  nd : L.pbs.Nodup
  lp : L.pbs.length = S.ring.length
  cnt : CntOk w L.rk S.g
  low : ∀ b, L.foot b → base ≤ b

/-- The place of a page in the ring. -/
def idx (r : List Pg) (n : Int) : Option Nat := r.findIdx? (fun p => n == p.n)

theorem entries_idx (n : Int) : ∀ (r : List Pg) (pbs : List Nat), pbs.length = r.length → (entries r pbs).findIdx? (fun p => n == p.1) = idx r n
  | [], [], _ => rfl
  | [], _ :: _, h => by simp at h
  | _ :: _, [], h => by simp at h
  | p :: r, b :: pbs, h => by
    have ih := entries_idx n r pbs (by simpa using h)
    simp only [entries, idx, List.zipWith_cons_cons, List.findIdx?_cons] at ih ⊢
    rw [ih]
theorem getAt_idx (l : List (Int × Value)) (n : Int) : getAt l n = (l.findIdx? (fun p => n == p.1)).bind fun j => (l[j]?).map (·.2) := by
  rw [← find_of_idx]
  cases l.findIdx? (fun p => n == p.1) with
  | none => rfl
  | some j =>
    simp
    cases l[j]? <;> rfl
theorem entries_get (r : List Pg) (pbs : List Nat) (i : Nat) (p : Pg) (b : Nat) (hp : r[i]? = some p) (hb : pbs[i]? = some b) : (entries r pbs)[i]? = some (p.n, .pointer (some ⟨b, 0, none⟩)) := by
  simp [entries, List.getElem?_zipWith, hp, hb]

section
variable {w : World} {base : Nat} {L : Lay} {S : Ck}
theorem Rep.miss (h : Rep w base L S) {n : Int} (hn : idx S.ring n = none) : getAt (entries S.ring L.pbs) n = none := by
  rw [getAt_idx, entries_idx n _ _ h.lp, hn]
  rfl
theorem Rep.hit (h : Rep w base L S) {n : Int} {i : Nat} (hn : idx S.ring n = some i) : ∃ p b, S.ring[i]? = some p ∧ p.n = n ∧ L.pbs[i]? = some b ∧ getAt (entries S.ring L.pbs) n = some (.pointer (some ⟨b, 0, none⟩)) ∧ Blk w b 59 #[.int .i64 p.b, .bool p.m] := by
  obtain ⟨hi, hpi, _⟩ := List.findIdx?_eq_some_iff_getElem.1 hn
  have hp : S.ring[i]? = some S.ring[i] := List.getElem?_eq_getElem hi
  have hb : L.pbs[i]? = some (L.pbs[i]'(by rw [h.lp]; exact hi)) := List.getElem?_eq_getElem _
  refine ⟨_, _, hp, (beq_iff_eq.1 hpi).symm, hb, ?_, h.pages i _ _ hp hb⟩
  rw [getAt_idx, entries_idx n _ _ h.lp, hn, Option.bind_some, entries_get _ _ i _ _ hp hb]
  rfl
theorem Rep.drew (h : Rep w base L S) : Rep w.drew base L S := ⟨h.kblk, h.res, h.ring, h.map, h.pages, h.nd, h.lp, by
  have := h.cnt
  revert this
  cases S.g <;> exact fun x => x, h.low⟩
theorem CntOk.kept {w' : World} {k : Nat} {g : Gho} {K : Nat → Prop} (h : CntOk w k g) (hk : Kept K w w') (hK : K k) : CntOk w' k g := by
  cases g with
  | none => obtain ⟨t, ht⟩ := h; exact ⟨t, Blk.kept ht hk hK⟩
  | some p => obtain ⟨rfl, h2⟩ := h; exact ⟨rfl, Blk.kept h2 hk hK⟩
theorem CntOk.get {k : Nat} {g : Gho} (h : CntOk w k g) : ∃ t, CntAt w k t ∧ (g = none ∨ g = some (k, t)) := by
  cases g with
  | none => obtain ⟨t, ht⟩ := h; exact ⟨t, ht, .inl rfl⟩
  | some p => obtain ⟨rfl, h2⟩ := h; exact ⟨p.2, h2, .inr rfl⟩
theorem CntOk.step {k : Nat} {g : Gho} {i : Nat} {t : Tal} {u : Value} (f : Tal → Tal) (ht : CntAt w k t) (hg : g = none ∨ g = some (k, t)) (hu : t.arr.setIfInBounds i u = (f t).arr) : CntOk (w.setCell ⟨k, i, none⟩ u) k (g.on f) := by
  have h2 : CntAt (w.setCell ⟨k, i, none⟩ u) k (f t) := by
    have := Blk.set_ ht i u
    rw [hu] at this
    exact this
  rcases hg with rfl | rfl
  · exact ⟨_, h2⟩
  · exact ⟨rfl, h2⟩
theorem Rep.kept {w' : World} (h : Rep w base L S) (hk : Kept L.foot w w') : Rep w' base L S where
  kblk := h.kblk.kept hk (.inl rfl)
  res := Blk.kept h.res hk (.inr (.inl rfl))
  ring := h.ring.kept hk fun g hg => .inr (.inr (.inr (.inl hg)))
  map := h.map.kept hk (.inr (.inr (.inr (.inr (.inl rfl)))))
  pages := fun i p b hp hb => (h.pages i p b hp hb).kept hk (.inr (.inr (.inr (.inr (.inr (List.mem_of_getElem? hb))))))
  nd := h.nd
  lp := h.lp
  cnt := h.cnt.kept hk (.inr (.inr (.inl rfl)))
  low := h.low
/-- All that a clock is made of is there. -/
theorem Rep.foot_lt (h : Rep w base L S) : ∀ b, L.foot b → b < w.heap.size := by
  rintro b (rfl | rfl | rfl | hb | rfl | hb)
  · exact h.kblk.lt
  · exact Blk.lt h.res
  · obtain ⟨t, ht, _⟩ := h.cnt.get
    exact Blk.lt ht
  · exact (h.ring.lt hb).1
  · exact h.map.lt
  · obtain ⟨i, hi⟩ := List.getElem?_of_mem hb
    have hil : i < S.ring.length := by rw [← h.lp]; exact (List.getElem?_eq_some_iff.1 hi).1
    exact Blk.lt (h.pages i _ b (List.getElem?_eq_getElem hil) hi)
/-- A step of a clock turns nothing that lies below it. -/
theorem Rep.past {w0 wi wj : World} (h : Rep wi base L S) (q : Kept (fun b => b < base) w0 wi) (hk : Kept (fun b => ¬ L.foot b) wi wj) : Kept (fun b => b < base) w0 wj :=
  q.trans' hk fun i _ hi hf => Nat.not_lt_of_le (h.low i hf) hi

/-- The cell that says how much there is: an access is counted. -/
theorem Rep.count (h : Rep w base L S) {i : Nat} {t : Tal} {u : Value} (f : Tal → Tal) (ht : CntAt w L.rk t) (hg : S.g = none ∨ S.g = some (L.rk, t)) (hu : t.arr.setIfInBounds i u = (f t).arr) : Rep (w.setCell ⟨L.rk, i, none⟩ u) base L { S with g := S.g.on f } where
  kblk := blk_far h.kblk ht (by decide) i u
  res := blk_far h.res ht (by decide) i u
  ring := h.ring.far ht (by decide) i u
  map := h.map.kept (K := fun c => c ≠ L.rk) ((Kept.refl _ w).setCell (fun _ hn => hn rfl) u) (h.map.ne_blk ht)
  pages := fun j p b hp hb => blk_far (h.pages j p b hp hb) ht (by decide) i u
  nd := h.nd
  lp := h.lp
  cnt := .step f ht hg hu
  low := h.low
end
end Go.Proofs.Ytghcojaggplkkaa
