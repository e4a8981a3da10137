/-
  Items, kids and pages: as data, and in memory.
-/
import Derived.Test.YtfoolgojcmkdbaaProg
import Derived.Test.YtfoolgojcmkdbaaRowK
import Derived.Deep.DrawnRows
import Derived.StillTailTactics
import Derived.WalkLawsBesides
import Derived.Shelf.Abstract
set_option maxHeartbeats 400000
namespace Go.Proofs
open Go.RowKit
namespace Ytfoolgojcmkdbaa
structure Item where
  key : ByteArray
  val : ByteArray
  no : Int
  gone : Bool
structure Kid where
  key : ByteArray
  page : Int
structure Page where
  level : Int
  low : ByteArray
  high : ByteArray
  last : Bool
  side : Int
  items : List Item
  kids : List Kid
instance : Inhabited Item := ⟨⟨⟨#[]⟩, ⟨#[]⟩, 0, false⟩⟩
instance : Inhabited Kid := ⟨⟨⟨#[]⟩, 0⟩⟩
def ics (x : Item) : List Value := [.string x.key, .string x.val, .int .i64 x.no, .bool x.gone]
def kcs (x : Kid) : List Value := [.string x.key, .int .i64 x.page]
/-- The order of keys. -/
def lt (a b : ByteArray) : Bool := Op.bytesLess a.toList b.toList
def isKey (s : ByteArray) : Bool := decide (1 ≤ (s.size : Int)) && decide ((s.size : Int) ≤ 16)
def isPage (n : Int) : Bool := decide (1 ≤ n) && decide (n ≤ 512)
def covers (p : Page) (k : ByteArray) : Bool := !(lt k p.low) && (p.last || lt k p.high)
def nonEmpty (s : ByteArray) : Bool := !s.toList.isEmpty
/-- An item that may not be. -/
def badItem (x : Item) : Bool := !(isKey x.key) || (decide ((48 : Int) < (x.val.size : Int)) || (decide (x.no < 1) || (decide (1099511627776 < x.no) || (x.gone && nonEmpty x.val))))
def badKid (x : Kid) : Bool := !(isPage x.page) || decide ((16 : Int) < (x.key.size : Int))
/-- The keys rise. -/
def Sorted (l : List ByteArray) : Prop := l.Pairwise fun a b => lt a b = true
instance (l : List ByteArray) : Decidable (Sorted l) := by unfold Sorted; infer_instance
/-- The keys rise, and are all of the page's. -/
def rising (p : Page) (l : List ByteArray) : Bool := decide (Sorted l) && l.all (covers p)
def leaf (p : Page) : Bool := decide (p.kids.length = 0) && (decide (p.items.length ≤ 120) && (!(p.items.any badItem) && rising p (p.items.map (·.key))))
def inner (p : Page) : Bool := decide (p.items.length = 0) && (decide (1 ≤ p.kids.length) && (decide (p.kids.length ≤ 120) && ((p.kids.headD default).key.toList == p.low.toList && (!(p.kids.any badKid) && rising p (p.kids.map (·.key))))))
def bounds (p : Page) : Bool := decide ((p.low.size : Int) ≤ 16) && (decide (0 ≤ p.level) && (decide (p.level ≤ 7) &&
  (if p.last then !(nonEmpty p.high) && decide (p.side = 0) else isKey p.high && (lt p.low p.high && isPage p.side))))
/-- The page may be. -/
def check (p : Page) : Bool := bounds p && (if p.level = 0 then leaf p else inner p)

/-- The slice value v reads as the list l, each element of k cells. -/
def RdK {α : Type} (k : Nat) (enc : α → List Value) (w : World) (v : Value) (l : List α) : Prop :=
  ∃ A c, v = .slice A l.length c ∧ l.length ≤ c ∧ ∀ i x, l[i]? = some x → ∃ b off, A = some ⟨b, off, none⟩ ∧ b < w.heap.size ∧ ∀ j u, (enc x)[j]? = some u → w.cell? ⟨b, off + i * k + j, none⟩ = some u
abbrev ItR := RdK 4 ics
abbrev KdR := RdK 2 kcs
section
variable {α : Type} {k : Nat} {enc : α → List Value} {w w' : World} {v : Value} {l : List α}
theorem RdK.kept {K : Nat → Prop} (h : RdK k enc w v l) (hk : Kept K w w') (ho : l ≠ [] → ∀ g, v.ownBlock = some g → K g) : RdK k enc w' v l := by
  obtain ⟨A, c, rfl, hlc, hA⟩ := h
  refine ⟨A, c, rfl, hlc, fun i x hx => ?_⟩
  obtain ⟨b, off, ha, hb, h1⟩ := hA i x hx
  have hne : l ≠ [] := fun e => by rw [e] at hx; simp at hx
  exact ⟨b, off, ha, Nat.lt_of_lt_of_le hb hk.size, fun j u hu => (hk.cell (p := ⟨b, off + i * k + j, none⟩) hb (ho hne b (by rw [ha]; rfl))).trans (h1 j u hu)⟩
theorem RdK.all (h : RdK k enc w v l) (hk : Kept (fun _ => True) w w') : RdK k enc w' v l := h.kept hk fun _ _ _ => trivial
theorem RdK.nil (w : World) : RdK k enc w (.slice none 0 0) [] := ⟨none, 0, rfl, Nat.le_refl _, fun i x hx => by simp at hx⟩
theorem RdK.form (h : RdK k enc w v l) : ∃ A c, v = .slice A l.length c := by
  obtain ⟨A, c, rfl, _⟩ := h
  exact ⟨A, c, rfl⟩
theorem RdK.some_ (h : RdK k enc w v l) (hne : l ≠ []) : ∃ b off c, v = .slice (some ⟨b, off, none⟩) l.length c ∧ l.length ≤ c ∧ b < w.heap.size ∧ ∀ i x, l[i]? = some x → ∀ j u, (enc x)[j]? = some u → w.cell? ⟨b, off + i * k + j, none⟩ = some u := by
  obtain ⟨A, c, rfl, hlc, hA⟩ := h
  obtain ⟨x, l', rfl⟩ : ∃ x l', l = x :: l' := by
    cases l with
    | nil => exact absurd rfl hne
    | cons x l' => exact ⟨x, l', rfl⟩
  obtain ⟨b, off, rfl, hb, _⟩ := hA 0 x rfl
  refine ⟨b, off, c, rfl, hlc, hb, fun i y hy => ?_⟩
  obtain ⟨b2, off2, he, _, h1⟩ := hA i y hy
  injection he with he
  injection he with he1 he2
  subst he1 he2
  exact h1
end
section
variable {w : World} {A : Option Addr} {n c : Nat}
theorem ItR.len {l : List Item} (h : ItR w (.slice A n c) l) : n = l.length := by
  obtain ⟨_, _, he, _⟩ := h
  injection he
theorem KdR.len {l : List Kid} (h : KdR w (.slice A n c) l) : n = l.length := by
  obtain ⟨_, _, he, _⟩ := h
  injection he
theorem ItR.at_ {l : List Item} (h : ItR w (.slice A n c) l) {i : Nat} {x : Item} (hi : l[i]? = some x) : ∃ b off, A = some ⟨b, off, none⟩ ∧ b < w.heap.size ∧ n ≤ c ∧ w.cell? ⟨b, off + i * 4, none⟩ = some (.string x.key) ∧
    w.cell? ⟨b, off + i * 4 + 1, none⟩ = some (.string x.val) ∧ w.cell? ⟨b, off + i * 4 + 2, none⟩ = some (.int .i64 x.no) ∧ w.cell? ⟨b, off + i * 4 + 3, none⟩ = some (.bool x.gone) := by
  obtain ⟨A', c', he, hc, hA⟩ := h
  injection he with h1 h2 h3
  subst h1 h2 h3
  obtain ⟨b, off, ha, hb, h1⟩ := hA i x hi
  exact ⟨b, off, ha, hb, hc, h1 0 _ rfl, h1 1 _ rfl, h1 2 _ rfl, h1 3 _ rfl⟩
theorem KdR.at_ {l : List Kid} (h : KdR w (.slice A n c) l) {i : Nat} {x : Kid} (hi : l[i]? = some x) : ∃ b off, A = some ⟨b, off, none⟩ ∧ b < w.heap.size ∧ n ≤ c ∧ w.cell? ⟨b, off + i * 2, none⟩ = some (.string x.key) ∧
    w.cell? ⟨b, off + i * 2 + 1, none⟩ = some (.int .i64 x.page) := by
  obtain ⟨A', c', he, hc, hA⟩ := h
  injection he with h1 h2 h3
  subst h1 h2 h3
  obtain ⟨b, off, ha, hb, h1⟩ := hA i x hi
  exact ⟨b, off, ha, hb, hc, h1 0 _ rfl, h1 1 _ rfl⟩
end
/-- A page as a value: iv and kv are its lists' slices. -/
def pv (p : Page) (iv kv : Value) : Value := .agg #[.int .i64 p.level, .string p.low, .string p.high, .bool p.last, .int .i64 p.side, iv, kv]
end Ytfoolgojcmkdbaa
end Go.Proofs
