/-
  PageNewest: what the loop keeps; pages whose rows are one's own or the caller's.
-/
import Derived.Test.YtfoolgojcmkdbaaPutAny
import Derived.Test.YtfoolgojcmkdbaaSplit
set_option maxHeartbeats 400000
namespace Go.Proofs
open Go.RowKit
namespace Ytfoolgojcmkdbaa
/-- The numbers are all unlike. -/
def Apart (xs : List Item) (k : Nat) : Prop := ∀ (a b : Nat) (x y : Item), a < b → b < k → xs[a]? = some x → xs[b]? = some y → x.no ≠ y.no
theorem Apart.pair {xs : List Item} (h : Apart xs xs.length) : xs.Pairwise fun a b => a.no ≠ b.no :=
  List.pairwise_iff_getElem.2 fun i j hi hj hij => h i j _ _ hij hj (List.getElem?_eq_getElem hi) (List.getElem?_eq_getElem hj)
/-- The page with a list put to it. -/
def pgOf (p : Page) (xs : List Item) : Page := { p with items := putAll p p.items xs }
theorem pgOf_nil (p : Page) : pgOf p [] = p := rfl
structure Inv (p : Page) (xs : List Item) (i : Nat) (fl : Bool) (X Y : Page) : Prop where
  chX : check X = true
  chY : check Y = true
  meet : fl = false → X = pgOf p (xs.take i) ∧ Y = pgOf p (xs.reverse.take i)
theorem takes_of (p : Page) (l : List Item) (x : Item) : takes { p with items := l } x = takes p x := rfl
theorem inv_side {p q X' : Page} {xs : List Item} {x : Item} {er : Int} (h : PutIs (pgOf p xs) x q er) (hX : X' = if er = 0 then q else pgOf p xs) (hlt : X'.items.length < 120) : X' = pgOf p (xs ++ [x]) := by
  unfold pgOf
  rw [putAll_snoc]
  rcases h with ⟨h0, ht, hq, _⟩ | ⟨h0, hn⟩
  · rw [if_pos h0] at hX
    have ht' : takes p x = true := ht
    rw [if_pos ht', hX, hq]
    rfl
  · rw [if_neg h0] at hX
    have ht' : ¬ takes p x = true := fun ht => by
      have := hn ht
      rw [← hX] at this
      omega
    rw [if_neg ht', hX]
    rfl
theorem inv_check {X q X' : Page} {x : Item} {er : Int} (hc : check X = true) (h : PutIs X x q er) (hX : X' = if er = 0 then q else X) : check X' = true := by
  rcases h with ⟨h0, _, _, hq⟩ | ⟨h0, _⟩
  · rw [if_pos h0] at hX
    rw [hX]
    exact hq
  · rw [if_neg h0] at hX
    rw [hX]
    exact hc
theorem Inv.step {p X Y q r X' Y' : Page} {xs : List Item} {i : Nat} {x y : Item} {e f : Int} (h : Inv p xs i false X Y) (hx : xs[i]? = some x) (hy : xs.reverse[i]? = some y) (hq : PutIs X x q e) (hr : PutIs Y y r f)
    (hX : X' = if e = 0 then q else X) (hY : Y' = if f = 0 then r else Y) {fl : Bool} (hfl : fl = false → X'.items.length < 120 ∧ Y'.items.length < 120) : Inv p xs (i + 1) fl X' Y' := by
  refine ⟨inv_check h.chX hq hX, inv_check h.chY hr hY, fun hf => ?_⟩
  obtain ⟨h1, h2⟩ := h.meet rfl
  obtain ⟨l1, l2⟩ := hfl hf
  subst h1 h2
  rw [List.take_add_one, List.take_add_one, hx, hy]
  exact ⟨inv_side hq hX l1, inv_side hr hY l2⟩
theorem Inv.done {p X Y : Page} {xs : List Item} (h : Inv p xs xs.length false X Y) (ha : Apart xs xs.length) : decide (X = Y) = true := by
  obtain ⟨h1, h2⟩ := h.meet rfl
  rw [List.take_length] at h1
  rw [← List.length_reverse, List.take_length] at h2
  rw [decide_eq_true_eq, h1, h2]
  unfold pgOf
  rw [putAll_reverse p xs p.items ha.pair]
section
variable {α : Type} {k : Nat} {enc : α → List Value} {w wr wr' : World} {e : TypeId} {v : Value} {l : List α}
/-- A row that is one's own, or the caller's. -/
def OwnR {α : Type} (k : Nat) (enc : α → List Value) (w wr : World) (e : TypeId) (v : Value) (l : List α) : Prop := RowN k enc wr 0 e v l ∨ RdK k enc w v l
theorem OwnR.go (h : Hid (OwnR k enc w wr e v l)) (hk : Kept (fun _ => True) wr wr') : Hid (OwnR k enc w wr' e v l) := Lib.hid (h.out.elim (fun h => .inl (h.all hk)) .inr)
theorem OwnR.far {x : Nat} {t : TypeId} {cs : Array Value} (h : Hid (OwnR k enc w wr e v l)) (hk : Kept (fun b => b ≠ x) wr wr') (hb : Hid (Blk wr x t cs)) (hne : e ≠ t) : Hid (OwnR k enc w wr' e v l) :=
  Lib.hid (h.out.elim (fun h => .inl (RowH.far (Lib.hid h) hk hb hne).out) .inr)
theorem own_lt {A : Option Addr} {n c : Nat} (h : RdK k enc w (.slice A n c) l) (hne : l ≠ []) (g : Nat) (hg : (Value.slice A n c).ownBlock = some g) : g < w.heap.size := by
  obtain ⟨b, off, c', hv, _, hb, _⟩ := h.some_ hne
  rw [hv] at hg
  have : b = g := by simpa [Value.ownBlock] using hg
  omega
theorem OwnR.rd {A : Option Addr} {n c : Nat} (E : Enc k enc) (h : Hid (OwnR k enc w wr e (.slice A n c) l)) (hk : Hid (Kept (fun b => b < w.heap.size) w wr)) : RdK k enc wr (.slice A n c) l :=
  h.out.elim (fun h => h.rd E) fun h => h.kept hk.out fun hne g hg => own_lt h hne g hg
theorem KeptL.go {n : Nat} (h : Hid (Kept (fun b => b < n) w wr)) (hk : Kept (fun _ => True) wr wr') : Hid (Kept (fun b => b < n) w wr') := Lib.hid (h.out.trans' hk fun _ _ _ => trivial)
theorem KeptL.far {n x : Nat} (h : Hid (Kept (fun b => b < n) w wr)) (hk : Kept (fun b => b ≠ x) wr wr') (hx : n ≤ x) : Hid (Kept (fun b => b < n) w wr') := Lib.hid (h.out.trans' hk fun i _ hi => by
  have : i < n := hi
  omega)
theorem KeptL.all (h : Hid (Kept (fun b => b < w.heap.size) w wr)) : Kept (fun _ => True) w wr := h.out.mono fun _ hi _ => hi
end
/-- Put, the cells written out. -/
theorem put9 (X : Page) (x : Item) {iA kA : Option Addr} {ic kc : Nat} (W : World) (hi : ItR W (.slice iA X.items.length ic) X.items) (hk : KdR W (.slice kA X.kids.length kc) X.kids) (hck : check X = true) :
    Calls Try.prog 9 #[.agg #[.int .i64 X.level, .string X.low, .string X.high, .bool X.last, .int .i64 X.side, .slice iA X.items.length ic, .slice kA X.kids.length kc], .agg #[.string x.key, .string x.val, .int .i64 x.no, .bool x.gone]] W fun e w' => ∃ q er A c A' c', e = .returned (.tuple #[.agg #[.int .i64 q.level, .string q.low, .string q.high, .bool q.last, .int .i64 q.side, .slice A q.items.length c, .slice A' q.kids.length c'], .int .i64 er]) ∧
      Hid (PutIs X x q er) ∧ Hid (ItO w' 0 (.slice A q.items.length c) q.items) ∧ Hid (KdO w' 0 (.slice A' q.kids.length c') q.kids) ∧ Kept (fun _ => True) W w' := put_any X x W hi hk hck
theorem same10 (a b : Page) {iA kA jA mA : Option Addr} {ic kc jc mc : Nat} (w : World) (hai : ItR w (.slice iA a.items.length ic) a.items) (hak : KdR w (.slice kA a.kids.length kc) a.kids)
    (hbi : ItR w (.slice jA b.items.length jc) b.items) (hbk : KdR w (.slice mA b.kids.length mc) b.kids) (hc : check a = true) (hab : decide (a = b) = true) :
    Calls Try.prog 10 #[.agg #[.int .i64 a.level, .string a.low, .string a.high, .bool a.last, .int .i64 a.side, .slice iA a.items.length ic, .slice kA a.kids.length kc], .agg #[.int .i64 b.level, .string b.low, .string b.high, .bool b.last, .int .i64 b.side, .slice jA b.items.length jc, .slice mA b.kids.length mc]] w fun e w' => e = .returned (.bool true) ∧ Kept (fun _ => True) w w' := by
  have hcc := check_iff.1 hc
  have hn : a.items.length ≤ 120 := by
    by_cases h : a.level = 0
    · exact (hcc.2.1 h).len
    · rw [(hcc.2.2 h).items]; simp
  have hm : a.kids.length ≤ 120 := by
    by_cases h : a.level = 0
    · rw [(hcc.2.1 h).kids]; simp
    · exact (hcc.2.2 h).len.2
  have := same_any a b w hai hak hbi hbk (by omega) (by omega)
  rw [hab] at this
  exact this
end Ytfoolgojcmkdbaa
end Go.Proofs
