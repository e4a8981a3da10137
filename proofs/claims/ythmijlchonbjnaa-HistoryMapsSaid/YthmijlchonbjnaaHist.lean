/-
  Items, calls, answers and histories: as data, and in memory.
-/
import Derived.Test.YthmijlchonbjnaaRow
import Derived.Lib.Bytealg
import Derived.Deep.RegionHeld3
import Derived.Deep.CutBlock
import Derived.Deep.RegionLaw
import Derived.Deep.RegionWith
import Derived.Deep.DeepCutAuto
set_option maxHeartbeats 1000000
namespace Go.Proofs
open Go.RowKit
namespace Ythmijlchonbjnaa
attribute [local go_sem ↓] Go.wp_at_zero Go.wp_at_succ
structure Item where
  key : ByteArray
  val : ByteArray
  no : Int
  gone : Bool
structure Call where
  client : Int
  kind : Int
  key : ByteArray
  val : ByteArray
  fin : ByteArray
  most : Int
structure Ans where
  err : Int
  is : Bool
  val : ByteArray
  no : Int
/-- A call as a history has it; if it has ended: where its end lies, its answer, and when. -/
structure PC where
  c : Call
  from_ : Int
  eff : Int
  fin : Option (Nat × Ans × Int)
instance : Inhabited Item := ⟨⟨⟨#[]⟩, ⟨#[]⟩, 0, false⟩⟩
instance : Inhabited Call := ⟨⟨0, 0, ⟨#[]⟩, ⟨#[]⟩, ⟨#[]⟩, 0⟩⟩
instance : Inhabited PC := ⟨⟨default, 0, 0, none⟩⟩
def ics (x : Item) : List Value := [.string x.key, .string x.val, .int .i64 x.no, .bool x.gone]
def ccs (x : Call) : List Value := [.int .i64 x.client, .int .i64 x.kind, .string x.key, .string x.val, .string x.fin, .int .i64 x.most]
def ptr (x : Option (Nat × Ans × Int)) : Option Addr := x.map fun e => ⟨e.1, 0, none⟩
def pcs (x : PC) : List Value := [.int .i64 x.c.client, .int .i64 x.c.kind, .string x.c.key, .string x.c.val, .string x.c.fin, .int .i64 x.c.most, .int .i64 x.from_, .int .i64 x.eff, .pointer (ptr x.fin)]
def scs (x : ByteArray) : List Value := [.string x]
def acs (a : Ans) : List Value := [.int .i64 a.err, .bool a.is, .string a.val, .int .i64 a.no, .slice none 0 0]
def ecs (a : Ans) (tt : Int) : Array Value := #[.int .i64 a.err, .bool a.is, .string a.val, .int .i64 a.no, .slice none 0 0, .int .i64 tt]
theorem encI : Enc 4 ics := ⟨fun _ => rfl, fun x u hu => by
  simp only [ics, List.mem_cons, List.not_mem_nil, or_false] at hu
  rcases hu with rfl | rfl | rfl | rfl <;> rfl⟩
theorem encC : Enc 6 ccs := ⟨fun _ => rfl, fun x u hu => by
  simp only [ccs, List.mem_cons, List.not_mem_nil, or_false] at hu
  rcases hu with rfl | rfl | rfl | rfl | rfl | rfl <;> rfl⟩
theorem encP : Enc 9 pcs := ⟨fun _ => rfl, fun x u hu => by
  simp only [pcs, List.mem_cons, List.not_mem_nil, or_false] at hu
  rcases hu with rfl | rfl | rfl | rfl | rfl | rfl | rfl | rfl | rfl <;> rfl⟩
theorem encS : Enc 1 scs := ⟨fun _ => rfl, fun x u hu => by
  simp only [scs, List.mem_cons, List.not_mem_nil, or_false] at hu
  subst hu
  rfl⟩
abbrev ItR := RdK 4 ics
abbrev CaR := RdK 6 ccs
abbrev PcR := RdK 9 pcs
abbrev ItO (w : World) (base : Nat) (v : Value) (l : List Item) : Prop := RowN 4 ics w base 33 v l
abbrev PcO (w : World) (base : Nat) (v : Value) (l : List PC) : Prop := RowN 9 pcs w base 52 v l
abbrev StO (w : World) (base : Nat) (v : Value) (l : List ByteArray) : Prop := RowN 1 scs w base 9 v l
theorem cell_lt' {w : World} {b o : Nat} {v : Value} (h : w.cell? ⟨b, o, none⟩ = some v) : b < w.heap.size := by
  rcases Nat.lt_or_ge b w.heap.size with h1 | h1
  · exact h1
  · simp [World.cell?, Array.getElem?_eq_none h1] at h
theorem Kept.cellv {w w' : World} (h : Kept (fun _ => True) w w') {b o : Nat} {v : Value} (hc : w.cell? ⟨b, o, none⟩ = some v) : w'.cell? ⟨b, o, none⟩ = some v := by
  rw [h.cell (p := ⟨b, o, none⟩) (cell_lt' hc) trivial, hc]
section
variable {α : Type} {k : Nat} {enc : α → List Value} {w w' : World} {base : Nat} {e : TypeId} {v : Value} {l : List α}
theorem RdK.len {A : Option Addr} {n c : Nat} (h : RdK k enc w (.slice A n c) l) : n = l.length := by
  obtain ⟨_, _, he, _⟩ := h
  injection he
theorem RdK.at_ {A : Option Addr} {n c : Nat} (h : RdK k enc w (.slice A n c) l) {i : Nat} {x : α} (hi : l[i]? = some x) : ∃ b off, A = some ⟨b, off, none⟩ ∧ b < w.heap.size ∧ n ≤ c ∧ ∀ j u, (enc x)[j]? = some u → w.cell? ⟨b, off + i * k + j, none⟩ = some u := by
  obtain ⟨A', c', he, hc, hA⟩ := h
  injection he with h1 h2 h3
  subst h1 h2 h3
  obtain ⟨b, off, ha, hb, h1⟩ := hA i x hi
  exact ⟨b, off, ha, hb, hc, h1⟩
/-- One's own row, at a place. -/
theorem RowN.at_ {A : Option Addr} {n c : Nat} (E : Enc k enc) (h : RowN k enc w base e (.slice A n c) l) {i : Nat} {x : α} (hi : l[i]? = some x) : ∃ g cs, A = some ⟨g, 0, none⟩ ∧ base ≤ g ∧ Blk w g e cs ∧ n = l.length ∧ n ≤ c ∧ ∀ j u, (enc x)[j]? = some u → w.cell? ⟨g, i * k + j, none⟩ = some u := by
  have hr := h.rd E
  rcases h with ⟨h0, rfl⟩ | ⟨g, cap, cur, h0, hb, hh, hc, _⟩
  · simp at hi
  · injection h0 with h1 h2 h3
    subst h1 h2 h3
    obtain ⟨b, off, ha, _, _, h1⟩ := hr.at_ hi
    injection ha with ha
    injection ha with ha1 ha2
    subst ha1 ha2
    exact ⟨g, cur, rfl, hb, hh, rfl, hc, fun j u hu => by have := h1 j u hu; rwa [Nat.zero_add] at this⟩
theorem set_flat (E : Enc k enc) : ∀ (l : List α) (i : Nat) (x x' : α) (j : Nat) (u : Value), l[i]? = some x → enc x' = (enc x).set j u → j < k → (l.set i x').flatMap enc = (l.flatMap enc).set (i * k + j) u
  | [], i, x, x', j, u, h, _, _ => by simp at h
  | y :: l, 0, x, x', j, u, h, hu, hj => by
    have e1 : y = x := by simpa using h
    subst e1
    rw [List.set_cons_zero, List.flatMap_cons, List.flatMap_cons, Nat.zero_mul, Nat.zero_add, List.set_append_left _ _ (by rw [E.len]; exact hj), hu]
  | y :: l, i + 1, x, x', j, u, h, hu, hj => by
    have h' : l[i]? = some x := by simpa using h
    rw [List.set_cons_succ, List.flatMap_cons, List.flatMap_cons, List.set_append_right _ _ (by rw [E.len, Nat.add_mul]; omega), E.len]
    have e1 : (i + 1) * k + j - k = i * k + j := by rw [Nat.add_mul]; omega
    rw [e1, set_flat E l i x x' j u h' hu hj]
/-- A cell of an element is written. -/
theorem RowN.setj {g n c : Nat} (E : Enc k enc) (h : RowN k enc w base e (.slice (some ⟨g, 0, none⟩) n c) l) {i : Nat} {x x' : α} {j : Nat} {u : Value} (hi : l[i]? = some x) (hu : enc x' = (enc x).set j u) (hj : j < k) :
    RowN k enc (w.setCell ⟨g, i * k + j, none⟩ u) base e (.slice (some ⟨g, 0, none⟩) n c) (l.set i x') := by
  rcases h with ⟨h0, _⟩ | ⟨g', cap, cur, h0, hb, hh, hc, hck, hm, ht⟩
  · cases h0
  · injection h0 with h1 h2 h3
    injection h1 with h1
    injection h1 with h1
    subst h1 h2 h3
    refine .inr ⟨g, c, cur.setIfInBounds (i * k + j) u, by rw [List.length_set], hb, hh.set_ _ u, by rw [List.length_set]; exact hc, by simpa using hck, hm, ?_⟩
    rw [List.length_set, set_flat E l i x x' j u hi hu hj, ← ht]
    simp only [Array.toList_setIfInBounds]
    rw [List.take_set]
end
section
variable {α : Type} {k : Nat} {enc : α → List Value} {w w' : World} {base : Nat} {e : TypeId} {v : Value} {l : List α}
theorem BlkH.go {g : Nat} {t : TypeId} {cs : Array Value} (h : Hid (Blk w g t cs)) (hk : Kept (fun _ => True) w w') : Hid (Blk w' g t cs) := Lib.hid (h.out.kept hk trivial)
theorem BlkH.far {g x : Nat} {t : TypeId} {cs : Array Value} (h : Hid (Blk w g t cs)) (hk : Kept (fun b => b ≠ x) w w') (hne : g ≠ x) : Hid (Blk w' g t cs) := Lib.hid (h.out.kept hk hne)
theorem RowH.go (h : Hid (RowN k enc w base e v l)) (hk : Kept (fun _ => True) w w') : Hid (RowN k enc w' base e v l) := Lib.hid (h.out.all hk)
theorem RowH.far {x : Nat} {t : TypeId} {cs : Array Value} (h : Hid (RowN k enc w base e v l)) (hk : Kept (fun b => b ≠ x) w w') (hb : Hid (Blk w x t cs)) (hne : e ≠ t) : Hid (RowN k enc w' base e v l) := Lib.hid (h.out.kept hk fun g hg => by
  obtain ⟨_, h1⟩ := h.out.blk hg
  exact Blk.ne_ h1 hb.out hne)
theorem KeptH.go {w0 : World} (h : Hid (Kept (fun _ => True) w0 w)) (hk : Kept (fun _ => True) w w') : Hid (Kept (fun _ => True) w0 w') := Lib.hid (h.out.trans hk)
theorem KeptH.far {w0 : World} {x : Nat} (h : Hid (Kept (fun _ => True) w0 w)) (hk : Kept (fun b => b ≠ x) w w') (hx : w0.heap.size ≤ x) : Hid (Kept (fun _ => True) w0 w') := Lib.hid (h.out.trans' hk fun b hb _ e => by
  have : b = x := e
  omega)
theorem SzH.go {n : Nat} (h : Hid (n ≤ w.heap.size)) {K : Nat → Prop} (hk : Kept K w w') : Hid (n ≤ w'.heap.size) := Lib.hid (Nat.le_trans h.out hk.size)
end
/-- Blocks that no history's call writes: below the base, or of another type. -/
def Far (base : Nat) (w : World) (b : Nat) : Prop := b < base ∨ ∀ cs, ¬ Blk w b 56 cs ∧ ¬ Blk w b 52 cs
section
variable {w w' w2 : World} {base : Nat}
theorem Kept.far_trans (h : Kept (Far base w) w w') (k : Kept (Far base w') w' w2) : Kept (Far base w) w w2 :=
  h.trans' k fun i hi hf => by
    rcases hf with hf | hf
    · exact .inl hf
    · have he : w'.heap[i]? = w.heap[i]? := h.block i hi (.inr hf)
      refine .inr fun cs => ?_
      unfold Blk
      rw [he]
      exact hf cs
theorem Kept.toFar (h : Kept (fun _ => True) w w') : Kept (Far base w) w w' := h.mono fun _ _ _ => trivial
theorem Blk.isFar {g : Nat} {t : TypeId} {cs : Array Value} (h : Blk w g t cs) (h1 : t ≠ 56) (h2 : t ≠ 52) : Far base w g := .inr fun _ => ⟨fun h' => Blk.ne_ h h' h1 rfl, fun h' => Blk.ne_ h h' h2 rfl⟩
theorem BlkH.pass {g : Nat} {t : TypeId} {cs : Array Value} (h : Hid (Blk w g t cs)) (hk : Kept (Far base w) w w') (h1 : t ≠ 56) (h2 : t ≠ 52) : Hid (Blk w' g t cs) := Lib.hid (h.out.kept hk (h.out.isFar h1 h2))
end
/-- A history of these calls. Its items at first are none. -/
structure HRep (w : World) (base g : Nat) (A : Option Addr) (c rb : Nat) (l : List PC) (now : Int) : Prop where
  blk : Blk w g 56 #[.slice none 0 0, .slice A l.length c, .int .i64 now, .slice (some ⟨rb, 0, none⟩) 5 5]
  row : PcO w base (.slice A l.length c) l
  rules : Blk w rb 49 #[.int .i64 1, .func (.func 16) #[] #[], .int .i64 2, .func (.func 17) #[] #[], .int .i64 3, .func (.func 17) #[] #[], .int .i64 4, .func (.func 18) #[] #[], .int .i64 5, .func (.func 19) #[] #[]]
  gge : base ≤ g
  ends : ∀ x ∈ l, ∀ e a tt, x.fin = some (e, a, tt) → Blk w e 63 (ecs a tt)
section
variable {w w' : World} {base g c rb : Nat} {A : Option Addr} {l : List PC} {now : Int}
theorem HRep.all (h : HRep w base g A c rb l now) (hk : Kept (fun _ => True) w w') : HRep w' base g A c rb l now :=
  ⟨h.blk.kept hk trivial, h.row.all hk, h.rules.kept hk trivial, h.gge, fun x hx e a tt he => (h.ends x hx e a tt he).kept hk trivial⟩
theorem HRepH.go (h : Hid (HRep w base g A c rb l now)) (hk : Kept (fun _ => True) w w') : Hid (HRep w' base g A c rb l now) := Lib.hid (h.out.all hk)
theorem HRep.low {base' : Nat} (h : HRep w base g A c rb l now) (hb : base' ≤ base) : HRep w base' g A c rb l now := ⟨h.blk, h.row.low hb, h.rules, Nat.le_trans hb h.gge, h.ends⟩
end
/-- Whatever is a call's kind. -/
def isUpd (k : Int) : Bool := k == 2 || k == 3
theorem isUpdate_any (x : Call) (w : World) : Calls Try.prog 24 #[.agg (ccs x).toArray] w fun e w' => e = .returned (.bool (isUpd x.kind)) ∧ Kept (fun _ => True) w w' := by
  obtain ⟨cl, k, ky, vl, fi, mo⟩ := x
  unfold ccs isUpd
  go_enter Try.func24, Try.ntmps24
  by_cases h2 : k = 2
  · have t2 : (k == 2) = true := by simpa using h2
    go_wp2_with fail
    go_ret
    exact ⟨by rw [t2]; rfl, (Kept.refl _ _).alloc _⟩
  · have t2 : (k == 2) = false := by simpa using h2
    go_wp2_with fail
    go_ret
    exact ⟨by rw [t2]; rfl, (Kept.refl _ _).alloc _⟩
set_option maxRecDepth 100000 in
theorem cloneNil (w : World) : Calls Try.prog 15 #[.slice none 0 0] w fun e w' => e = .returned (.slice none 0 0) ∧ w' = w := by
  have q22 : ∀ w, (binOp .eql 27 (.slice none 0 0) (.slice none 0 0)).run Try.prog w = .ok (.bool true) w := fun _ => rfl
  go_enter Try.func15, Try.ntmps15
  go_wp2_with fail
  go_ret
  exact ⟨rfl, rfl⟩
theorem len_any {w : World} {base g c rb : Nat} {A : Option Addr} {l : List PC} {now : Int} (h : HRep w base g A c rb l now) : Calls Try.prog 10 #[.pointer (some ⟨g, 0, none⟩)] w fun e w' => e = .returned (.int .i64 l.length) ∧ w' = w := by
  have c1 := h.blk.cell 1
  have HH := Lib.hid h
  clear h
  go_enter Try.func10, Try.ntmps10
  go_wp2_with fail
  go_ret
  exact ⟨rfl, rfl⟩
theorem new_any (w : World) : Calls Try.prog 7 #[.slice none 0 0] w fun e w' => ∃ g rb, e = .returned (.pointer (some ⟨g, 0, none⟩)) ∧ Hid (HRep w' w.heap.size g none 0 rb [] 0) ∧ Kept (fun _ => True) w w' := by
  go_enter Try.func7, Try.ntmps7
  go_wp2_with fail
  refine (cloneNil _).mono ?_
  rintro e w' ⟨rfl, rfl⟩
  go_wp2_with fail
  go_ret
  refine ⟨_, _, rfl, Lib.hid ⟨?_, RowN.nil _ _ _, (Blk.new w' 49 _).alloc _, by omega, fun x hx => by cases hx⟩, ((Kept.refl _ _).alloc _).alloc _⟩
  have := Blk.new (w'.alloc (.cells #[.int .i64 1, .func (.func 16) #[] #[], .int .i64 2, .func (.func 17) #[] #[], .int .i64 3, .func (.func 17) #[] #[], .int .i64 4, .func (.func 18) #[] #[], .int .i64 5, .func (.func 19) #[] #[]] 49)) 56 #[.slice none 0 0, .slice none 0 0, .int .i64 0, .slice (some ⟨w'.heap.size, 0, none⟩) 5 5]
  simpa using this
end Ythmijlchonbjnaa
end Go.Proofs
