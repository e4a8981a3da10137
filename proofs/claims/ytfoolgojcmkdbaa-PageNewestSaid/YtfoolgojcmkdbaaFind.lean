/-
  Find.
-/
import Derived.Test.YtfoolgojcmkdbaaIdx
import Derived.Test.YtfoolgojcmkdbaaEqs
import Derived.Test.YtfoolgojcmkdbaaOwn
set_option maxHeartbeats 4000000
namespace Go.Proofs
open Go.RowKit
namespace Ytfoolgojcmkdbaa
attribute [local go_sem ↓] Go.wp_at_zero Go.wp_at_succ
def keyIs (q : ByteArray) (x : Item) : Bool := x.key.toList == q.toList
/-- What Find hands back. -/
def find (l : List Item) (q : ByteArray) : Item × Bool := match l.find? (keyIs q) with
  | some x => (x, true)
  | none => (default, false)
theorem find_hit {l : List Item} {q : ByteArray} (h : l.any (keyIs q) = true) : ∃ x, l[l.findIdx (keyIs q)]? = some x ∧ find l q = (x, true) := by
  have hlt : l.findIdx (keyIs q) < l.length := List.findIdx_lt_length.2 (by simpa using h)
  refine ⟨_, List.getElem?_eq_getElem hlt, ?_⟩
  unfold find
  rw [List.find?_eq_getElem?_findIdx, List.getElem?_eq_getElem hlt]
theorem find_miss {l : List Item} {q : ByteArray} (h : l.any (keyIs q) = false) : find l q = (default, false) := by
  have : l.find? (keyIs q) = none := by
    rw [List.find?_eq_none]
    intro x hx
    rw [List.any_eq_false] at h
    exact h x hx
  unfold find
  rw [this]
/-- An item's four cells, stored. -/
def set4 (W : World) (g : Nat) (a0 a1 a2 a3 : Value) : World := (((W.setCell ⟨g, 0, none⟩ a0).setCell ⟨g, 1, none⟩ a1).setCell ⟨g, 2, none⟩ a2).setCell ⟨g, 3, none⟩ a3
theorem set4_blk {W : World} {g : Nat} {t : TypeId} {b0 b1 b2 b3 : Value} (h : Blk W g t #[b0, b1, b2, b3]) (a0 a1 a2 a3 : Value) : Blk (set4 W g a0 a1 a2 a3) g t #[a0, a1, a2, a3] :=
  (((h.set_ 0 a0).set_ 1 a1).set_ 2 a2).set_ 3 a3
theorem set4_kept (W : World) (g : Nat) (a0 a1 a2 a3 : Value) : Kept (fun b => b ≠ g) W (set4 W g a0 a1 a2 a3) :=
  ((((Kept.refl _ W).setCell (fun _ h => h rfl) _).setCell (fun _ h => h rfl) _).setCell (fun _ h => h rfl) _).setCell (fun _ h => h rfl) _
theorem find_any (p : Page) (q : ByteArray) {iA : Option Addr} {ic : Nat} {kv : Value} (w : World) (hi : ItR w (.slice iA p.items.length ic) p.items) (hn : p.items.length ≤ 1152921504606846975) :
    Calls Try.prog 8 #[pv p (.slice iA p.items.length ic) kv, .string q] w fun e w' => e = .returned (.tuple #[.agg (ics (find p.items q).1).toArray, .bool (find p.items q).2]) ∧ Kept (fun _ => True) w w' := by
  have hidx : ∀ W b, Kept (fun _ => True) w W → W.cell? ⟨b, 0, none⟩ = some (.string q) → Calls Try.prog 21 #[.slice iA p.items.length ic, .func (.func 22) #[] #[.pointer (some ⟨b, 0, none⟩)]] W fun e w' => e = .returned (.int .i64 (idx (keyIs q) p.items)) ∧ Kept (fun _ => True) W w' := fun W b hW hb =>
    indexItem_any 22 _ (enters_of Try.func22 (by kernel_rfl) rfl) (keyIs q) W (hi.all hW) (fun W' x hW' => find1_any x q b W' (hW'.cellv hb)) (by omega)
  have HI := Lib.hid hi
  clear hi
  unfold pv
  generalize hil : p.items.length = n at hidx HI hn ⊢
  generalize p.level = lv
  generalize p.low = lo
  generalize p.high = hi
  generalize p.last = la
  generalize p.side = sd
  generalize p.items = l at hidx HI hil ⊢
  have HIL := Lib.hid hil
  clear hil
  have k0 : Kept (fun _ => True) w (((w.alloc (.cells #[.int .i64 lv, .string lo, .string hi, .bool la, .int .i64 sd, .slice iA n ic, kv] 25)).alloc (.cells #[.string q] 9)).alloc (.cells #[.string ⟨#[]⟩, .string ⟨#[]⟩, .int .i64 0, .bool false] 30)) := (((Kept.refl _ w).alloc _).alloc _).alloc _
  have hB := ((Blk.new w 25 #[.int .i64 lv, .string lo, .string hi, .bool la, .int .i64 sd, .slice iA n ic, kv]).alloc (.cells #[.string q] 9)).alloc (.cells #[.string ⟨#[]⟩, .string ⟨#[]⟩, .int .i64 0, .bool false] 30)
  have hQ : Blk (((w.alloc (.cells #[.int .i64 lv, .string lo, .string hi, .bool la, .int .i64 sd, .slice iA n ic, kv] 25)).alloc (.cells #[.string q] 9)).alloc (.cells #[.string ⟨#[]⟩, .string ⟨#[]⟩, .int .i64 0, .bool false] 30)) (w.heap.size + 1) 9 #[.string q] := by
    have := (Blk.new (w.alloc (.cells #[.int .i64 lv, .string lo, .string hi, .bool la, .int .i64 sd, .slice iA n ic, kv] 25)) 9 #[.string q]).alloc (.cells #[.string ⟨#[]⟩, .string ⟨#[]⟩, .int .i64 0, .bool false] 30)
    simpa using this
  have hR : Blk (((w.alloc (.cells #[.int .i64 lv, .string lo, .string hi, .bool la, .int .i64 sd, .slice iA n ic, kv] 25)).alloc (.cells #[.string q] 9)).alloc (.cells #[.string ⟨#[]⟩, .string ⟨#[]⟩, .int .i64 0, .bool false] 30)) (w.heap.size + 1 + 1) 30 #[.string ⟨#[]⟩, .string ⟨#[]⟩, .int .i64 0, .bool false] := by
    have := Blk.new ((w.alloc (.cells #[.int .i64 lv, .string lo, .string hi, .bool la, .int .i64 sd, .slice iA n ic, kv] 25)).alloc (.cells #[.string q] 9)) 30 #[.string ⟨#[]⟩, .string ⟨#[]⟩, .int .i64 0, .bool false]
    simpa using this
  obtain ⟨r, hr⟩ : ∃ r, find l q = r := ⟨_, rfl⟩
  rw [hr]
  have HR := Lib.hid hr
  clear hr
  have HB := Lib.hid hB
  have HQ := Lib.hid (hQ.cell 0)
  have HRR := Lib.hid hR
  have K0 := Lib.hid k0
  clear hB hQ hR k0
  go_enter Try.func8, Try.ntmps8
  go_wp2_with fail
  refine (hidx _ (w.heap.size + 1) K0.out HQ.out).mono ?_
  rintro e w1 ⟨rfl, hb⟩
  have hR1 := HRR.out.kept hb trivial
  have KB := Lib.hid (K0.out.trans hb)
  have r5 := (HB.out.kept hb trivial).cell 5
  have y0 := hR1.frozen 0
  have y1 := hR1.frozen 1
  have y2 := hR1.frozen 2
  have y3 := hR1.frozen 3
  have z0 := hR1.cell 0
  have z1 := hR1.cell 1
  have z2 := hR1.cell 2
  have z3 := hR1.cell 3
  clear hb hidx
  cases hany : l.any (keyIs q) with
  | true =>
    obtain ⟨x, hx, hf⟩ := find_hit hany
    have hk : idx (keyIs q) l = (l.findIdx (keyIs q) : Int) := by
      unfold idx
      rw [hany]
      rfl
    rw [hk]
    have HF := Lib.hid hf
    clear hf hk hany
    generalize l.findIdx (keyIs q) = k at hx ⊢
    have hkl : (k : Int) < (n : Int) := by
      have := (List.getElem?_eq_some_iff.1 hx).1
      have := HIL.out
      omega
    have hk0 : (0 : Int) ≤ (k : Int) := by omega
    obtain ⟨b, off, rfl, _, hc, c0, c1, c2, c3⟩ := ItR.at_ (RdK.all HI.out KB.out) hx
    obtain ⟨xk, xv, xn, xg⟩ := x
    simp only at c0 c1 c2 c3
    clear hx
    have hV := set4_blk hR1 (.string xk) (.string xv) (.int .i64 xn) (.bool xg)
    have kV := set4_kept w1 (w.heap.size + 1 + 1) (.string xk) (.string xv) (.int .i64 xn) (.bool xg)
    unfold set4 at hV kV
    have HV := Lib.hid hV
    have KV := Lib.hid kV
    clear hV kV hR1
    go_wp2_with fail
    generalize (((w1.setCell ⟨w.heap.size + 1 + 1, 0, none⟩ (.string xk)).setCell ⟨w.heap.size + 1 + 1, 1, none⟩ (.string xv)).setCell ⟨w.heap.size + 1 + 1, 2, none⟩ (.int .i64 xn)).setCell ⟨w.heap.size + 1 + 1, 3, none⟩ (.bool xg) = V at HV KV ⊢
    have v0 := HV.out.cell 0
    have v1 := HV.out.cell 1
    have v2 := HV.out.cell 2
    have v3 := HV.out.cell 3
    refine bodyPost_ret (v := .tuple #[.agg #[.string xk, .string xv, .int .i64 xn, .bool xg], .bool true]) ?_ rfl ⟨?_, KB.out.trans' KV.out fun b hb _ => by omega⟩
    · have hres : Try.f8.results = #[.cell 4 30, .tmp 5] := rfl
      unfold results
      rw [hres]
      go_simp
      try rfl
    · rw [← HR.out, HF.out]
      rfl
  | false =>
    have hf := find_miss hany
    have hk : idx (keyIs q) l = -1 := by
      unfold idx
      rw [hany]
      rfl
    rw [hk]
    have HF := Lib.hid hf
    clear hf hk hany
    have hV := set4_blk hR1 (.string ⟨#[]⟩) (.string ⟨#[]⟩) (.int .i64 0) (.bool false)
    have kV := set4_kept w1 (w.heap.size + 1 + 1) (.string ⟨#[]⟩) (.string ⟨#[]⟩) (.int .i64 0) (.bool false)
    unfold set4 at hV kV
    have HV := Lib.hid hV
    have KV := Lib.hid kV
    clear hV kV hR1
    go_wp2_with fail
    generalize (((w1.setCell ⟨w.heap.size + 1 + 1, 0, none⟩ (.string ⟨#[]⟩)).setCell ⟨w.heap.size + 1 + 1, 1, none⟩ (.string ⟨#[]⟩)).setCell ⟨w.heap.size + 1 + 1, 2, none⟩ (.int .i64 0)).setCell ⟨w.heap.size + 1 + 1, 3, none⟩ (.bool false) = V at HV KV ⊢
    have v0 := HV.out.cell 0
    have v1 := HV.out.cell 1
    have v2 := HV.out.cell 2
    have v3 := HV.out.cell 3
    refine bodyPost_ret (v := .tuple #[.agg #[.string ⟨#[]⟩, .string ⟨#[]⟩, .int .i64 0, .bool false], .bool false]) ?_ rfl ⟨?_, KB.out.trans' KV.out fun b hb _ => by omega⟩
    · have hres : Try.f8.results = #[.cell 4 30, .tmp 5] := rfl
      unfold results
      rw [hres]
      go_simp
      try rfl
    · rw [← HR.out, HF.out]
      rfl
end Ytfoolgojcmkdbaa
end Go.Proofs
