/-
  rising at items and at kids.
-/
import Derived.Test.YtfoolgojcmkdbaaSmall
import Derived.Test.YtfoolgojcmkdbaaKeys
import Derived.Deep.RegionHeld3
import Derived.Deep.CutBlock
import Derived.Deep.RegionLaw
import Derived.Deep.RegionWith
import Derived.Deep.DeepCutAuto
set_option maxHeartbeats 4000000
namespace Go.Proofs
open Go.RowKit
namespace Ytfoolgojcmkdbaa
attribute [local go_sem ↓] Go.wp_at_zero Go.wp_at_succ
theorem Kept.cellv {w w' : World} (h : Kept (fun _ => True) w w') {b o : Nat} {v : Value} (hc : w.cell? ⟨b, o, none⟩ = some v) : w'.cell? ⟨b, o, none⟩ = some v := by
  have hlt : b < w.heap.size := by
    rcases Nat.lt_or_ge b w.heap.size with h1 | h1
    · exact h1
    · simp [World.cell?, Array.getElem?_eq_none h1] at hc
  rw [h.cell (p := ⟨b, o, none⟩) hlt trivial, hc]
/-- The seven cells of a page's box. -/
def Box (w : World) (b : Nat) (lv : Int) (lo hi : ByteArray) (la : Bool) (sd : Int) (iv kv : Value) : Prop :=
  w.cell? ⟨b, 0, none⟩ = some (.int .i64 lv) ∧ w.cell? ⟨b, 1, none⟩ = some (.string lo) ∧ w.cell? ⟨b, 2, none⟩ = some (.string hi) ∧ w.cell? ⟨b, 3, none⟩ = some (.bool la) ∧ w.cell? ⟨b, 4, none⟩ = some (.int .i64 sd) ∧ w.cell? ⟨b, 5, none⟩ = some iv ∧ w.cell? ⟨b, 6, none⟩ = some kv
/-- The four cells of an item. -/
def Four (w : World) (b o : Nat) (k v : ByteArray) (n : Int) (g : Bool) : Prop :=
  w.cell? ⟨b, o, none⟩ = some (.string k) ∧ w.cell? ⟨b, o + 1, none⟩ = some (.string v) ∧ w.cell? ⟨b, o + 2, none⟩ = some (.int .i64 n) ∧ w.cell? ⟨b, o + 3, none⟩ = some (.bool g)
def Two (w : World) (b o : Nat) (k : ByteArray) (n : Int) : Prop := w.cell? ⟨b, o, none⟩ = some (.string k) ∧ w.cell? ⟨b, o + 1, none⟩ = some (.int .i64 n)
section
variable {w w' : World} {b o : Nat} {lv sd n : Int} {lo hi k v : ByteArray} {la g : Bool} {iv kv : Value}
theorem Box.kept (h : Box w b lv lo hi la sd iv kv) (hk : Kept (fun _ => True) w w') : Box w' b lv lo hi la sd iv kv := by
  obtain ⟨h0, h1, h2, h3, h4, h5, h6⟩ := h
  exact ⟨hk.cellv h0, hk.cellv h1, hk.cellv h2, hk.cellv h3, hk.cellv h4, hk.cellv h5, hk.cellv h6⟩
theorem Box.drew (h : Box w b lv lo hi la sd iv kv) : Box w.drew b lv lo hi la sd iv kv := h
theorem Four.kept (h : Four w b o k v n g) (hk : Kept (fun _ => True) w w') : Four w' b o k v n g := by
  obtain ⟨h0, h1, h2, h3⟩ := h
  exact ⟨hk.cellv h0, hk.cellv h1, hk.cellv h2, hk.cellv h3⟩
theorem Two.kept (h : Two w b o k n) (hk : Kept (fun _ => True) w w') : Two w' b o k n := by
  obtain ⟨h0, h1⟩ := h
  exact ⟨hk.cellv h0, hk.cellv h1⟩
theorem Box.new (w : World) : Box (w.alloc (.cells #[.int .i64 lv, .string lo, .string hi, .bool la, .int .i64 sd, iv, kv] 25)) w.heap.size lv lo hi la sd iv kv := by
  have := (Blk.new w 25 #[.int .i64 lv, .string lo, .string hi, .bool la, .int .i64 sd, iv, kv]).cell
  exact ⟨this 0, this 1, this 2, this 3, this 4, this 5, this 6⟩
theorem Four.new (w : World) : Four (w.alloc (.cells #[.string k, .string v, .int .i64 n, .bool g] 30)) w.heap.size 0 k v n g := by
  have := (Blk.new w 30 #[.string k, .string v, .int .i64 n, .bool g]).cell
  exact ⟨this 0, this 1, this 2, this 3⟩
theorem Two.new (w : World) : Two (w.alloc (.cells #[.string k, .int .i64 n] 41)) w.heap.size 0 k n := by
  have := (Blk.new w 41 #[.string k, .int .i64 n]).cell
  exact ⟨this 0, this 1⟩
end
def F2 (w : World) (pb : Nat) (lv : Int) (lo hi : ByteArray) (la : Bool) (sd : Int) (iv kv : Value) (xb : Nat) (xk xv : ByteArray) (xn : Int) (xg : Bool) : Prop :=
  Box w pb lv lo hi la sd iv kv ∧ Four w xb 0 xk xv xn xg
def F3 (w : World) (pb : Nat) (lv : Int) (lo hi : ByteArray) (la : Bool) (sd : Int) (iv kv : Value) (xb : Nat) (xk xv : ByteArray) (xn : Int) (xg : Bool) (b o : Nat) (yk yv : ByteArray) (yn : Int) (yg : Bool) : Prop :=
  Box w pb lv lo hi la sd iv kv ∧ Four w xb 0 xk xv xn xg ∧ Four w b o yk yv yn yg
theorem F2.go {w w' : World} {pb xb : Nat} {lv sd xn : Int} {lo hi xk xv : ByteArray} {la xg : Bool} {iv kv : Value} (h : Hid (F2 w pb lv lo hi la sd iv kv xb xk xv xn xg)) (hk : Kept (fun _ => True) w w') : Hid (F2 w' pb lv lo hi la sd iv kv xb xk xv xn xg) :=
  Lib.hid ⟨h.out.1.kept hk, h.out.2.kept hk⟩
theorem F3.go {w w' : World} {pb xb b o : Nat} {lv sd xn yn : Int} {lo hi xk xv yk yv : ByteArray} {la xg yg : Bool} {iv kv : Value} (h : Hid (F3 w pb lv lo hi la sd iv kv xb xk xv xn xg b o yk yv yn yg)) (hk : Kept (fun _ => True) w w') : Hid (F3 w' pb lv lo hi la sd iv kv xb xk xv xn xg b o yk yv yn yg) :=
  Lib.hid ⟨h.out.1.kept hk, h.out.2.1.kept hk, h.out.2.2.kept hk⟩
theorem Kept.go {w0 w w' : World} (h : Hid (Kept (fun _ => True) w0 w)) (hk : Kept (fun _ => True) w w') : Hid (Kept (fun _ => True) w0 w') := Lib.hid (h.out.trans hk)
theorem itemKey4 (k v : ByteArray) (n : Int) (g : Bool) (w : World) : Calls Try.prog 24 #[.agg #[.string k, .string v, .int .i64 n, .bool g]] w fun e w' => e = .returned (.string k) ∧ Kept (fun _ => True) w w' := itemKey_any ⟨k, v, n, g⟩ w
theorem kidKey2 (k : ByteArray) (n : Int) (w : World) : Calls Try.prog 28 #[.agg #[.string k, .int .i64 n]] w fun e w' => e = .returned (.string k) ∧ Kept (fun _ => True) w w' := kidKey_any ⟨k, n⟩ w
theorem wrap_small {n : Nat} (h : n ≤ 1152921504606846975) : IntKind.i64.wrap (n : Int) = (n : Int) := by
  unfold IntKind.wrap
  simp [IntKind.signed, IntKind.bits]
  omega
theorem prev_lt {ks : List ByteArray} {j : Nat} {y x : ByteArray} (hy : ks[j]? = some y) (h : lt y x = true) (i : Nat) (a : ByteArray) (hi : i + 1 = j + 1) (ha : ks[i]? = some a) : lt a x = true := by
  have : i = j := by omega
  subst this
  rw [hy] at ha
  injection ha with ha
  rw [← ha]
  exact h
theorem riseItem_any (p : Page) (iv kv : Value) {A : Option Addr} {n c : Nat} {l : List Item} (w : World) (h : ItR w (.slice A n c) l) (hn : n ≤ 1152921504606846975) :
    Calls Try.prog 34 #[pv p iv kv, .slice A n c, .func (.func 24) #[] #[]] w fun e w' => e = .returned (.bool (rising p (l.map (·.key)))) ∧ Kept (fun _ => True) w w' := by
  have hlen := h.len
  subst hlen
  have HH := Lib.hid h
  clear h
  obtain ⟨r, hr⟩ : ∃ r, rising p (l.map (·.key)) = r := ⟨_, rfl⟩
  rw [hr]
  have HR := Lib.hid hr
  clear hr
  have hcv : ∀ k w, Calls Try.prog 12 #[pv p iv kv, .string k] w fun e w' => e = .returned (.bool (covers p k)) ∧ Kept (fun _ => True) w w' := covers_any p iv kv
  obtain ⟨lv, lo, hi, la, sd, il, kl⟩ := p
  unfold pv at hcv ⊢
  go_enter Try.func34, Try.ntmps34
  go_wp2_with fail
  go_loopw [7, 8, 11] (fun _ _ s11 wr => ∃ k : Nat, k ≤ l.length ∧ s11 = .int .i64 k ∧ Hid (Kept (fun _ => True) w wr) ∧ Hid (Box wr w.heap.size lv lo hi la sd iv kv) ∧ Hid (Sorted ((l.map (·.key)).take k)) ∧ Hid (∀ j x, j < k → (l.map (·.key))[j]? = some x → covers ⟨lv, lo, hi, la, sd, il, kl⟩ x = true)) (fun _ _ s11 _ => l.length - (intOf s11).toNat)
  case atStart => exact ⟨0, Nat.zero_le _, rfl, Lib.hid ((Kept.refl _ _).alloc _), Lib.hid (Box.new w), Lib.hid (by simp [Sorted]), Lib.hid fun j x hj => absurd hj (Nat.not_lt_zero _)⟩
  case round =>
    obtain ⟨k, hk, rfl, BW, BX, SO, CO⟩ := hrel
    by_cases hlt : k < l.length
    · have hltz : (k : Int) < (l.length : Int) := by omega
      obtain ⟨x, hx⟩ : ∃ x, l[k]? = some x := ⟨_, List.getElem?_eq_getElem hlt⟩
      obtain ⟨b, off, rfl, hb, hc, c0, c1, c2, c3⟩ := ItR.at_ (RdK.all HH.out BW.out) hx
      have HX := Lib.hid hx
      clear hx
      obtain ⟨xk, xv, xn, xg⟩ := x
      go_upto_region 4 with fail
      have k4 : Kept (fun _ => True) wr (wr.alloc (.cells #[.string xk, .string xv, .int .i64 xn, .bool xg] 30)) := (Kept.refl _ wr).alloc _
      have f4 := Four.new (k := xk) (v := xv) (n := xn) (g := xg) wr
      have b4 := BX.out.kept k4
      generalize wr.alloc (.cells #[.string xk, .string xv, .int .i64 xn, .bool xg] 30) = w4 at k4 f4 b4 ⊢
      generalize wr.heap.size = xb at f4 ⊢
      have K4 : Hid (Kept (fun _ => True) w w4.drew) := Lib.hid (BW.out.trans k4).drew
      have HXK : Hid ((l.map (·.key))[k]? = some xk) := Lib.hid (by simp [HX.out])
      have hcv1 := hcv xk
      obtain ⟨cb, hcb⟩ : ∃ cb, covers ⟨lv, lo, hi, la, sd, il, kl⟩ xk = cb := ⟨_, rfl⟩
      rw [hcb] at hcv1
      have HCB := Lib.hid hcb
      clear hcb hcv
      cases k with
      | zero =>
        have F4 : Hid (F2 w4.drew w.heap.size lv lo hi la sd iv kv xb xk xv xn xg) := Lib.hid ⟨b4, f4⟩
        clear k4 f4 b4
        refine wp_region_held_drew (S := (fun W => (W.cell? ⟨w.heap.size, 0, none⟩ = some (.int .i64 lv) ∧ W.cell? ⟨w.heap.size, 1, none⟩ = some (.string lo) ∧ W.cell? ⟨w.heap.size, 2, none⟩ = some (.string hi) ∧ W.cell? ⟨w.heap.size, 3, none⟩ = some (.bool la) ∧ W.cell? ⟨w.heap.size, 4, none⟩ = some (.int .i64 sd) ∧ W.cell? ⟨w.heap.size, 5, none⟩ = some iv ∧ W.cell? ⟨w.heap.size, 6, none⟩ = some kv) ∧ (W.cell? ⟨xb, 0, none⟩ = some (.string xk) ∧ W.cell? ⟨xb, 1, none⟩ = some (.string xv) ∧ W.cell? ⟨xb, 2, none⟩ = some (.int .i64 xn) ∧ W.cell? ⟨xb, 3, none⟩ = some (.bool xg)))) (by kernel_rfl) ?_ (fun hHeld => ?_)
        · (first | exact F6.out | exact F5.out | exact F4.out)
        refine wpAnyH_take (i := 0) (v := ?vz1) rfl (by kernel_rfl) (by kernel_rfl) (by kernel_rfl) (fun _ _ _ h => h) (Or.inl ⟨?wz1, ?yz1⟩) (by assumption) ?rz1
        case yz1 => (intro w hSw; (try dsimp only at hSw); go_simp; try with_reducible rfl)
        case wz1 => rfl
        case' rz1 => simp only [Act.put, List.getElem_toArray, List.getElem_cons_zero, List.setIfInBounds_toArray, List.set_cons_zero, List.set_cons_succ]
        refine wpAnyH_take (i := 1) (v := ?vz2) rfl (by kernel_rfl) (by kernel_rfl) (by kernel_rfl) (fun _ _ _ h => h) (Or.inl ⟨?wz2, ?yz2⟩) (by assumption) ?rz2
        case yz2 => (intro w hSw; (try dsimp only at hSw); go_simp; try with_reducible rfl)
        case wz2 => rfl
        case' rz2 => simp only [Act.put, List.getElem_toArray, List.getElem_cons_zero, List.getElem_cons_succ, List.setIfInBounds_toArray, List.set_cons_zero, List.set_cons_succ]
        refine wpAnyH_take (i := 2) (v := ?vz3) rfl (by kernel_rfl) (by kernel_rfl) (by kernel_rfl) (fun _ _ _ h => h) (Or.inl ⟨?wz3, ?yz3⟩) (by assumption) ?rz3
        case yz3 => (intro w hSw; (try dsimp only at hSw); go_simp; try with_reducible rfl)
        case wz3 => rfl
        case' rz3 => simp only [Act.put, List.getElem_toArray, List.getElem_cons_zero, List.getElem_cons_succ, List.setIfInBounds_toArray, List.set_cons_zero, List.set_cons_succ]
        refine wpAnyH_take (i := 3) (v := undef) rfl (by kernel_rfl) (by kernel_rfl) (by kernel_rfl) (fun _ _ _ h => h) (Or.inr ⟨rfl, rfl⟩) (by assumption) ?_
        simp only [Act.put, List.getElem_toArray, List.getElem_cons_zero, List.getElem_cons_succ, List.setIfInBounds_toArray, List.set_cons_zero, List.set_cons_succ]
        refine wpAnyH_take (i := 4) (v := undef) rfl (by kernel_rfl) (by kernel_rfl) (by kernel_rfl) (fun _ _ _ h => h) (Or.inr ⟨rfl, rfl⟩) (by assumption) ?_
        simp only [Act.put, List.getElem_toArray, List.getElem_cons_zero, List.getElem_cons_succ, List.setIfInBounds_toArray, List.set_cons_zero, List.set_cons_succ]
        refine wpAnyH_take (i := 5) (v := undef) rfl (by kernel_rfl) (by kernel_rfl) (by kernel_rfl) (fun _ _ _ h => h) (Or.inr ⟨rfl, rfl⟩) (by assumption) ?_
        simp only [Act.put, List.getElem_toArray, List.getElem_cons_zero, List.getElem_cons_succ, List.setIfInBounds_toArray, List.set_cons_zero, List.set_cons_succ]
        refine wpAnyH_take (i := 6) (v := undef) rfl (by kernel_rfl) (by kernel_rfl) (by kernel_rfl) (fun _ _ _ h => h) (Or.inr ⟨rfl, rfl⟩) (by assumption) ?_
        simp only [Act.put, List.getElem_toArray, List.getElem_cons_zero, List.getElem_cons_succ, List.setIfInBounds_toArray, List.set_cons_zero, List.set_cons_succ]
        refine wpAnyH_take (i := 7) (v := undef) rfl (by kernel_rfl) (by kernel_rfl) (by kernel_rfl) (fun _ _ _ h => h) (Or.inr ⟨rfl, rfl⟩) (by assumption) ?_
        simp only [Act.put, List.getElem_toArray, List.getElem_cons_zero, List.getElem_cons_succ, List.setIfInBounds_toArray, List.set_cons_zero, List.set_cons_succ]
        refine wpAnyH_take (i := 8) (v := undef) rfl (by kernel_rfl) (by kernel_rfl) (by kernel_rfl) (fun _ _ _ h => h) (Or.inr ⟨rfl, rfl⟩) (by assumption) ?_
        simp only [Act.put, List.getElem_toArray, List.getElem_cons_zero, List.getElem_cons_succ, List.setIfInBounds_toArray, List.set_cons_zero, List.set_cons_succ]
        refine wpAnyH_take (i := 9) (v := undef) rfl (by kernel_rfl) (by kernel_rfl) (by kernel_rfl) (fun _ _ _ h => h) (Or.inr ⟨rfl, rfl⟩) (by assumption) ?_
        simp only [Act.put, List.getElem_toArray, List.getElem_cons_zero, List.getElem_cons_succ, List.setIfInBounds_toArray, List.set_cons_zero, List.set_cons_succ]
        refine wpAnyH_take (i := 10) (v := undef) rfl (by kernel_rfl) (by kernel_rfl) (by kernel_rfl) (fun _ _ _ h => h) (Or.inr ⟨rfl, rfl⟩) (by assumption) ?_
        simp only [Act.put, List.getElem_toArray, List.getElem_cons_zero, List.getElem_cons_succ, List.setIfInBounds_toArray, List.set_cons_zero, List.set_cons_succ]
        refine wpAnyH_take (i := 11) (v := undef) rfl (by kernel_rfl) (by kernel_rfl) (by kernel_rfl) (fun _ _ _ h => h) (Or.inr ⟨rfl, rfl⟩) (by assumption) ?_
        simp only [Act.put, List.getElem_toArray, List.getElem_cons_zero, List.getElem_cons_succ, List.setIfInBounds_toArray, List.set_cons_zero, List.set_cons_succ]
        refine wpAnyH_take (i := 12) (v := undef) rfl (by kernel_rfl) (by kernel_rfl) (by kernel_rfl) (fun _ _ _ h => h) (Or.inr ⟨rfl, rfl⟩) (by assumption) ?_
        simp only [Act.put, List.getElem_toArray, List.getElem_cons_zero, List.getElem_cons_succ, List.setIfInBounds_toArray, List.set_cons_zero, List.set_cons_succ]
        refine wpAnyH_take (i := 13) (v := undef) rfl (by kernel_rfl) (by kernel_rfl) (by kernel_rfl) (fun _ _ _ h => h) (Or.inr ⟨rfl, rfl⟩) (by assumption) ?_
        simp only [Act.put, List.getElem_toArray, List.getElem_cons_zero, List.getElem_cons_succ, List.setIfInBounds_toArray, List.set_cons_zero, List.set_cons_succ]
        refine wpAnyH_take (i := 14) (v := ?vz15) rfl (by kernel_rfl) (by kernel_rfl) (by kernel_rfl) (fun _ _ _ h => h) (Or.inl ⟨?wz15, ?yz15⟩) (by assumption) ?rz15
        case yz15 => (intro w hSw; (try dsimp only at hSw); go_simp; try with_reducible rfl)
        case wz15 => rfl
        case' rz15 => simp only [Act.put, List.getElem_toArray, List.getElem_cons_zero, List.getElem_cons_succ, List.setIfInBounds_toArray, List.set_cons_zero, List.set_cons_succ]
        refine wpAnyH_take (i := 15) (v := ?vz16) rfl (by kernel_rfl) (by kernel_rfl) (by kernel_rfl) (fun _ _ _ h => h) (Or.inl ⟨?wz16, ?yz16⟩) (by assumption) ?rz16
        case yz16 => (intro w hSw; (try dsimp only at hSw); go_simp; try with_reducible rfl)
        case wz16 => rfl
        case' rz16 => simp only [Act.put, List.getElem_toArray, List.getElem_cons_zero, List.getElem_cons_succ, List.setIfInBounds_toArray, List.set_cons_zero, List.set_cons_succ]
        refine wpAnyH_take (i := 16) (v := ?vz17) rfl (by kernel_rfl) (by kernel_rfl) (by kernel_rfl) (fun _ _ _ h => h) (Or.inl ⟨?wz17, ?yz17⟩) (by assumption) ?rz17
        case yz17 => (intro w hSw; (try dsimp only at hSw); go_simp; try with_reducible rfl)
        case wz17 => rfl
        case' rz17 => simp only [Act.put, List.getElem_toArray, List.getElem_cons_zero, List.getElem_cons_succ, List.setIfInBounds_toArray, List.set_cons_zero, List.set_cons_succ]
        refine wpAnyH_take (i := 17) (v := ?vz18) rfl (by kernel_rfl) (by kernel_rfl) (by kernel_rfl) (fun _ _ _ h => h) (Or.inl ⟨?wz18, ?yz18⟩) (by assumption) ?rz18
        case yz18 => (intro w hSw; (try dsimp only at hSw); go_simp; try with_reducible rfl)
        case wz18 => rfl
        case' rz18 => simp only [Act.put, List.getElem_toArray, List.getElem_cons_zero, List.getElem_cons_succ, List.setIfInBounds_toArray, List.set_cons_zero, List.set_cons_succ]
        refine wpAnyH_take (i := 18) (v := ?vz19) rfl (by kernel_rfl) (by kernel_rfl) (by kernel_rfl) (fun _ _ _ h => h) (Or.inl ⟨?wz19, ?yz19⟩) (by assumption) ?rz19
        case yz19 => (intro w hSw; (try dsimp only at hSw); go_simp; try with_reducible rfl)
        case wz19 => rfl
        case' rz19 => simp only [Act.put, List.getElem_toArray, List.getElem_cons_zero, List.getElem_cons_succ, List.setIfInBounds_toArray, List.set_cons_zero, List.set_cons_succ]
        refine wpAnyH_ready (rs := [19]) (by kernel_rfl) (by simp) ?_
        refine AllReadyH.cons rfl (fun K hK => ?_) AllReadyH.nil
        try go_simp
        (go_at_call 24; refine (itemKey4 _ _ _ _ _).mono ?_; rintro e5 w5 ⟨rfl, hk5⟩; have F5 := F2.go F4 hk5; have K5 := Kept.go K4 hk5; clear hk5)
        try go_simp
        refine hK.out _ _ ?_ (fun hHeld => ?_)
        · (first | exact F6.out | exact F5.out | exact F4.out)
        clear hK K
        try simp only [Act.put, List.getElem_toArray, List.getElem_cons_zero, List.getElem_cons_succ, List.setIfInBounds_toArray, List.set_cons_zero, List.set_cons_succ]
        refine wpAnyH_ready (rs := [20]) (by kernel_rfl) (by simp) ?_
        refine AllReadyH.cons rfl (fun K hK => ?_) AllReadyH.nil
        try go_simp
        (go_at_call 12; refine (hcv1 _).mono ?_; rintro e6 w6 ⟨rfl, hk6⟩; have F6 := F2.go F5 hk6; have K6 := Kept.go K5 hk6; clear hk6)
        try go_simp
        refine hK.out _ _ ?_ (fun hHeld => ?_)
        · (first | exact F6.out | exact F5.out | exact F4.out)
        clear hK K
        try simp only [Act.put, List.getElem_toArray, List.getElem_cons_zero, List.getElem_cons_succ, List.setIfInBounds_toArray, List.set_cons_zero, List.set_cons_succ]
        refine wpAnyH_take (i := 21) (v := ?vz20) rfl (by kernel_rfl) (by kernel_rfl) (by kernel_rfl) (fun _ _ _ h => h) (Or.inl ⟨?wz20, ?yz20⟩) (by assumption) ?rz20
        case yz20 => (intro w hSw; (try dsimp only at hSw); go_simp; try with_reducible rfl)
        case wz20 => rfl
        case' rz20 => simp only [Act.put, List.getElem_toArray, List.getElem_cons_zero, List.getElem_cons_succ, List.setIfInBounds_toArray, List.set_cons_zero, List.set_cons_succ]
        refine wpAnyH_take (i := 22) (v := ?vz21) rfl (by kernel_rfl) (by kernel_rfl) (by kernel_rfl) (fun _ _ _ h => h) (Or.inl ⟨?wz21, ?yz21⟩) (by assumption) ?rz21
        case yz21 => (intro w hSw; (try dsimp only at hSw); go_simp; try with_reducible rfl)
        case wz21 => rfl
        case' rz21 => simp only [Act.put, List.getElem_toArray, List.getElem_cons_zero, List.getElem_cons_succ, List.setIfInBounds_toArray, List.set_cons_zero, List.set_cons_succ]
        refine wpAnyH_done (by kernel_rfl) ?_ _
        cases cb with
        | false =>
          go_wp2_with fail
          go_ret
          refine ⟨?_, K6.out⟩
          rw [← HR.out, rising_no2 HXK.out HCB.out]
          rfl
        | true =>
          go_wp2_with fail
          go_roundw
          case measure => simp [intOf]; omega
          case rel =>
            refine ⟨0 + 1, by omega, by simp, K6, Lib.hid F6.out.1, Lib.hid (sorted_step SO.out HXK.out (fun j a hj => absurd hj (by omega))), Lib.hid fun i x hi hx => ?_⟩
            rcases Nat.lt_succ_iff_lt_or_eq.1 hi with h1 | h1
            · exact CO.out i x h1 hx
            · subst h1
              rw [HXK.out] at hx
              injection hx with hx
              rw [← hx]
              exact HCB.out
      | succ j =>
        obtain ⟨y, hy⟩ : ∃ y, l[j]? = some y := ⟨_, List.getElem?_eq_getElem (by omega)⟩
        obtain ⟨b', off', hbe, _, _, y0, y1, y2, y3⟩ := ItR.at_ (RdK.all HH.out BW.out) hy
        injection hbe with hbe
        injection hbe with hb1 hb2
        subst hb1 hb2
        have HYK : Hid ((l.map (·.key))[j]? = some y.key) := Lib.hid (by simp [hy])
        obtain ⟨yk, yv, yn, yg⟩ := y
        simp only at y0 y1 y2 y3 HYK
        have F4 : Hid (F3 w4.drew w.heap.size lv lo hi la sd iv kv xb xk xv xn xg b (off + j * 4) yk yv yn yg) := Lib.hid ⟨b4, f4, k4.cellv y0, k4.cellv y1, k4.cellv y2, k4.cellv y3⟩
        clear k4 f4 b4 y0 y1 y2 y3 c0 c1 c2 c3 hy
        have hwj : IntKind.i64.wrap (j : Int) = (j : Int) := wrap_small (by omega)
        have hjz : (j : Int) < (l.length : Int) := by omega
        have hj0 : decide ((0 : Int) < (j : Int) + 1) = true := by simp
        cases hyx : Op.bytesLess yk.toList xk.toList with
        | false =>
          have HYX := Lib.hid hyx
          refine wp_region_held_drew (S := (fun W => (W.cell? ⟨w.heap.size, 0, none⟩ = some (.int .i64 lv) ∧ W.cell? ⟨w.heap.size, 1, none⟩ = some (.string lo) ∧ W.cell? ⟨w.heap.size, 2, none⟩ = some (.string hi) ∧ W.cell? ⟨w.heap.size, 3, none⟩ = some (.bool la) ∧ W.cell? ⟨w.heap.size, 4, none⟩ = some (.int .i64 sd) ∧ W.cell? ⟨w.heap.size, 5, none⟩ = some iv ∧ W.cell? ⟨w.heap.size, 6, none⟩ = some kv) ∧ (W.cell? ⟨xb, 0, none⟩ = some (.string xk) ∧ W.cell? ⟨xb, 1, none⟩ = some (.string xv) ∧ W.cell? ⟨xb, 2, none⟩ = some (.int .i64 xn) ∧ W.cell? ⟨xb, 3, none⟩ = some (.bool xg)) ∧ (W.cell? ⟨b, off + j * 4, none⟩ = some (.string yk) ∧ W.cell? ⟨b, off + j * 4 + 1, none⟩ = some (.string yv) ∧ W.cell? ⟨b, off + j * 4 + 2, none⟩ = some (.int .i64 yn) ∧ W.cell? ⟨b, off + j * 4 + 3, none⟩ = some (.bool yg)))) (by kernel_rfl) ?_ (fun hHeld => ?_)
          · (first | exact F6.out | exact F5.out | exact F4.out)
          refine wpAnyH_take (i := 0) (v := ?vz22) rfl (by kernel_rfl) (by kernel_rfl) (by kernel_rfl) (fun _ _ _ h => h) (Or.inl ⟨?wz22, ?yz22⟩) (by assumption) ?rz22
          case yz22 => (intro w hSw; (try dsimp only at hSw); go_simp; try with_reducible rfl)
          case wz22 => rfl
          case' rz22 => simp only [Act.put, List.getElem_toArray, List.getElem_cons_zero, List.setIfInBounds_toArray, List.set_cons_zero, List.set_cons_succ]
          refine wpAnyH_take (i := 1) (v := ?vz23) rfl (by kernel_rfl) (by kernel_rfl) (by kernel_rfl) (fun _ _ _ h => h) (Or.inl ⟨?wz23, ?yz23⟩) (by assumption) ?rz23
          case yz23 => (intro w hSw; (try dsimp only at hSw); go_simp; try with_reducible rfl)
          case wz23 => rfl
          case' rz23 => simp only [Act.put, List.getElem_toArray, List.getElem_cons_zero, List.getElem_cons_succ, List.setIfInBounds_toArray, List.set_cons_zero, List.set_cons_succ]
          refine wpAnyH_take (i := 2) (v := ?vz24) rfl (by kernel_rfl) (by kernel_rfl) (by kernel_rfl) (fun _ _ _ h => h) (Or.inl ⟨?wz24, ?yz24⟩) (by assumption) ?rz24
          case yz24 => (intro w hSw; (try dsimp only at hSw); go_simp; try with_reducible rfl)
          case wz24 => rfl
          case' rz24 => simp only [Act.put, List.getElem_toArray, List.getElem_cons_zero, List.getElem_cons_succ, List.setIfInBounds_toArray, List.set_cons_zero, List.set_cons_succ]
          refine wpAnyH_take (i := 3) (v := ?vz25) rfl (by kernel_rfl) (by kernel_rfl) (by kernel_rfl) (fun _ _ _ h => h) (Or.inl ⟨?wz25, ?yz25⟩) (by assumption) ?rz25
          case yz25 => (intro w hSw; (try dsimp only at hSw); go_simp; try with_reducible rfl)
          case wz25 => rfl
          case' rz25 => simp only [Act.put, List.getElem_toArray, List.getElem_cons_zero, List.getElem_cons_succ, List.setIfInBounds_toArray, List.set_cons_zero, List.set_cons_succ]
          refine wpAnyH_take (i := 4) (v := ?vz26) rfl (by kernel_rfl) (by kernel_rfl) (by kernel_rfl) (fun _ _ _ h => h) (Or.inl ⟨?wz26, ?yz26⟩) (by assumption) ?rz26
          case yz26 => (intro w hSw; (try dsimp only at hSw); go_simp; try with_reducible rfl)
          case wz26 => rfl
          case' rz26 => simp only [Act.put, List.getElem_toArray, List.getElem_cons_zero, List.getElem_cons_succ, List.setIfInBounds_toArray, List.set_cons_zero, List.set_cons_succ]
          refine wpAnyH_take (i := 5) (v := ?vz27) rfl (by kernel_rfl) (by kernel_rfl) (by kernel_rfl) (fun _ _ _ h => h) (Or.inl ⟨?wz27, ?yz27⟩) (by assumption) ?rz27
          case yz27 => (intro w hSw; (try dsimp only at hSw); go_simp; try with_reducible rfl)
          case wz27 => rfl
          case' rz27 => simp only [Act.put, List.getElem_toArray, List.getElem_cons_zero, List.getElem_cons_succ, List.setIfInBounds_toArray, List.set_cons_zero, List.set_cons_succ]
          refine wpAnyH_take (i := 6) (v := ?vz28) rfl (by kernel_rfl) (by kernel_rfl) (by kernel_rfl) (fun _ _ _ h => h) (Or.inl ⟨?wz28, ?yz28⟩) (by assumption) ?rz28
          case yz28 => (intro w hSw; (try dsimp only at hSw); go_simp; try with_reducible rfl)
          case wz28 => rfl
          case' rz28 => simp only [Act.put, List.getElem_toArray, List.getElem_cons_zero, List.getElem_cons_succ, List.setIfInBounds_toArray, List.set_cons_zero, List.set_cons_succ]
          refine wpAnyH_take (i := 7) (v := ?vz29) rfl (by kernel_rfl) (by kernel_rfl) (by kernel_rfl) (fun _ _ _ h => h) (Or.inl ⟨?wz29, ?yz29⟩) (by assumption) ?rz29
          case yz29 => (intro w hSw; (try dsimp only at hSw); go_simp; try with_reducible rfl)
          case wz29 => rfl
          case' rz29 => simp only [Act.put, List.getElem_toArray, List.getElem_cons_zero, List.getElem_cons_succ, List.setIfInBounds_toArray, List.set_cons_zero, List.set_cons_succ]
          refine wpAnyH_take (i := 8) (v := ?vz30) rfl (by kernel_rfl) (by kernel_rfl) (by kernel_rfl) (fun _ _ _ h => h) (Or.inl ⟨?wz30, ?yz30⟩) (by assumption) ?rz30
          case yz30 => (intro w hSw; (try dsimp only at hSw); go_simp; try with_reducible rfl)
          case wz30 => rfl
          case' rz30 => simp only [Act.put, List.getElem_toArray, List.getElem_cons_zero, List.getElem_cons_succ, List.setIfInBounds_toArray, List.set_cons_zero, List.set_cons_succ]
          refine wpAnyH_take (i := 10) (v := ?vz31) rfl (by kernel_rfl) (by kernel_rfl) (by kernel_rfl) (fun _ _ _ h => h) (Or.inl ⟨?wz31, ?yz31⟩) (by assumption) ?rz31
          case yz31 => (intro w hSw; (try dsimp only at hSw); go_simp; try with_reducible rfl)
          case wz31 => rfl
          case' rz31 => simp only [Act.put, List.getElem_toArray, List.getElem_cons_zero, List.getElem_cons_succ, List.setIfInBounds_toArray, List.set_cons_zero, List.set_cons_succ]
          refine wpAnyH_take (i := 11) (v := ?vz32) rfl (by kernel_rfl) (by kernel_rfl) (by kernel_rfl) (fun _ _ _ h => h) (Or.inl ⟨?wz32, ?yz32⟩) (by assumption) ?rz32
          case yz32 => (intro w hSw; (try dsimp only at hSw); go_simp; try with_reducible rfl)
          case wz32 => rfl
          case' rz32 => simp only [Act.put, List.getElem_toArray, List.getElem_cons_zero, List.getElem_cons_succ, List.setIfInBounds_toArray, List.set_cons_zero, List.set_cons_succ]
          refine wpAnyH_ready (rs := [9]) (by kernel_rfl) (by simp) ?_
          refine AllReadyH.cons rfl (fun K hK => ?_) AllReadyH.nil
          try go_simp
          (go_at_call 24; refine (itemKey4 _ _ _ _ _).mono ?_; rintro e5 w5 ⟨rfl, hk5⟩; have F5 := F3.go F4 hk5; have K5 := Kept.go K4 hk5; clear hk5)
          try go_simp
          refine hK.out _ _ ?_ (fun hHeld => ?_)
          · (first | exact F6.out | exact F5.out | exact F4.out)
          clear hK K
          try simp only [Act.put, List.getElem_toArray, List.getElem_cons_zero, List.getElem_cons_succ, List.setIfInBounds_toArray, List.set_cons_zero, List.set_cons_succ]
          refine wpAnyH_ready (rs := [12]) (by kernel_rfl) (by simp) ?_
          refine AllReadyH.cons rfl (fun K hK => ?_) AllReadyH.nil
          try go_simp
          (go_at_call 24; refine (itemKey4 _ _ _ _ _).mono ?_; rintro e6 w6 ⟨rfl, hk6⟩; have F6 := F3.go F5 hk6; have K6 := Kept.go K5 hk6; clear hk6)
          try go_simp
          refine hK.out _ _ ?_ (fun hHeld => ?_)
          · (first | exact F6.out | exact F5.out | exact F4.out)
          clear hK K
          try simp only [Act.put, List.getElem_toArray, List.getElem_cons_zero, List.getElem_cons_succ, List.setIfInBounds_toArray, List.set_cons_zero, List.set_cons_succ]
          refine wpAnyH_take (i := 13) (v := ?vz33) rfl (by kernel_rfl) (by kernel_rfl) (by kernel_rfl) (fun _ _ _ h => h) (Or.inl ⟨?wz33, ?yz33⟩) (by assumption) ?rz33
          case yz33 => (intro w hSw; (try dsimp only at hSw); go_simp; try with_reducible rfl)
          case wz33 => rfl
          case' rz33 => simp only [Act.put, List.getElem_toArray, List.getElem_cons_zero, List.getElem_cons_succ, List.setIfInBounds_toArray, List.set_cons_zero, List.set_cons_succ]
          refine wpAnyH_take (i := 14) (v := ?vz34) rfl (by kernel_rfl) (by kernel_rfl) (by kernel_rfl) (fun _ _ _ h => h) (Or.inl ⟨?wz34, ?yz34⟩) (by assumption) ?rz34
          case yz34 => (intro w hSw; (try dsimp only at hSw); go_simp; try with_reducible rfl)
          case wz34 => rfl
          case' rz34 => simp only [Act.put, List.getElem_toArray, List.getElem_cons_zero, List.getElem_cons_succ, List.setIfInBounds_toArray, List.set_cons_zero, List.set_cons_succ]
          refine wpAnyH_take (i := 15) (v := ?vz35) rfl (by kernel_rfl) (by kernel_rfl) (by kernel_rfl) (fun _ _ _ h => h) (Or.inl ⟨?wz35, ?yz35⟩) (by assumption) ?rz35
          case yz35 => (intro w hSw; (try dsimp only at hSw); go_simp; try with_reducible rfl)
          case wz35 => rfl
          case' rz35 => simp only [Act.put, List.getElem_toArray, List.getElem_cons_zero, List.getElem_cons_succ, List.setIfInBounds_toArray, List.set_cons_zero, List.set_cons_succ]
          refine wpAnyH_take (i := 16) (v := undef) rfl (by kernel_rfl) (by kernel_rfl) (by kernel_rfl) (fun _ _ _ h => h) (Or.inr ⟨rfl, rfl⟩) (by assumption) ?_
          simp only [Act.put, List.getElem_toArray, List.getElem_cons_zero, List.getElem_cons_succ, List.setIfInBounds_toArray, List.set_cons_zero, List.set_cons_succ]
          refine wpAnyH_take (i := 17) (v := undef) rfl (by kernel_rfl) (by kernel_rfl) (by kernel_rfl) (fun _ _ _ h => h) (Or.inr ⟨rfl, rfl⟩) (by assumption) ?_
          simp only [Act.put, List.getElem_toArray, List.getElem_cons_zero, List.getElem_cons_succ, List.setIfInBounds_toArray, List.set_cons_zero, List.set_cons_succ]
          refine wpAnyH_take (i := 18) (v := undef) rfl (by kernel_rfl) (by kernel_rfl) (by kernel_rfl) (fun _ _ _ h => h) (Or.inr ⟨rfl, rfl⟩) (by assumption) ?_
          simp only [Act.put, List.getElem_toArray, List.getElem_cons_zero, List.getElem_cons_succ, List.setIfInBounds_toArray, List.set_cons_zero, List.set_cons_succ]
          refine wpAnyH_take (i := 19) (v := undef) rfl (by kernel_rfl) (by kernel_rfl) (by kernel_rfl) (fun _ _ _ h => h) (Or.inr ⟨rfl, rfl⟩) (by assumption) ?_
          simp only [Act.put, List.getElem_toArray, List.getElem_cons_zero, List.getElem_cons_succ, List.setIfInBounds_toArray, List.set_cons_zero, List.set_cons_succ]
          refine wpAnyH_take (i := 20) (v := undef) rfl (by kernel_rfl) (by kernel_rfl) (by kernel_rfl) (fun _ _ _ h => h) (Or.inr ⟨rfl, rfl⟩) (by assumption) ?_
          simp only [Act.put, List.getElem_toArray, List.getElem_cons_zero, List.getElem_cons_succ, List.setIfInBounds_toArray, List.set_cons_zero, List.set_cons_succ]
          refine wpAnyH_take (i := 21) (v := undef) rfl (by kernel_rfl) (by kernel_rfl) (by kernel_rfl) (fun _ _ _ h => h) (Or.inr ⟨rfl, rfl⟩) (by assumption) ?_
          simp only [Act.put, List.getElem_toArray, List.getElem_cons_zero, List.getElem_cons_succ, List.setIfInBounds_toArray, List.set_cons_zero, List.set_cons_succ]
          refine wpAnyH_take (i := 22) (v := ?vz42) rfl (by kernel_rfl) (by kernel_rfl) (by kernel_rfl) (fun _ _ _ h => h) (Or.inl ⟨?wz42, ?yz42⟩) (by assumption) ?rz42
          case yz42 => (intro w hSw; (try dsimp only at hSw); go_simp; try with_reducible rfl)
          case wz42 => rfl
          case' rz42 => simp only [Act.put, List.getElem_toArray, List.getElem_cons_zero, List.getElem_cons_succ, List.setIfInBounds_toArray, List.set_cons_zero, List.set_cons_succ]
          refine wpAnyH_done (by kernel_rfl) ?_ _
          go_wp2_with fail
          go_ret
          refine ⟨?_, K6.out⟩
          rw [← HR.out, rising_no1 HYK.out HXK.out HYX.out]
          rfl
        | true =>
          have HYX := Lib.hid hyx
          refine wp_region_held_drew (S := (fun W => (W.cell? ⟨w.heap.size, 0, none⟩ = some (.int .i64 lv) ∧ W.cell? ⟨w.heap.size, 1, none⟩ = some (.string lo) ∧ W.cell? ⟨w.heap.size, 2, none⟩ = some (.string hi) ∧ W.cell? ⟨w.heap.size, 3, none⟩ = some (.bool la) ∧ W.cell? ⟨w.heap.size, 4, none⟩ = some (.int .i64 sd) ∧ W.cell? ⟨w.heap.size, 5, none⟩ = some iv ∧ W.cell? ⟨w.heap.size, 6, none⟩ = some kv) ∧ (W.cell? ⟨xb, 0, none⟩ = some (.string xk) ∧ W.cell? ⟨xb, 1, none⟩ = some (.string xv) ∧ W.cell? ⟨xb, 2, none⟩ = some (.int .i64 xn) ∧ W.cell? ⟨xb, 3, none⟩ = some (.bool xg)) ∧ (W.cell? ⟨b, off + j * 4, none⟩ = some (.string yk) ∧ W.cell? ⟨b, off + j * 4 + 1, none⟩ = some (.string yv) ∧ W.cell? ⟨b, off + j * 4 + 2, none⟩ = some (.int .i64 yn) ∧ W.cell? ⟨b, off + j * 4 + 3, none⟩ = some (.bool yg)))) (by kernel_rfl) ?_ (fun hHeld => ?_)
          · (first | exact F8.out | exact F7.out | exact F6.out | exact F5.out | exact F4.out)
          refine wpAnyH_take (i := 0) (v := ?vz43) rfl (by kernel_rfl) (by kernel_rfl) (by kernel_rfl) (fun _ _ _ h => h) (Or.inl ⟨?wz43, ?yz43⟩) (by assumption) ?rz43
          case yz43 => (intro w hSw; (try dsimp only at hSw); go_simp; try with_reducible rfl)
          case wz43 => rfl
          case' rz43 => simp only [Act.put, List.getElem_toArray, List.getElem_cons_zero, List.setIfInBounds_toArray, List.set_cons_zero, List.set_cons_succ]
          refine wpAnyH_take (i := 1) (v := ?vz44) rfl (by kernel_rfl) (by kernel_rfl) (by kernel_rfl) (fun _ _ _ h => h) (Or.inl ⟨?wz44, ?yz44⟩) (by assumption) ?rz44
          case yz44 => (intro w hSw; (try dsimp only at hSw); go_simp; try with_reducible rfl)
          case wz44 => rfl
          case' rz44 => simp only [Act.put, List.getElem_toArray, List.getElem_cons_zero, List.getElem_cons_succ, List.setIfInBounds_toArray, List.set_cons_zero, List.set_cons_succ]
          refine wpAnyH_take (i := 2) (v := ?vz45) rfl (by kernel_rfl) (by kernel_rfl) (by kernel_rfl) (fun _ _ _ h => h) (Or.inl ⟨?wz45, ?yz45⟩) (by assumption) ?rz45
          case yz45 => (intro w hSw; (try dsimp only at hSw); go_simp; try with_reducible rfl)
          case wz45 => rfl
          case' rz45 => simp only [Act.put, List.getElem_toArray, List.getElem_cons_zero, List.getElem_cons_succ, List.setIfInBounds_toArray, List.set_cons_zero, List.set_cons_succ]
          refine wpAnyH_take (i := 3) (v := ?vz46) rfl (by kernel_rfl) (by kernel_rfl) (by kernel_rfl) (fun _ _ _ h => h) (Or.inl ⟨?wz46, ?yz46⟩) (by assumption) ?rz46
          case yz46 => (intro w hSw; (try dsimp only at hSw); go_simp; try with_reducible rfl)
          case wz46 => rfl
          case' rz46 => simp only [Act.put, List.getElem_toArray, List.getElem_cons_zero, List.getElem_cons_succ, List.setIfInBounds_toArray, List.set_cons_zero, List.set_cons_succ]
          refine wpAnyH_take (i := 4) (v := ?vz47) rfl (by kernel_rfl) (by kernel_rfl) (by kernel_rfl) (fun _ _ _ h => h) (Or.inl ⟨?wz47, ?yz47⟩) (by assumption) ?rz47
          case yz47 => (intro w hSw; (try dsimp only at hSw); go_simp; try with_reducible rfl)
          case wz47 => rfl
          case' rz47 => simp only [Act.put, List.getElem_toArray, List.getElem_cons_zero, List.getElem_cons_succ, List.setIfInBounds_toArray, List.set_cons_zero, List.set_cons_succ]
          refine wpAnyH_take (i := 5) (v := ?vz48) rfl (by kernel_rfl) (by kernel_rfl) (by kernel_rfl) (fun _ _ _ h => h) (Or.inl ⟨?wz48, ?yz48⟩) (by assumption) ?rz48
          case yz48 => (intro w hSw; (try dsimp only at hSw); go_simp; try with_reducible rfl)
          case wz48 => rfl
          case' rz48 => simp only [Act.put, List.getElem_toArray, List.getElem_cons_zero, List.getElem_cons_succ, List.setIfInBounds_toArray, List.set_cons_zero, List.set_cons_succ]
          refine wpAnyH_take (i := 6) (v := ?vz49) rfl (by kernel_rfl) (by kernel_rfl) (by kernel_rfl) (fun _ _ _ h => h) (Or.inl ⟨?wz49, ?yz49⟩) (by assumption) ?rz49
          case yz49 => (intro w hSw; (try dsimp only at hSw); go_simp; try with_reducible rfl)
          case wz49 => rfl
          case' rz49 => simp only [Act.put, List.getElem_toArray, List.getElem_cons_zero, List.getElem_cons_succ, List.setIfInBounds_toArray, List.set_cons_zero, List.set_cons_succ]
          refine wpAnyH_take (i := 7) (v := ?vz50) rfl (by kernel_rfl) (by kernel_rfl) (by kernel_rfl) (fun _ _ _ h => h) (Or.inl ⟨?wz50, ?yz50⟩) (by assumption) ?rz50
          case yz50 => (intro w hSw; (try dsimp only at hSw); go_simp; try with_reducible rfl)
          case wz50 => rfl
          case' rz50 => simp only [Act.put, List.getElem_toArray, List.getElem_cons_zero, List.getElem_cons_succ, List.setIfInBounds_toArray, List.set_cons_zero, List.set_cons_succ]
          refine wpAnyH_take (i := 8) (v := ?vz51) rfl (by kernel_rfl) (by kernel_rfl) (by kernel_rfl) (fun _ _ _ h => h) (Or.inl ⟨?wz51, ?yz51⟩) (by assumption) ?rz51
          case yz51 => (intro w hSw; (try dsimp only at hSw); go_simp; try with_reducible rfl)
          case wz51 => rfl
          case' rz51 => simp only [Act.put, List.getElem_toArray, List.getElem_cons_zero, List.getElem_cons_succ, List.setIfInBounds_toArray, List.set_cons_zero, List.set_cons_succ]
          refine wpAnyH_take (i := 10) (v := ?vz52) rfl (by kernel_rfl) (by kernel_rfl) (by kernel_rfl) (fun _ _ _ h => h) (Or.inl ⟨?wz52, ?yz52⟩) (by assumption) ?rz52
          case yz52 => (intro w hSw; (try dsimp only at hSw); go_simp; try with_reducible rfl)
          case wz52 => rfl
          case' rz52 => simp only [Act.put, List.getElem_toArray, List.getElem_cons_zero, List.getElem_cons_succ, List.setIfInBounds_toArray, List.set_cons_zero, List.set_cons_succ]
          refine wpAnyH_take (i := 11) (v := ?vz53) rfl (by kernel_rfl) (by kernel_rfl) (by kernel_rfl) (fun _ _ _ h => h) (Or.inl ⟨?wz53, ?yz53⟩) (by assumption) ?rz53
          case yz53 => (intro w hSw; (try dsimp only at hSw); go_simp; try with_reducible rfl)
          case wz53 => rfl
          case' rz53 => simp only [Act.put, List.getElem_toArray, List.getElem_cons_zero, List.getElem_cons_succ, List.setIfInBounds_toArray, List.set_cons_zero, List.set_cons_succ]
          refine wpAnyH_ready (rs := [9]) (by kernel_rfl) (by simp) ?_
          refine AllReadyH.cons rfl (fun K hK => ?_) AllReadyH.nil
          try go_simp
          (go_at_call 24; refine (itemKey4 _ _ _ _ _).mono ?_; rintro e5 w5 ⟨rfl, hk5⟩; have F5 := F3.go F4 hk5; have K5 := Kept.go K4 hk5; clear hk5)
          try go_simp
          refine hK.out _ _ ?_ (fun hHeld => ?_)
          · (first | exact F8.out | exact F7.out | exact F6.out | exact F5.out | exact F4.out)
          clear hK K
          try simp only [Act.put, List.getElem_toArray, List.getElem_cons_zero, List.getElem_cons_succ, List.setIfInBounds_toArray, List.set_cons_zero, List.set_cons_succ]
          refine wpAnyH_ready (rs := [12]) (by kernel_rfl) (by simp) ?_
          refine AllReadyH.cons rfl (fun K hK => ?_) AllReadyH.nil
          try go_simp
          (go_at_call 24; refine (itemKey4 _ _ _ _ _).mono ?_; rintro e6 w6 ⟨rfl, hk6⟩; have F6 := F3.go F5 hk6; have K6 := Kept.go K5 hk6; clear hk6)
          try go_simp
          refine hK.out _ _ ?_ (fun hHeld => ?_)
          · (first | exact F8.out | exact F7.out | exact F6.out | exact F5.out | exact F4.out)
          clear hK K
          try simp only [Act.put, List.getElem_toArray, List.getElem_cons_zero, List.getElem_cons_succ, List.setIfInBounds_toArray, List.set_cons_zero, List.set_cons_succ]
          refine wpAnyH_take (i := 13) (v := ?vz54) rfl (by kernel_rfl) (by kernel_rfl) (by kernel_rfl) (fun _ _ _ h => h) (Or.inl ⟨?wz54, ?yz54⟩) (by assumption) ?rz54
          case yz54 => (intro w hSw; (try dsimp only at hSw); go_simp; try with_reducible rfl)
          case wz54 => rfl
          case' rz54 => simp only [Act.put, List.getElem_toArray, List.getElem_cons_zero, List.getElem_cons_succ, List.setIfInBounds_toArray, List.set_cons_zero, List.set_cons_succ]
          refine wpAnyH_take (i := 14) (v := ?vz55) rfl (by kernel_rfl) (by kernel_rfl) (by kernel_rfl) (fun _ _ _ h => h) (Or.inl ⟨?wz55, ?yz55⟩) (by assumption) ?rz55
          case yz55 => (intro w hSw; (try dsimp only at hSw); go_simp; try with_reducible rfl)
          case wz55 => rfl
          case' rz55 => simp only [Act.put, List.getElem_toArray, List.getElem_cons_zero, List.getElem_cons_succ, List.setIfInBounds_toArray, List.set_cons_zero, List.set_cons_succ]
          refine wpAnyH_take (i := 15) (v := ?vz56) rfl (by kernel_rfl) (by kernel_rfl) (by kernel_rfl) (fun _ _ _ h => h) (Or.inl ⟨?wz56, ?yz56⟩) (by assumption) ?rz56
          case yz56 => (intro w hSw; (try dsimp only at hSw); go_simp; try with_reducible rfl)
          case wz56 => rfl
          case' rz56 => simp only [Act.put, List.getElem_toArray, List.getElem_cons_zero, List.getElem_cons_succ, List.setIfInBounds_toArray, List.set_cons_zero, List.set_cons_succ]
          refine wpAnyH_take (i := 16) (v := ?vz57) rfl (by kernel_rfl) (by kernel_rfl) (by kernel_rfl) (fun _ _ _ h => h) (Or.inl ⟨?wz57, ?yz57⟩) (by assumption) ?rz57
          case yz57 => (intro w hSw; (try dsimp only at hSw); go_simp; try with_reducible rfl)
          case wz57 => rfl
          case' rz57 => simp only [Act.put, List.getElem_toArray, List.getElem_cons_zero, List.getElem_cons_succ, List.setIfInBounds_toArray, List.set_cons_zero, List.set_cons_succ]
          refine wpAnyH_take (i := 17) (v := ?vz58) rfl (by kernel_rfl) (by kernel_rfl) (by kernel_rfl) (fun _ _ _ h => h) (Or.inl ⟨?wz58, ?yz58⟩) (by assumption) ?rz58
          case yz58 => (intro w hSw; (try dsimp only at hSw); go_simp; try with_reducible rfl)
          case wz58 => rfl
          case' rz58 => simp only [Act.put, List.getElem_toArray, List.getElem_cons_zero, List.getElem_cons_succ, List.setIfInBounds_toArray, List.set_cons_zero, List.set_cons_succ]
          refine wpAnyH_take (i := 18) (v := ?vz59) rfl (by kernel_rfl) (by kernel_rfl) (by kernel_rfl) (fun _ _ _ h => h) (Or.inl ⟨?wz59, ?yz59⟩) (by assumption) ?rz59
          case yz59 => (intro w hSw; (try dsimp only at hSw); go_simp; try with_reducible rfl)
          case wz59 => rfl
          case' rz59 => simp only [Act.put, List.getElem_toArray, List.getElem_cons_zero, List.getElem_cons_succ, List.setIfInBounds_toArray, List.set_cons_zero, List.set_cons_succ]
          refine wpAnyH_ready (rs := [19]) (by kernel_rfl) (by simp) ?_
          refine AllReadyH.cons rfl (fun K hK => ?_) AllReadyH.nil
          try go_simp
          (go_at_call 24; refine (itemKey4 _ _ _ _ _).mono ?_; rintro e7 w7 ⟨rfl, hk7⟩; have F7 := F3.go F6 hk7; have K7 := Kept.go K6 hk7; clear hk7)
          try go_simp
          refine hK.out _ _ ?_ (fun hHeld => ?_)
          · (first | exact F8.out | exact F7.out | exact F6.out | exact F5.out | exact F4.out)
          clear hK K
          try simp only [Act.put, List.getElem_toArray, List.getElem_cons_zero, List.getElem_cons_succ, List.setIfInBounds_toArray, List.set_cons_zero, List.set_cons_succ]
          refine wpAnyH_ready (rs := [20]) (by kernel_rfl) (by simp) ?_
          refine AllReadyH.cons rfl (fun K hK => ?_) AllReadyH.nil
          try go_simp
          (go_at_call 12; refine (hcv1 _).mono ?_; rintro e8 w8 ⟨rfl, hk8⟩; have F8 := F3.go F7 hk8; have K8 := Kept.go K7 hk8; clear hk8)
          try go_simp
          refine hK.out _ _ ?_ (fun hHeld => ?_)
          · (first | exact F8.out | exact F7.out | exact F6.out | exact F5.out | exact F4.out)
          clear hK K
          try simp only [Act.put, List.getElem_toArray, List.getElem_cons_zero, List.getElem_cons_succ, List.setIfInBounds_toArray, List.set_cons_zero, List.set_cons_succ]
          refine wpAnyH_take (i := 21) (v := ?vz60) rfl (by kernel_rfl) (by kernel_rfl) (by kernel_rfl) (fun _ _ _ h => h) (Or.inl ⟨?wz60, ?yz60⟩) (by assumption) ?rz60
          case yz60 => (intro w hSw; (try dsimp only at hSw); go_simp; try with_reducible rfl)
          case wz60 => rfl
          case' rz60 => simp only [Act.put, List.getElem_toArray, List.getElem_cons_zero, List.getElem_cons_succ, List.setIfInBounds_toArray, List.set_cons_zero, List.set_cons_succ]
          refine wpAnyH_take (i := 22) (v := ?vz61) rfl (by kernel_rfl) (by kernel_rfl) (by kernel_rfl) (fun _ _ _ h => h) (Or.inl ⟨?wz61, ?yz61⟩) (by assumption) ?rz61
          case yz61 => (intro w hSw; (try dsimp only at hSw); go_simp; try with_reducible rfl)
          case wz61 => rfl
          case' rz61 => simp only [Act.put, List.getElem_toArray, List.getElem_cons_zero, List.getElem_cons_succ, List.setIfInBounds_toArray, List.set_cons_zero, List.set_cons_succ]
          refine wpAnyH_done (by kernel_rfl) ?_ _
          cases cb with
          | false =>
            go_wp2_with fail
            go_ret
            refine ⟨?_, K8.out⟩
            rw [← HR.out, rising_no2 HXK.out HCB.out]
            rfl
          | true =>
            go_wp2_with fail
            go_roundw
            case measure => simp [intOf]; omega
            case rel =>
              refine ⟨j + 1 + 1, by omega, by simp, K8, Lib.hid F8.out.1, Lib.hid (sorted_step SO.out HXK.out (prev_lt HYK.out HYX.out)), Lib.hid fun i x hi hx => ?_⟩
              rcases Nat.lt_succ_iff_lt_or_eq.1 hi with h1 | h1
              · exact CO.out i x h1 hx
              · subst h1
                rw [HXK.out] at hx
                injection hx with hx
                rw [← hx]
                exact HCB.out
    · have hltz : ¬ (k : Int) < (l.length : Int) := by omega
      go_wp2_with fail
      go_ret
      refine ⟨?_, BW.out⟩
      have hkl : (l.map (·.key)).take k = l.map (·.key) := List.take_of_length_le (by simp; omega)
      have hso := SO.out
      rw [hkl] at hso
      rw [← HR.out, rising_yes hso fun j x hx => CO.out j x (by have := (List.getElem?_eq_some_iff.1 hx).1; simp at this; omega) hx]
      rfl
end Ytfoolgojcmkdbaa
end Go.Proofs
