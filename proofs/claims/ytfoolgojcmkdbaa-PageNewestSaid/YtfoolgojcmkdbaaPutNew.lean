/-
  Put of an item whose key is new.
-/
import Derived.Test.YtfoolgojcmkdbaaOwn
import Derived.Test.YtfoolgojcmkdbaaCheck
import Derived.Test.YtfoolgojcmkdbaaCheckLaws
import Derived.Test.YtfoolgojcmkdbaaBin
set_option maxHeartbeats 8000000
set_option maxRecDepth 100000
namespace Go.Proofs
open Go.RowKit
namespace Ytfoolgojcmkdbaa
attribute [local go_sem ↓] Go.wp_at_zero Go.wp_at_succ
def zpage : Array Value := #[.int .i64 0, .string ⟨#[]⟩, .string ⟨#[]⟩, .bool false, .int .i64 0, .slice none 0 0, .slice none 0 0]
/-- What is asked of slices.Insert: one item, at a place. -/
def InsertAt (l : List Item) (i : Nat) (x : Item) : Prop :=
  ∀ (W : World) (base : Nat) (A : Option Addr) (c vb : Nat), ItO W base (.slice A l.length c) l → Blk W vb 30 (ics x).toArray → (∀ g, (Value.slice A l.length c).ownBlock = some g → g ≠ vb) → base ≤ W.heap.size →
    Calls Try.prog 26 #[.slice A l.length c, .int .i64 i, .slice (some ⟨vb, 0, none⟩) 1 1] W fun e w' => ∃ A' c', e = .returned (.slice A' (l.length + 1) c') ∧ Hid (ItO w' base (.slice A' (l.length + 1) c') (l.take i ++ x :: l.drop i)) ∧
      Hid (∀ g, (Value.slice A' (l.length + 1) c').ownBlock = some g → (Value.slice A l.length c).ownBlock = some g ∨ W.heap.size ≤ g) ∧ Kept (fun b => (Value.slice A l.length c).ownBlock ≠ some b) W w'
theorem put_new (p : Page) (x : Item) {iA kA : Option Addr} {ic kc : Nat} (w : World) (hi : ItR w (.slice iA p.items.length ic) p.items) (hk : KdR w (.slice kA p.kids.length kc) p.kids) (hbad : badItem x = false) (hck : check p = true) (hlv : p.level = 0) (hcov : covers p x.key = true) (hlen : p.items.length < 120)
    {i0 : Nat} (hat : At (p.items.map (·.key)) x.key i0 false) (hins : InsertAt p.items i0 x) :
    Calls Try.prog 9 #[pv p (.slice iA p.items.length ic) (.slice kA p.kids.length kc), .agg (ics x).toArray] w fun e w' => ∃ A c A' c', e = .returned (.tuple #[pv p (.slice A (p.items.length + 1) c) (.slice A' p.kids.length c'), .int .i64 0]) ∧
      Hid (ItO w' w.heap.size (.slice A (p.items.length + 1) c) (p.items.take i0 ++ x :: p.items.drop i0)) ∧ Hid (KdO w' w.heap.size (.slice A' p.kids.length c') p.kids) ∧ Kept (fun _ => True) w w' := by
  have hkl : p.kids.length = 0 := by
    rw [((check_iff.1 hck).2.1 hlv).kids]
    rfl
  have h16 : ∀ W, Calls Try.prog 16 #[.agg (ics x).toArray] W fun e w' => e = .returned (.int .i64 0) ∧ Kept (fun _ => True) W w' := fun W => by
    have := checkItem_any x W
    rw [hbad] at this
    exact this
  have h7 : ∀ W, Kept (fun _ => True) w W → Calls Try.prog 7 #[pv p (.slice iA p.items.length ic) (.slice kA p.kids.length kc)] W fun e w' => e = .returned (.int .i64 0) ∧ Kept (fun _ => True) W w' := fun W hW => by
    have := check_any p W (hi.all hW) (hk.all hW) (by omega) (by omega)
    rw [hck] at this
    exact this
  have h23 : ∀ W, Kept (fun _ => True) w W → Calls Try.prog 23 #[.slice iA p.items.length ic, .string x.key, .func (.func 24) #[] #[]] W fun e w' => e = .returned (.tuple #[.int .i64 i0, .bool false]) ∧ Kept (fun _ => True) W w' := fun W hW =>
    (placeItem_any x.key W (hi.all hW) (check_sortedI hck) (by omega)).mono fun e w' ⟨i, f, he, ha, hk⟩ => by
      obtain ⟨rfl, rfl⟩ := At.same ha.out hat
      exact ⟨he, hk⟩
  have h12 : ∀ W, Calls Try.prog 12 #[pv p (.slice iA p.items.length ic) (.slice kA p.kids.length kc), .string x.key] W fun e w' => e = .returned (.bool true) ∧ Kept (fun _ => True) W w' := fun W => by
    have := covers_any p (.slice iA p.items.length ic) (.slice kA p.kids.length kc) x.key W
    rw [hcov] at this
    exact this
  have h25 : ∀ W, Kept (fun _ => True) w W → Calls Try.prog 25 #[pv p (.slice iA p.items.length ic) (.slice kA p.kids.length kc)] W fun e w' => ∃ A c A' c', e = .returned (pv p (.slice A p.items.length c) (.slice A' p.kids.length c')) ∧ Hid (ItO w' W.heap.size (.slice A p.items.length c) p.items) ∧ Hid (KdO w' W.heap.size (.slice A' p.kids.length c') p.kids) ∧ Kept (fun _ => True) W w' := fun W hW =>
    (own_any p W (hi.all hW) (hk.all hW) (by omega) (by omega)).mono fun e w' ⟨iv, kv, he, ho, hq, hkk⟩ => by
      obtain ⟨A, c, rfl⟩ := ho.out.form
      obtain ⟨A', c', rfl⟩ := hq.out.form
      exact ⟨A, c, A', c', he, ho, hq, hkk⟩
  have HINS := Lib.hid hins
  clear hi hk hbad hck hcov hins hat
  obtain ⟨lv, lo, hi, la, sd, il, kl⟩ := p
  simp only at hlv hlen hkl
  subst hlv
  obtain ⟨xk, xv, xn, xg⟩ := x
  unfold pv ics at *
  simp only at *
  rw [hkl] at h7 h12 h25 ⊢
  generalize hn : il.length = n at h7 h12 h25 h23 hlen ⊢
  have HN := Lib.hid hn
  clear hkl hn
  have k0 : Kept (fun _ => True) w (((w.alloc (.cells #[.int .i64 0, .string lo, .string hi, .bool la, .int .i64 sd, .slice iA n ic, .slice kA 0 kc] 25)).alloc (.cells #[.string xk, .string xv, .int .i64 xn, .bool xg] 30)).alloc (.cells #[.int .i64 0, .string ⟨#[]⟩, .string ⟨#[]⟩, .bool false, .int .i64 0, .slice none 0 0, .slice none 0 0] 25)) := (((Kept.refl _ w).alloc _).alloc _).alloc _
  have hs1 : (w.alloc (.cells #[.int .i64 0, .string lo, .string hi, .bool la, .int .i64 sd, .slice iA n ic, .slice kA 0 kc] 25)).heap.size = w.heap.size + 1 := by simp
  have hs2 : ((w.alloc (.cells #[.int .i64 0, .string lo, .string hi, .bool la, .int .i64 sd, .slice iA n ic, .slice kA 0 kc] 25)).alloc (.cells #[.string xk, .string xv, .int .i64 xn, .bool xg] 30)).heap.size = w.heap.size + 1 + 1 := by simp
  have hs3 : (((w.alloc (.cells #[.int .i64 0, .string lo, .string hi, .bool la, .int .i64 sd, .slice iA n ic, .slice kA 0 kc] 25)).alloc (.cells #[.string xk, .string xv, .int .i64 xn, .bool xg] 30)).alloc (.cells #[.int .i64 0, .string ⟨#[]⟩, .string ⟨#[]⟩, .bool false, .int .i64 0, .slice none 0 0, .slice none 0 0] 25)).heap.size = w.heap.size + 1 + 1 + 1 := by simp
  have hB := ((Blk.new w 25 #[.int .i64 0, .string lo, .string hi, .bool la, .int .i64 sd, .slice iA n ic, .slice kA 0 kc]).alloc (.cells #[.string xk, .string xv, .int .i64 xn, .bool xg] 30)).alloc (.cells #[.int .i64 0, .string ⟨#[]⟩, .string ⟨#[]⟩, .bool false, .int .i64 0, .slice none 0 0, .slice none 0 0] 25)
  have hX := (Blk.new (w.alloc (.cells #[.int .i64 0, .string lo, .string hi, .bool la, .int .i64 sd, .slice iA n ic, .slice kA 0 kc] 25)) 30 #[.string xk, .string xv, .int .i64 xn, .bool xg]).alloc (.cells #[.int .i64 0, .string ⟨#[]⟩, .string ⟨#[]⟩, .bool false, .int .i64 0, .slice none 0 0, .slice none 0 0] 25)
  rw [hs1] at hX
  have hZ := Blk.new ((w.alloc (.cells #[.int .i64 0, .string lo, .string hi, .bool la, .int .i64 sd, .slice iA n ic, .slice kA 0 kc] 25)).alloc (.cells #[.string xk, .string xv, .int .i64 xn, .bool xg] 30)) 25 #[.int .i64 0, .string ⟨#[]⟩, .string ⟨#[]⟩, .bool false, .int .i64 0, .slice none 0 0, .slice none 0 0]
  rw [hs2] at hZ
  have K0 := Lib.hid k0
  have HB := Lib.hid hB
  have HX := Lib.hid hX
  have HZ := Lib.hid hZ
  have HS := Lib.hid hs3
  clear k0 hB hX hZ hs1 hs2 hs3
  go_enter Try.func9, Try.ntmps9
  go_wp2_with fail
  generalize ((w.alloc (.cells #[.int .i64 0, .string lo, .string hi, .bool la, .int .i64 sd, .slice iA n ic, .slice kA 0 kc] 25)).alloc (.cells #[.string xk, .string xv, .int .i64 xn, .bool xg] 30)).alloc (.cells #[.int .i64 0, .string ⟨#[]⟩, .string ⟨#[]⟩, .bool false, .int .i64 0, .slice none 0 0, .slice none 0 0] 25) = W0 at K0 HB HX HZ HS ⊢
  refine (h16 _).mono ?_
  rintro e w1 ⟨rfl, hk1⟩
  have K1 := Lib.hid (K0.out.trans hk1)
  have HB1 := HB.out.kept hk1 trivial
  have b0 := HB1.cell 0
  have b1 := HB1.cell 1
  have b2 := HB1.cell 2
  have b3 := HB1.cell 3
  have b4 := HB1.cell 4
  have b5 := HB1.cell 5
  have b6 := HB1.cell 6
  go_wp2_with fail
  clear b0 b1 b2 b3 b4 b5 b6
  refine (h7 _ K1.out).mono ?_
  rintro e w2 ⟨rfl, hk2⟩
  have K2 := Lib.hid (K1.out.trans hk2)
  have hk02 := hk1.trans hk2
  have b5 := (HB.out.kept hk02 trivial).cell 5
  have x0 := (HX.out.kept hk02 trivial).cell 0
  clear hk1 hk2 HB1
  go_wp2_with fail
  clear b5 x0
  refine (h23 _ K2.out).mono ?_
  rintro e w3 ⟨rfl, hk3⟩
  have K3 := Lib.hid (K2.out.trans hk3)
  have hk03 := hk02.trans hk3
  have HB3 := HB.out.kept hk03 trivial
  have b0 := HB3.cell 0
  have b1 := HB3.cell 1
  have b2 := HB3.cell 2
  have b3 := HB3.cell 3
  have b4 := HB3.cell 4
  have b5 := HB3.cell 5
  have b6 := HB3.cell 6
  have x0 := (HX.out.kept hk03 trivial).cell 0
  clear hk02 hk3
  go_wp2_with fail
  clear b0 b1 b2 b3 b4 b5 b6 x0 HB3
  refine (h12 _).mono ?_
  rintro e w4 ⟨rfl, hk4⟩
  have K4 := Lib.hid (K3.out.trans hk4)
  have hk04 := Lib.hid (hk03.trans hk4)
  have b5 := (HB.out.kept hk04.out trivial).cell 5
  have hlz : decide ((120 : Int) ≤ (n : Int)) = false := by simp; omega
  clear hk03 hk4
  go_upto_region 10 with fail
  refine wp_region_held_drew (S := (fun _ => True)) (by kernel_rfl) ?_ (fun hHeld => ?_)
  · trivial
  refine wpAnyH_take (i := 0) (v := ?vz1) rfl (by kernel_rfl) (by kernel_rfl) (by kernel_rfl) (fun _ _ _ h => h) (Or.inl ⟨?wz1, ?yz1⟩) (by assumption) ?rz1
  case yz1 => (intro w hSw; (try dsimp only at hSw); go_simp; try with_reducible rfl)
  case wz1 => rfl
  case' rz1 => simp only [Act.put, List.getElem_toArray, List.getElem_cons_zero, List.setIfInBounds_toArray, List.set_cons_zero, List.set_cons_succ]
  refine wpAnyH_take (i := 1) (v := ?vz2) rfl (by kernel_rfl) (by kernel_rfl) (by kernel_rfl) (fun _ _ _ h => h) (Or.inl ⟨?wz2, ?yz2⟩) (by assumption) ?rz2
  case yz2 => (intro w hSw; (try dsimp only at hSw); go_simp; try with_reducible rfl)
  case wz2 => rfl
  case' rz2 => simp only [Act.put, List.getElem_toArray, List.getElem_cons_zero, List.getElem_cons_succ, List.setIfInBounds_toArray, List.set_cons_zero, List.set_cons_succ]
  refine wpAnyH_take (i := 2) (v := undef) rfl (by kernel_rfl) (by kernel_rfl) (by kernel_rfl) (fun _ _ _ h => h) (Or.inr ⟨rfl, rfl⟩) (by assumption) ?_
  simp only [Act.put, List.getElem_toArray, List.getElem_cons_zero, List.getElem_cons_succ, List.setIfInBounds_toArray, List.set_cons_zero, List.set_cons_succ]
  refine wpAnyH_take (i := 3) (v := undef) rfl (by kernel_rfl) (by kernel_rfl) (by kernel_rfl) (fun _ _ _ h => h) (Or.inr ⟨rfl, rfl⟩) (by assumption) ?_
  simp only [Act.put, List.getElem_toArray, List.getElem_cons_zero, List.getElem_cons_succ, List.setIfInBounds_toArray, List.set_cons_zero, List.set_cons_succ]
  refine wpAnyH_take (i := 4) (v := undef) rfl (by kernel_rfl) (by kernel_rfl) (by kernel_rfl) (fun _ _ _ h => h) (Or.inr ⟨rfl, rfl⟩) (by assumption) ?_
  simp only [Act.put, List.getElem_toArray, List.getElem_cons_zero, List.getElem_cons_succ, List.setIfInBounds_toArray, List.set_cons_zero, List.set_cons_succ]
  refine wpAnyH_take (i := 5) (v := undef) rfl (by kernel_rfl) (by kernel_rfl) (by kernel_rfl) (fun _ _ _ h => h) (Or.inr ⟨rfl, rfl⟩) (by assumption) ?_
  simp only [Act.put, List.getElem_toArray, List.getElem_cons_zero, List.getElem_cons_succ, List.setIfInBounds_toArray, List.set_cons_zero, List.set_cons_succ]
  refine wpAnyH_take (i := 6) (v := undef) rfl (by kernel_rfl) (by kernel_rfl) (by kernel_rfl) (fun _ _ _ h => h) (Or.inr ⟨rfl, rfl⟩) (by assumption) ?_
  simp only [Act.put, List.getElem_toArray, List.getElem_cons_zero, List.getElem_cons_succ, List.setIfInBounds_toArray, List.set_cons_zero, List.set_cons_succ]
  refine wpAnyH_take (i := 7) (v := undef) rfl (by kernel_rfl) (by kernel_rfl) (by kernel_rfl) (fun _ _ _ h => h) (Or.inr ⟨rfl, rfl⟩) (by assumption) ?_
  simp only [Act.put, List.getElem_toArray, List.getElem_cons_zero, List.getElem_cons_succ, List.setIfInBounds_toArray, List.set_cons_zero, List.set_cons_succ]
  refine wpAnyH_take (i := 8) (v := undef) rfl (by kernel_rfl) (by kernel_rfl) (by kernel_rfl) (fun _ _ _ h => h) (Or.inr ⟨rfl, rfl⟩) (by assumption) ?_
  simp only [Act.put, List.getElem_toArray, List.getElem_cons_zero, List.getElem_cons_succ, List.setIfInBounds_toArray, List.set_cons_zero, List.set_cons_succ]
  refine wpAnyH_take (i := 9) (v := undef) rfl (by kernel_rfl) (by kernel_rfl) (by kernel_rfl) (fun _ _ _ h => h) (Or.inr ⟨rfl, rfl⟩) (by assumption) ?_
  simp only [Act.put, List.getElem_toArray, List.getElem_cons_zero, List.getElem_cons_succ, List.setIfInBounds_toArray, List.set_cons_zero, List.set_cons_succ]
  refine wpAnyH_take (i := 10) (v := undef) rfl (by kernel_rfl) (by kernel_rfl) (by kernel_rfl) (fun _ _ _ h => h) (Or.inr ⟨rfl, rfl⟩) (by assumption) ?_
  simp only [Act.put, List.getElem_toArray, List.getElem_cons_zero, List.getElem_cons_succ, List.setIfInBounds_toArray, List.set_cons_zero, List.set_cons_succ]
  refine wpAnyH_take (i := 11) (v := ?vz12) rfl (by kernel_rfl) (by kernel_rfl) (by kernel_rfl) (fun _ _ _ h => h) (Or.inl ⟨?wz12, ?yz12⟩) (by assumption) ?rz12
  case yz12 => (intro w hSw; (try dsimp only at hSw); go_simp; try with_reducible rfl)
  case wz12 => rfl
  case' rz12 => simp only [Act.put, List.getElem_toArray, List.getElem_cons_zero, List.getElem_cons_succ, List.setIfInBounds_toArray, List.set_cons_zero, List.set_cons_succ]
  refine wpAnyH_take (i := 12) (v := ?vz13) rfl (by kernel_rfl) (by kernel_rfl) (by kernel_rfl) (fun _ _ _ h => h) (Or.inl ⟨?wz13, ?yz13⟩) (by assumption) ?rz13
  case yz13 => (intro w hSw; (try dsimp only at hSw); go_simp; try with_reducible rfl)
  case wz13 => rfl
  case' rz13 => simp only [Act.put, List.getElem_toArray, List.getElem_cons_zero, List.getElem_cons_succ, List.setIfInBounds_toArray, List.set_cons_zero, List.set_cons_succ]
  refine wpAnyH_done (by kernel_rfl) ?_ _
  clear b5 hlz
  have K5 := Lib.hid K4.out.drew
  have K05 : Hid (Kept (fun _ => True) W0 w4.drew) := Lib.hid hk04.out.drew
  clear hk04
  have HB5 := HB.out.kept K05.out trivial
  have b0 := HB5.cell 0
  have b1 := HB5.cell 1
  have b2 := HB5.cell 2
  have b3 := HB5.cell 3
  have b4 := HB5.cell 4
  have b5 := HB5.cell 5
  have b6 := HB5.cell 6
  go_wp2_with fail
  clear b0 b1 b2 b3 b4 b5 b6 HB5
  refine (h25 _ K5.out).mono ?_
  rintro e w6 ⟨A1, c1, A2, c2, rfl, HI, HK, hk6⟩
  have K6 := Lib.hid (K5.out.trans hk6)
  have hk06 := K05.out.trans hk6
  have hB6 := HB.out.kept hk06 trivial
  have hX6 := HX.out.kept hk06 trivial
  have hZ6 := HZ.out.kept hk06 trivial
  have hsz : w.heap.size + 3 ≤ w4.drew.heap.size := by
    have := K05.out.size
    have := HS.out
    omega
  have hsz6 : w4.drew.heap.size ≤ w6.heap.size := hk6.size
  have hV := set7_blk hB6 (.int .i64 0) (.string lo) (.string hi) (.bool la) (.int .i64 sd) (.slice A1 n c1) (.slice A2 0 c2)
  have kV := set7_kept w6 w.heap.size (.int .i64 0) (.string lo) (.string hi) (.bool la) (.int .i64 sd) (.slice A1 n c1) (.slice A2 0 c2)
  unfold set7 at hV kV
  have hX7 := hX6.kept kV (by show w.heap.size + 1 ≠ w.heap.size; omega)
  have hZ7 := hZ6.kept kV (by show w.heap.size + 1 + 1 ≠ w.heap.size; omega)
  have HI7 := Lib.hid (HI.out.kept kV fun g hg => by
    have := HI.out.lt hg
    show g ≠ w.heap.size
    omega)
  have HK7 := Lib.hid (HK.out.kept kV fun g hg => by
    have := HK.out.lt hg
    show g ≠ w.heap.size
    omega)
  have K7 := Lib.hid (K6.out.trans' kV fun b hb _ => by
    show b ≠ w.heap.size
    omega)
  have b0 := hB6.cell 0
  have b1 := hB6.cell 1
  have b2 := hB6.cell 2
  have b3 := hB6.cell 3
  have b4 := hB6.cell 4
  have b5 := hB6.cell 5
  have b6 := hB6.cell 6
  have f0 := hB6.frozen 0
  have f1 := hB6.frozen 1
  have f2 := hB6.frozen 2
  have f3 := hB6.frozen 3
  have f4 := hB6.frozen 4
  have f5 := hB6.frozen 5
  have f6 := hB6.frozen 6
  have HV := Lib.hid hV
  have HX7 := Lib.hid hX7
  have HZ7 := Lib.hid hZ7
  have HSZ := Lib.hid (Nat.le_trans hsz6 kV.size)
  clear hV kV hX7 hZ7 hB6 hX6 hZ6 hk06 hk6 h16 h7 h23 h12 h25
  go_upto_region 15 with fail
  generalize ((((((w6.setCell ⟨w.heap.size, 0, none⟩ (.int .i64 0)).setCell ⟨w.heap.size, 1, none⟩ (.string lo)).setCell ⟨w.heap.size, 2, none⟩ (.string hi)).setCell ⟨w.heap.size, 3, none⟩ (.bool la)).setCell ⟨w.heap.size, 4, none⟩ (.int .i64 sd)).setCell ⟨w.heap.size, 5, none⟩ (.slice A1 n c1)).setCell ⟨w.heap.size, 6, none⟩ (.slice A2 0 c2) = w7 at HV HX7 HZ7 HI7 HK7 K7 HSZ ⊢
  clear b0 b1 b2 b3 b4 b5 b6 f0 f1 f2 f3 f4 f5 f6
  have b5 := HV.out.cell 5
  have x0 := HX7.out.cell 0
  have x1 := HX7.out.cell 1
  have x2 := HX7.out.cell 2
  have x3 := HX7.out.cell 3
  have ka : Kept (fun _ => True) w7 (w7.alloc (.cells #[.string xk, .string xv, .int .i64 xn, .bool xg] 30)) := (Kept.refl _ w7).alloc _
  have hHI := HI.out
  have hins := HINS.out (w7.alloc (.cells #[.string xk, .string xv, .int .i64 xn, .bool xg] 30)) w4.drew.heap.size A1 c1 w7.heap.size (by rw [HN.out]; exact HI7.out.all ka) (Blk.new w7 30 _)
    (fun g hg => by
      rw [HN.out] at hg
      have := (HI7.out.lt hg).1
      omega) (by have := ka.size; have := HSZ.out; omega)
  rw [HN.out] at hins
  have hI7 := HI7.out
  have hown : ∀ b, b < w.heap.size + 3 → (Value.slice A1 n c1).ownBlock ≠ some b := fun b hb e => by
    have := (hI7.lt e).2
    omega
  have HOWN := Lib.hid hown
  have HVa := Lib.hid (HV.out.kept ka trivial)
  have HZa := Lib.hid (HZ7.out.kept ka trivial)
  have HKa := Lib.hid (HK7.out.all ka)
  have Ka := Lib.hid (K7.out.trans ka)
  have HSa := Lib.hid (Nat.le_trans HSZ.out ka.size)
  have HDIS : Hid (∀ g, (Value.slice A2 0 c2).ownBlock = some g → (Value.slice A1 n c1).ownBlock ≠ some g) := Lib.hid fun g hg e => by
    obtain ⟨_, h1⟩ := HK7.out.blk hg
    obtain ⟨_, h2⟩ := HI7.out.blk e
    exact Blk.ne_ h2 h1 (by decide) rfl
  clear ka hown hHI hI7
  go_wp2_with fail
  refine hins.mono ?_
  rintro e w9 ⟨A3, c3, rfl, HO9, HW9, hk9⟩
  have hB9 := HVa.out.kept hk9 (HOWN.out _ (by omega))
  have hZ9 := HZa.out.kept hk9 (HOWN.out _ (by omega))
  have HK9 := HKa.out.kept hk9 fun g hg => HDIS.out g hg
  have K9 := Lib.hid (Ka.out.trans' hk9 fun b hb _ => HOWN.out b (by omega))
  have hs9 : w.heap.size + 3 ≤ w9.heap.size := by
    have := hk9.size
    have := HSa.out
    omega
  have f5 := hB9.frozen 5
  have b5 := hB9.cell 5
  have hV := hB9.set_ 5 (.slice A3 (n + 1) c3)
  have kV : Kept (fun b => b ≠ w.heap.size) w9 (w9.setCell ⟨w.heap.size, 5, none⟩ (.slice A3 (n + 1) c3)) := (Kept.refl _ w9).setCell (fun _ h => h rfl) _
  have HZ10 := Lib.hid (hZ9.kept kV (by show w.heap.size + 1 + 1 ≠ w.heap.size; omega))
  have HO10 := Lib.hid (HO9.out.kept kV fun g hg => by
    have := (HO9.out.lt hg).2
    show g ≠ w.heap.size
    omega)
  have HK10 := Lib.hid (HK9.kept kV fun g hg => by
    have := (HK9.lt hg).2
    show g ≠ w.heap.size
    omega)
  have K10 := Lib.hid (K9.out.trans' kV fun b hb _ => by
    show b ≠ w.heap.size
    omega)
  have HV10 : Hid (Blk (w9.setCell ⟨w.heap.size, 5, none⟩ (.slice A3 (n + 1) c3)) w.heap.size 25 #[.int .i64 0, .string lo, .string hi, .bool la, .int .i64 sd, .slice A3 (n + 1) c3, .slice A2 0 c2]) := Lib.hid hV
  have HS10 := Lib.hid (Nat.le_trans hs9 kV.size)
  clear hB9 hZ9 HK9 hs9 hV kV hk9 hins x0 x1 x2 x3
  go_upto_region 16 with fail
  generalize w9.setCell ⟨w.heap.size, 5, none⟩ (.slice A3 (n + 1) c3) = w10 at HV10 HZ10 HO10 HK10 K10 HS10 ⊢
  clear b5 f5
  have b0 := HV10.out.cell 0
  have b1 := HV10.out.cell 1
  have b2 := HV10.out.cell 2
  have b3 := HV10.out.cell 3
  have b4 := HV10.out.cell 4
  have b5 := HV10.out.cell 5
  have b6 := HV10.out.cell 6
  have z0 := HZ10.out.cell 0
  have z1 := HZ10.out.cell 1
  have z2 := HZ10.out.cell 2
  have z3 := HZ10.out.cell 3
  have z4 := HZ10.out.cell 4
  have z5 := HZ10.out.cell 5
  have z6 := HZ10.out.cell 6
  have y0 := HZ10.out.frozen 0
  have y1 := HZ10.out.frozen 1
  have y2 := HZ10.out.frozen 2
  have y3 := HZ10.out.frozen 3
  have y4 := HZ10.out.frozen 4
  have y5 := HZ10.out.frozen 5
  have y6 := HZ10.out.frozen 6
  have hV := set7_blk HZ10.out (.int .i64 0) (.string lo) (.string hi) (.bool la) (.int .i64 sd) (.slice A3 (n + 1) c3) (.slice A2 0 c2)
  have kV := set7_kept w10 (w.heap.size + 1 + 1) (.int .i64 0) (.string lo) (.string hi) (.bool la) (.int .i64 sd) (.slice A3 (n + 1) c3) (.slice A2 0 c2)
  unfold set7 at hV kV
  have HV11 := Lib.hid hV
  have KV11 := Lib.hid kV
  clear hV kV
  go_wp2_with fail
  generalize ((((((w10.setCell ⟨w.heap.size + 1 + 1, 0, none⟩ (.int .i64 0)).setCell ⟨w.heap.size + 1 + 1, 1, none⟩ (.string lo)).setCell ⟨w.heap.size + 1 + 1, 2, none⟩ (.string hi)).setCell ⟨w.heap.size + 1 + 1, 3, none⟩ (.bool la)).setCell ⟨w.heap.size + 1 + 1, 4, none⟩ (.int .i64 sd)).setCell ⟨w.heap.size + 1 + 1, 5, none⟩ (.slice A3 (n + 1) c3)).setCell ⟨w.heap.size + 1 + 1, 6, none⟩ (.slice A2 0 c2) = w11 at HV11 KV11 ⊢
  clear b0 b1 b2 b3 b4 b5 b6 z0 z1 z2 z3 z4 z5 z6 y0 y1 y2 y3 y4 y5 y6
  have v0 := HV11.out.cell 0
  have v1 := HV11.out.cell 1
  have v2 := HV11.out.cell 2
  have v3 := HV11.out.cell 3
  have v4 := HV11.out.cell 4
  have v5 := HV11.out.cell 5
  have v6 := HV11.out.cell 6
  refine bodyPost_ret (v := .tuple #[.agg #[.int .i64 0, .string lo, .string hi, .bool la, .int .i64 sd, .slice A3 (n + 1) c3, .slice A2 0 c2], .int .i64 0]) ?_ rfl ⟨A3, c3, A2, c2, rfl, Lib.hid ((HO10.out.kept KV11.out fun g hg => ?_).low (by omega)), Lib.hid ((HK10.out.kept KV11.out fun g hg => ?_).low (by omega)), K10.out.trans' KV11.out fun b hb _ => by show b ≠ w.heap.size + 1 + 1; omega⟩
  · have hres : Try.f9.results = #[.cell 4 25, .tmp 5] := rfl
    unfold results
    rw [hres]
    go_simp
    try rfl
  · have := (HO10.out.lt hg).2
    show g ≠ w.heap.size + 1 + 1
    omega
  · have := (HK10.out.lt hg).2
    show g ≠ w.heap.size + 1 + 1
    omega
end Ytfoolgojcmkdbaa
end Go.Proofs
