/-
  Put of an item whose key is there, with a number that is less.
-/
import Derived.Test.YtfoolgojcmkdbaaInsMid
set_option maxHeartbeats 8000000
set_option maxRecDepth 100000
namespace Go.Proofs
open Go.RowKit
namespace Ytfoolgojcmkdbaa
attribute [local go_sem ↓] Go.wp_at_zero Go.wp_at_succ
/-- Four cells of a row, stored. -/
theorem upd_take {C : Array Value} {L : List Value} {N o : Nat} (hC : C.toList.take N = L) (hL : L.length = N) (ho : o + 4 ≤ N) (hN : N ≤ C.size) (a b c d : Value) :
    ((((C.setIfInBounds o a).setIfInBounds (o + 1) b).setIfInBounds (o + 2) c).setIfInBounds (o + 3) d).toList.take N = L.take o ++ ([a, b, c, d] ++ L.drop (o + 4)) := by
  apply List.ext_getElem?
  intro m
  have hLm : ∀ k, k < N → L[k]? = C[k]? := fun k hk => by rw [← hC, List.getElem?_take, if_pos hk, Array.getElem?_toList]
  have hlt : (L.take o).length = o := by rw [List.length_take, hL]; omega
  rw [List.getElem?_take, Array.getElem?_toList]
  simp only [Array.getElem?_setIfInBounds, Array.size_setIfInBounds]
  by_cases h1 : m < o
  · rw [List.getElem?_append_left (by rw [hlt]; exact h1), List.getElem?_take, if_pos h1, hLm m (by omega), if_pos (by omega), if_neg (by omega), if_neg (by omega), if_neg (by omega), if_neg (by omega)]
  · rw [List.getElem?_append_right (by rw [hlt]; omega), hlt]
    by_cases h2 : m < o + 4
    · rw [if_pos (by omega), List.getElem?_append_left (by simp; omega)]
      have : m = o ∨ m = o + 1 ∨ m = o + 2 ∨ m = o + 3 := by omega
      rcases this with rfl | rfl | rfl | rfl
      · have e : m - m = 0 := by omega
        rw [e, if_neg (by omega), if_neg (by omega), if_neg (by omega), if_pos rfl, if_pos (by omega)]
        rfl
      · have e : o + 1 - o = 1 := by omega
        rw [e, if_neg (by omega), if_neg (by omega), if_pos rfl, if_pos (by omega)]
        rfl
      · have e : o + 2 - o = 2 := by omega
        rw [e, if_neg (by omega), if_pos rfl, if_pos (by omega)]
        rfl
      · have e : o + 3 - o = 3 := by omega
        rw [e, if_pos rfl, if_pos (by omega)]
        rfl
    · rw [List.getElem?_append_right (by simp; omega), List.getElem?_drop]
      have e : o + 4 + (m - o - [a, b, c, d].length) = m := by simp; omega
      rw [e]
      by_cases h3 : m < N
      · rw [if_pos h3, hLm m h3, if_neg (by omega), if_neg (by omega), if_neg (by omega), if_neg (by omega)]
      · rw [if_neg h3, List.getElem?_eq_none (by omega)]
theorem set_cells (l : List Item) (x : Item) (i : Nat) (hi : i < l.length) : (l.set i x).flatMap ics = (l.flatMap ics).take (i * 4) ++ (ics x ++ (l.flatMap ics).drop (i * 4 + 4)) := by
  have e1 : (l.take i).flatMap ics = (l.flatMap ics).take (i * 4) := by
    have h1 : (l.take i).flatMap ics ++ (l.drop i).flatMap ics = l.flatMap ics := by rw [← List.flatMap_append, List.take_append_drop]
    rw [← h1]
    have h2 : ((l.take i).flatMap ics).length = i * 4 := by rw [flat_len encI, List.length_take, Nat.min_eq_left (Nat.le_of_lt hi)]
    rw [← h2]
    exact List.take_left.symm
  have e2 : (l.drop (i + 1)).flatMap ics = (l.flatMap ics).drop (i * 4 + 4) := by
    have h1 : (l.take (i + 1)).flatMap ics ++ (l.drop (i + 1)).flatMap ics = l.flatMap ics := by rw [← List.flatMap_append, List.take_append_drop]
    rw [← h1]
    have h2 : ((l.take (i + 1)).flatMap ics).length = i * 4 + 4 := by rw [flat_len encI, List.length_take, Nat.min_eq_left hi]; omega
    rw [← h2]
    exact List.drop_left.symm
  rw [List.set_eq_take_append_cons_drop, if_pos hi, List.flatMap_append, List.flatMap_cons, e1, e2]
/-- An own row, an element of it stored. -/
theorem set_row {W : World} {base g c : Nat} {l : List Item} (h : ItO W base (.slice (some ⟨g, 0, none⟩) l.length c) l) (x : Item) {i : Nat} (hi : i < l.length) :
    ∃ W', (((W.setCell ⟨g, i * 4, none⟩ (.string x.key)).setCell ⟨g, i * 4 + 1, none⟩ (.string x.val)).setCell ⟨g, i * 4 + 2, none⟩ (.int .i64 x.no)).setCell ⟨g, i * 4 + 3, none⟩ (.bool x.gone) = W' ∧
      ItO W' base (.slice (some ⟨g, 0, none⟩) l.length c) (l.set i x) ∧ Kept (fun b => b ≠ g) W W' := by
  refine ⟨_, rfl, ?_, ((((Kept.refl _ W).setCell (fun _ h => h rfl) _).setCell (fun _ h => h rfl) _).setCell (fun _ h => h rfl) _).setCell (fun _ h => h rfl) _⟩
  rcases h with ⟨h0, _⟩ | ⟨g', cap, cur, h0, hb, hg, hc, hcc, hm, ht⟩
  · cases h0
  · have h0' : g = g' ∧ c = cap := by
      injection h0 with h1 _ h3
      injection h1 with h1
      injection h1 with h1
      exact ⟨h1, h3⟩
    obtain ⟨rfl, rfl⟩ := h0'
    refine .inr ⟨g, c, _, by rw [List.length_set], hb, (((hg.set_ _ _).set_ _ _).set_ _ _).set_ _ _, by rw [List.length_set]; exact hc, by simpa using hcc, hm, ?_⟩
    rw [List.length_set, set_cells l x i hi]
    exact upd_take ht (flat_len encI l) (by omega) (by omega) _ _ _ _
theorem put_upd (p : Page) (x : Item) {iA kA : Option Addr} {ic kc : Nat} (w : World) (hi : ItR w (.slice iA p.items.length ic) p.items) (hk : KdR w (.slice kA p.kids.length kc) p.kids) (hbad : badItem x = false) (hck : check p = true) (hlv : p.level = 0) (hcov : covers p x.key = true) 
    {i0 : Nat} {y : Item} (hat : At (p.items.map (·.key)) x.key i0 true) (hy : p.items[i0]? = some y) (hno : y.no < x.no) :
    Calls Try.prog 9 #[pv p (.slice iA p.items.length ic) (.slice kA p.kids.length kc), .agg (ics x).toArray] w fun e w' => ∃ A c A' c', e = .returned (.tuple #[pv p (.slice A p.items.length c) (.slice A' p.kids.length c'), .int .i64 0]) ∧
      Hid (ItO w' w.heap.size (.slice A p.items.length c) (p.items.set i0 x)) ∧ Hid (KdO w' w.heap.size (.slice A' p.kids.length c') p.kids) ∧ Kept (fun _ => True) w w' := by
  have hkl : p.kids.length = 0 := by
    rw [((check_iff.1 hck).2.1 hlv).kids]
    rfl
  have hlen : p.items.length ≤ 120 := ((check_iff.1 hck).2.1 hlv).len
  have HY : Hid (∀ (W : World), Kept (fun _ => True) w W → ∃ b off, iA = some ⟨b, off, none⟩ ∧ (i0 : Int) < (p.items.length : Int) ∧ p.items.length ≤ ic ∧ W.cell? ⟨b, off + i0 * 4 + 2, none⟩ = some (.int .i64 y.no)) := Lib.hid fun W hW => by
    obtain ⟨b, off, h1, _, h2, _, _, h5, _⟩ := ItR.at_ (RdK.all hi hW) hy
    exact ⟨b, off, h1, by have := (List.getElem?_eq_some_iff.1 hy).1; omega, h2, h5⟩
  have h16 : ∀ W, Calls Try.prog 16 #[.agg (ics x).toArray] W fun e w' => e = .returned (.int .i64 0) ∧ Kept (fun _ => True) W w' := fun W => by
    have := checkItem_any x W
    rw [hbad] at this
    exact this
  have h7 : ∀ W, Kept (fun _ => True) w W → Calls Try.prog 7 #[pv p (.slice iA p.items.length ic) (.slice kA p.kids.length kc)] W fun e w' => e = .returned (.int .i64 0) ∧ Kept (fun _ => True) W w' := fun W hW => by
    have := check_any p W (hi.all hW) (hk.all hW) (by omega) (by omega)
    rw [hck] at this
    exact this
  have h23 : ∀ W, Kept (fun _ => True) w W → Calls Try.prog 23 #[.slice iA p.items.length ic, .string x.key, .func (.func 24) #[] #[]] W fun e w' => e = .returned (.tuple #[.int .i64 i0, .bool true]) ∧ Kept (fun _ => True) W w' := fun W hW =>
    (placeItem_any x.key W (hi.all hW) (check_sortedI hck) (by omega)).mono fun e w' ⟨i, f, he, ha, hk⟩ => by
      obtain ⟨rfl, rfl⟩ := At.same ha.out hat
      exact ⟨he, hk⟩
  have h12 : ∀ W, Calls Try.prog 12 #[pv p (.slice iA p.items.length ic) (.slice kA p.kids.length kc), .string x.key] W fun e w' => e = .returned (.bool true) ∧ Kept (fun _ => True) W w' := fun W => by
    have := covers_any p (.slice iA p.items.length ic) (.slice kA p.kids.length kc) x.key W
    rw [hcov] at this
    exact this
  have h25 : ∀ W, Kept (fun _ => True) w W → Calls Try.prog 25 #[pv p (.slice iA p.items.length ic) (.slice kA p.kids.length kc)] W fun e w' => ∃ A c A' c', e = .returned (pv p (.slice A p.items.length c) (.slice A' p.kids.length c')) ∧ Hid (ItO w' W.heap.size (.slice A p.items.length c) p.items) ∧ Hid (KdO w' W.heap.size (.slice A' p.kids.length c') p.kids) ∧ Kept (fun _ => True) W w' := fun W hW =>
    (own_any p W (hi.all hW) (hk.all hW) (by omega) (by omega)).mono fun e w' ⟨iv, kv, he, ho, hq, hkk⟩ => by
      obtain ⟨A, c, rfl⟩ := ho.out.form
      obtain ⟨A', c', rfl⟩ := hq.out.form
      exact ⟨A, c, A', c', he, ho, hq, hkk⟩
  have hi0l : i0 < p.items.length := (List.getElem?_eq_some_iff.1 hy).1
  clear hi hk hbad hck hcov hat hy
  obtain ⟨lv, lo, hi, la, sd, il, kl⟩ := p
  simp only at hlv hlen hkl HY
  subst hlv
  obtain ⟨xk, xv, xn, xg⟩ := x
  unfold pv ics at *
  simp only at *
  rw [hkl] at h7 h12 h25 ⊢
  generalize hn : il.length = n at h7 h12 h25 h23 hlen HY hi0l ⊢
  have HN := Lib.hid hn
  clear hkl hn
  generalize y.no = yn at HY hno
  have k0 : Kept (fun _ => True) w (((w.alloc (.cells #[.int .i64 0, .string lo, .string hi, .bool la, .int .i64 sd, .slice iA n ic, .slice kA 0 kc] 25)).alloc (.cells #[.string xk, .string xv, .int .i64 xn, .bool xg] 30)).alloc (.cells #[.int .i64 0, .string ⟨#[]⟩, .string ⟨#[]⟩, .bool false, .int .i64 0, .slice none 0 0, .slice none 0 0] 25)) := (((Kept.refl _ w).alloc _).alloc _).alloc _
  have hs1 : (w.alloc (.cells #[.int .i64 0, .string lo, .string hi, .bool la, .int .i64 sd, .slice iA n ic, .slice kA 0 kc] 25)).heap.size = w.heap.size + 1 := by simp
  have hs2 : ((w.alloc (.cells #[.int .i64 0, .string lo, .string hi, .bool la, .int .i64 sd, .slice iA n ic, .slice kA 0 kc] 25)).alloc (.cells #[.string xk, .string xv, .int .i64 xn, .bool xg] 30)).heap.size = w.heap.size + 1 + 1 := by simp
  have hs3 : (((w.alloc (.cells #[.int .i64 0, .string lo, .string hi, .bool la, .int .i64 sd, .slice iA n ic, .slice kA 0 kc] 25)).alloc (.cells #[.string xk, .string xv, .int .i64 xn, .bool xg] 30)).alloc (.cells #[.int .i64 0, .string ⟨#[]⟩, .string ⟨#[]⟩, .bool false, .int .i64 0, .slice none 0 0, .slice none 0 0] 25)).heap.size = w.heap.size + 1 + 1 + 1 := by simp
  have hB := ((Blk.new w 25 #[.int .i64 0, .string lo, .string hi, .bool la, .int .i64 sd, .slice iA n ic, .slice kA 0 kc]).alloc (.cells #[.string xk, .string xv, .int .i64 xn, .bool xg] 30)).alloc (.cells #[.int .i64 0, .string ⟨#[]⟩, .string ⟨#[]⟩, .bool false, .int .i64 0, .slice none 0 0, .slice none 0 0] 25)
  have hX := (Blk.new (w.alloc (.cells #[.int .i64 0, .string lo, .string hi, .bool la, .int .i64 sd, .slice iA n ic, .slice kA 0 kc] 25)) 30 #[.string xk, .string xv, .int .i64 xn, .bool xg]).alloc (.cells #[.int .i64 0, .string ⟨#[]⟩, .string ⟨#[]⟩, .bool false, .int .i64 0, .slice none 0 0, .slice none 0 0] 25)
  rw [hs1] at hX
  have hZ := Blk.new ((w.alloc (.cells #[.int .i64 0, .string lo, .string hi, .bool la, .int .i64 sd, .slice iA n ic, .slice kA 0 kc] 25)).alloc (.cells #[.string xk, .string xv, .int .i64 xn, .bool xg] 30)) 25 #[.int .i64 0, .string ⟨#[]⟩, .string ⟨#[]⟩, .bool false, .int .i64 0, .slice none 0 0, .slice none 0 0]
  rw [hs2] at hZ
  have K0 := Lib.hid k0
  have HB := Lib.hid hB
  have HX := Lib.hid hX
  have HZ := Lib.hid hZ
  have HS := Lib.hid hs3
  clear k0 hB hX hZ hs1 hs2 hs3
  go_enter Try.func9, Try.ntmps9
  go_wp2_with fail
  generalize ((w.alloc (.cells #[.int .i64 0, .string lo, .string hi, .bool la, .int .i64 sd, .slice iA n ic, .slice kA 0 kc] 25)).alloc (.cells #[.string xk, .string xv, .int .i64 xn, .bool xg] 30)).alloc (.cells #[.int .i64 0, .string ⟨#[]⟩, .string ⟨#[]⟩, .bool false, .int .i64 0, .slice none 0 0, .slice none 0 0] 25) = W0 at K0 HB HX HZ HS ⊢
  refine (h16 _).mono ?_
  rintro e w1 ⟨rfl, hk1⟩
  have K1 := Lib.hid (K0.out.trans hk1)
  have HB1 := HB.out.kept hk1 trivial
  have b0 := HB1.cell 0
  have b1 := HB1.cell 1
  have b2 := HB1.cell 2
  have b3 := HB1.cell 3
  have b4 := HB1.cell 4
  have b5 := HB1.cell 5
  have b6 := HB1.cell 6
  go_wp2_with fail
  clear b0 b1 b2 b3 b4 b5 b6
  refine (h7 _ K1.out).mono ?_
  rintro e w2 ⟨rfl, hk2⟩
  have K2 := Lib.hid (K1.out.trans hk2)
  have hk02 := hk1.trans hk2
  have b5 := (HB.out.kept hk02 trivial).cell 5
  have x0 := (HX.out.kept hk02 trivial).cell 0
  clear hk1 hk2 HB1
  go_wp2_with fail
  clear b5 x0
  refine (h23 _ K2.out).mono ?_
  rintro e w3 ⟨rfl, hk3⟩
  have K3 := Lib.hid (K2.out.trans hk3)
  have hk03 := hk02.trans hk3
  have HB3 := HB.out.kept hk03 trivial
  have b0 := HB3.cell 0
  have b1 := HB3.cell 1
  have b2 := HB3.cell 2
  have b3 := HB3.cell 3
  have b4 := HB3.cell 4
  have b5 := HB3.cell 5
  have b6 := HB3.cell 6
  have x0 := (HX.out.kept hk03 trivial).cell 0
  clear hk02 hk3
  go_wp2_with fail
  clear b0 b1 b2 b3 b4 b5 b6 x0 HB3
  refine (h12 _).mono ?_
  rintro e w4 ⟨rfl, hk4⟩
  have K4 := Lib.hid (K3.out.trans hk4)
  have hk04 := Lib.hid (hk03.trans hk4)
  have b5 := (HB.out.kept hk04.out trivial).cell 5
  clear hk03 hk4
  have x2 := (HX.out.kept hk04.out trivial).cell 2
  obtain ⟨b, off, rfl, hin, hnc, y2⟩ := HY.out w4.drew K4.out.drew
  have hi0 : (0 : Int) ≤ (i0 : Int) := by omega
  have hno' : decide (xn ≤ yn) = false := by simpa using hno
  have HSS := Lib.hid (And.intro b5 (And.intro y2 x2))
  clear x2 y2
  go_upto_region 10 with fail
  refine wp_region_held_drew (S := (fun W => W.cell? ⟨w.heap.size, 5, none⟩ = some (.slice (some ⟨b, off, none⟩) n ic) ∧ W.cell? ⟨b, off + i0 * 4 + 2, none⟩ = some (.int .i64 yn) ∧ W.cell? ⟨w.heap.size + 1, 2, none⟩ = some (.int .i64 xn))) (by kernel_rfl) ?_ (fun hHeld => ?_)
  · exact HSS.out
  refine wpAnyH_take (i := 0) (v := ?vz1) rfl (by kernel_rfl) (by kernel_rfl) (by kernel_rfl) (fun _ _ _ h => h) (Or.inl ⟨?wz1, ?yz1⟩) (by assumption) ?rz1
  case yz1 => (intro w hSw; (try dsimp only at hSw); go_simp; try with_reducible rfl)
  case wz1 => rfl
  case' rz1 => simp only [Act.put, List.getElem_toArray, List.getElem_cons_zero, List.setIfInBounds_toArray, List.set_cons_zero, List.set_cons_succ]
  refine wpAnyH_take (i := 1) (v := ?vz2) rfl (by kernel_rfl) (by kernel_rfl) (by kernel_rfl) (fun _ _ _ h => h) (Or.inl ⟨?wz2, ?yz2⟩) (by assumption) ?rz2
  case yz2 => (intro w hSw; (try dsimp only at hSw); go_simp; try with_reducible rfl)
  case wz2 => rfl
  case' rz2 => simp only [Act.put, List.getElem_toArray, List.getElem_cons_zero, List.getElem_cons_succ, List.setIfInBounds_toArray, List.set_cons_zero, List.set_cons_succ]
  refine wpAnyH_take (i := 2) (v := ?vz3) rfl (by kernel_rfl) (by kernel_rfl) (by kernel_rfl) (fun _ _ _ h => h) (Or.inl ⟨?wz3, ?yz3⟩) (by assumption) ?rz3
  case yz3 => (intro w hSw; (try dsimp only at hSw); go_simp; try with_reducible rfl)
  case wz3 => rfl
  case' rz3 => simp only [Act.put, List.getElem_toArray, List.getElem_cons_zero, List.getElem_cons_succ, List.setIfInBounds_toArray, List.set_cons_zero, List.set_cons_succ]
  refine wpAnyH_take (i := 3) (v := ?vz4) rfl (by kernel_rfl) (by kernel_rfl) (by kernel_rfl) (fun _ _ _ h => h) (Or.inl ⟨?wz4, ?yz4⟩) (by assumption) ?rz4
  case yz4 => (intro w hSw; (try dsimp only at hSw); go_simp; try with_reducible rfl)
  case wz4 => rfl
  case' rz4 => simp only [Act.put, List.getElem_toArray, List.getElem_cons_zero, List.getElem_cons_succ, List.setIfInBounds_toArray, List.set_cons_zero, List.set_cons_succ]
  refine wpAnyH_take (i := 4) (v := ?vz5) rfl (by kernel_rfl) (by kernel_rfl) (by kernel_rfl) (fun _ _ _ h => h) (Or.inl ⟨?wz5, ?yz5⟩) (by assumption) ?rz5
  case yz5 => (intro w hSw; (try dsimp only at hSw); go_simp; try with_reducible rfl)
  case wz5 => rfl
  case' rz5 => simp only [Act.put, List.getElem_toArray, List.getElem_cons_zero, List.getElem_cons_succ, List.setIfInBounds_toArray, List.set_cons_zero, List.set_cons_succ]
  refine wpAnyH_take (i := 5) (v := ?vz6) rfl (by kernel_rfl) (by kernel_rfl) (by kernel_rfl) (fun _ _ _ h => h) (Or.inl ⟨?wz6, ?yz6⟩) (by assumption) ?rz6
  case yz6 => (intro w hSw; (try dsimp only at hSw); go_simp; try with_reducible rfl)
  case wz6 => rfl
  case' rz6 => simp only [Act.put, List.getElem_toArray, List.getElem_cons_zero, List.getElem_cons_succ, List.setIfInBounds_toArray, List.set_cons_zero, List.set_cons_succ]
  refine wpAnyH_take (i := 6) (v := ?vz7) rfl (by kernel_rfl) (by kernel_rfl) (by kernel_rfl) (fun _ _ _ h => h) (Or.inl ⟨?wz7, ?yz7⟩) (by assumption) ?rz7
  case yz7 => (intro w hSw; (try dsimp only at hSw); go_simp; try with_reducible rfl)
  case wz7 => rfl
  case' rz7 => simp only [Act.put, List.getElem_toArray, List.getElem_cons_zero, List.getElem_cons_succ, List.setIfInBounds_toArray, List.set_cons_zero, List.set_cons_succ]
  refine wpAnyH_take (i := 7) (v := ?vz8) rfl (by kernel_rfl) (by kernel_rfl) (by kernel_rfl) (fun _ _ _ h => h) (Or.inl ⟨?wz8, ?yz8⟩) (by assumption) ?rz8
  case yz8 => (intro w hSw; (try dsimp only at hSw); go_simp; try with_reducible rfl)
  case wz8 => rfl
  case' rz8 => simp only [Act.put, List.getElem_toArray, List.getElem_cons_zero, List.getElem_cons_succ, List.setIfInBounds_toArray, List.set_cons_zero, List.set_cons_succ]
  refine wpAnyH_take (i := 8) (v := ?vz9) rfl (by kernel_rfl) (by kernel_rfl) (by kernel_rfl) (fun _ _ _ h => h) (Or.inl ⟨?wz9, ?yz9⟩) (by assumption) ?rz9
  case yz9 => (intro w hSw; (try dsimp only at hSw); go_simp; try with_reducible rfl)
  case wz9 => rfl
  case' rz9 => simp only [Act.put, List.getElem_toArray, List.getElem_cons_zero, List.getElem_cons_succ, List.setIfInBounds_toArray, List.set_cons_zero, List.set_cons_succ]
  refine wpAnyH_take (i := 9) (v := ?vz10) rfl (by kernel_rfl) (by kernel_rfl) (by kernel_rfl) (fun _ _ _ h => h) (Or.inl ⟨?wz10, ?yz10⟩) (by assumption) ?rz10
  case yz10 => (intro w hSw; (try dsimp only at hSw); go_simp; try with_reducible rfl)
  case wz10 => rfl
  case' rz10 => simp only [Act.put, List.getElem_toArray, List.getElem_cons_zero, List.getElem_cons_succ, List.setIfInBounds_toArray, List.set_cons_zero, List.set_cons_succ]
  refine wpAnyH_take (i := 10) (v := ?vz11) rfl (by kernel_rfl) (by kernel_rfl) (by kernel_rfl) (fun _ _ _ h => h) (Or.inl ⟨?wz11, ?yz11⟩) (by assumption) ?rz11
  case yz11 => (intro w hSw; (try dsimp only at hSw); go_simp; try with_reducible rfl)
  case wz11 => rfl
  case' rz11 => simp only [Act.put, List.getElem_toArray, List.getElem_cons_zero, List.getElem_cons_succ, List.setIfInBounds_toArray, List.set_cons_zero, List.set_cons_succ]
  refine wpAnyH_take (i := 11) (v := ?vz12) rfl (by kernel_rfl) (by kernel_rfl) (by kernel_rfl) (fun _ _ _ h => h) (Or.inl ⟨?wz12, ?yz12⟩) (by assumption) ?rz12
  case yz12 => (intro w hSw; (try dsimp only at hSw); go_simp; try with_reducible rfl)
  case wz12 => rfl
  case' rz12 => simp only [Act.put, List.getElem_toArray, List.getElem_cons_zero, List.getElem_cons_succ, List.setIfInBounds_toArray, List.set_cons_zero, List.set_cons_succ]
  refine wpAnyH_take (i := 12) (v := ?vz13) rfl (by kernel_rfl) (by kernel_rfl) (by kernel_rfl) (fun _ _ _ h => h) (Or.inl ⟨?wz13, ?yz13⟩) (by assumption) ?rz13
  case yz13 => (intro w hSw; (try dsimp only at hSw); go_simp; try with_reducible rfl)
  case wz13 => rfl
  case' rz13 => simp only [Act.put, List.getElem_toArray, List.getElem_cons_zero, List.getElem_cons_succ, List.setIfInBounds_toArray, List.set_cons_zero, List.set_cons_succ]
  refine wpAnyH_done (by kernel_rfl) ?_ _
  clear b5
  have K5 := Lib.hid K4.out.drew
  have K05 : Hid (Kept (fun _ => True) W0 w4.drew) := Lib.hid hk04.out.drew
  clear hk04
  have HB5 := HB.out.kept K05.out trivial
  have b0 := HB5.cell 0
  have b1 := HB5.cell 1
  have b2 := HB5.cell 2
  have b3 := HB5.cell 3
  have b4 := HB5.cell 4
  have b5 := HB5.cell 5
  have b6 := HB5.cell 6
  go_wp2_with fail
  clear b0 b1 b2 b3 b4 b5 b6 HB5
  refine (h25 _ K5.out).mono ?_
  rintro e w6 ⟨A1, c1, A2, c2, rfl, HI, HK, hk6⟩
  have K6 := Lib.hid (K5.out.trans hk6)
  have hk06 := K05.out.trans hk6
  have hB6 := HB.out.kept hk06 trivial
  have hX6 := HX.out.kept hk06 trivial
  have hZ6 := HZ.out.kept hk06 trivial
  have hsz : w.heap.size + 3 ≤ w4.drew.heap.size := by
    have := K05.out.size
    have := HS.out
    omega
  have hsz6 : w4.drew.heap.size ≤ w6.heap.size := hk6.size
  have hV := set7_blk hB6 (.int .i64 0) (.string lo) (.string hi) (.bool la) (.int .i64 sd) (.slice A1 n c1) (.slice A2 0 c2)
  have kV := set7_kept w6 w.heap.size (.int .i64 0) (.string lo) (.string hi) (.bool la) (.int .i64 sd) (.slice A1 n c1) (.slice A2 0 c2)
  unfold set7 at hV kV
  have hX7 := hX6.kept kV (by show w.heap.size + 1 ≠ w.heap.size; omega)
  have hZ7 := hZ6.kept kV (by show w.heap.size + 1 + 1 ≠ w.heap.size; omega)
  have HI7 := Lib.hid (HI.out.kept kV fun g hg => by
    have := HI.out.lt hg
    show g ≠ w.heap.size
    omega)
  have HK7 := Lib.hid (HK.out.kept kV fun g hg => by
    have := HK.out.lt hg
    show g ≠ w.heap.size
    omega)
  have K7 := Lib.hid (K6.out.trans' kV fun b hb _ => by
    show b ≠ w.heap.size
    omega)
  have b0 := hB6.cell 0
  have b1 := hB6.cell 1
  have b2 := hB6.cell 2
  have b3 := hB6.cell 3
  have b4 := hB6.cell 4
  have b5 := hB6.cell 5
  have b6 := hB6.cell 6
  have f0 := hB6.frozen 0
  have f1 := hB6.frozen 1
  have f2 := hB6.frozen 2
  have f3 := hB6.frozen 3
  have f4 := hB6.frozen 4
  have f5 := hB6.frozen 5
  have f6 := hB6.frozen 6
  have HV := Lib.hid hV
  have HX7 := Lib.hid hX7
  have HZ7 := Lib.hid hZ7
  have HSZ := Lib.hid (Nat.le_trans hsz6 kV.size)
  clear hV kV hX7 hZ7 hB6 hX6 hZ6 hk06 hk6 h16 h7 h23 h12 h25
  go_upto_region 14 with fail
  generalize ((((((w6.setCell ⟨w.heap.size, 0, none⟩ (.int .i64 0)).setCell ⟨w.heap.size, 1, none⟩ (.string lo)).setCell ⟨w.heap.size, 2, none⟩ (.string hi)).setCell ⟨w.heap.size, 3, none⟩ (.bool la)).setCell ⟨w.heap.size, 4, none⟩ (.int .i64 sd)).setCell ⟨w.heap.size, 5, none⟩ (.slice A1 n c1)).setCell ⟨w.heap.size, 6, none⟩ (.slice A2 0 c2) = w7 at HV HX7 HZ7 HI7 HK7 K7 HSZ ⊢
  clear b0 b1 b2 b3 b4 b5 b6 f0 f1 f2 f3 f4 f5 f6
  have b5 := HV.out.cell 5
  have x0 := HX7.out.cell 0
  have x1 := HX7.out.cell 1
  have x2 := HX7.out.cell 2
  have x3 := HX7.out.cell 3
  have hI7 := HI7.out
  rw [← HN.out] at hI7
  obtain ⟨g, rfl, gcur, hgb, hgs⟩ : ∃ g, A1 = some ⟨g, 0, none⟩ ∧ ∃ gcur, Blk w7 g 30 gcur ∧ n * 4 ≤ gcur.size := by
    rcases hI7 with ⟨h0, h1⟩ | ⟨g, cap, cur, h0, _, hg, hc, hcc, _⟩
    · rw [← HN.out, h1] at hi0l
      exact absurd hi0l (Nat.not_lt_zero _)
    · injection h0 with h0
      rw [HN.out] at hc
      exact ⟨g, h0, cur, hg, by omega⟩
  obtain ⟨w8, he8, hI8, kS⟩ := set_row hI7 ⟨xk, xv, xn, xg⟩ (by rw [HN.out]; exact hi0l)
  simp only at he8
  have hgl := hI7.lt (g := g) rfl
  have fz := hgb.frozen
  have z0 : ∃ v, w7.cell? ⟨g, i0 * 4, none⟩ = some v := ⟨_, (hgb.cell _).trans (Array.getElem?_eq_getElem (by omega))⟩
  have z1 : ∃ v, w7.cell? ⟨g, i0 * 4 + 1, none⟩ = some v := ⟨_, (hgb.cell _).trans (Array.getElem?_eq_getElem (by omega))⟩
  have z2 : ∃ v, w7.cell? ⟨g, i0 * 4 + 2, none⟩ = some v := ⟨_, (hgb.cell _).trans (Array.getElem?_eq_getElem (by omega))⟩
  have z3 : ∃ v, w7.cell? ⟨g, i0 * 4 + 3, none⟩ = some v := ⟨_, (hgb.cell _).trans (Array.getElem?_eq_getElem (by omega))⟩
  obtain ⟨v0, z0⟩ := z0
  obtain ⟨v1, z1⟩ := z1
  obtain ⟨v2, z2⟩ := z2
  obtain ⟨v3, z3⟩ := z3
  have y0 := fz (i0 * 4)
  have y1 := fz (i0 * 4 + 1)
  have y2 := fz (i0 * 4 + 2)
  have y3 := fz (i0 * 4 + 3)
  have hgw : w4.drew.heap.size ≤ g := hgl.2
  have HV10 := Lib.hid (HV.out.kept kS (by show w.heap.size ≠ g; omega))
  have HZ10 := Lib.hid (HZ7.out.kept kS (by show w.heap.size + 1 + 1 ≠ g; omega))
  have HO10 := Lib.hid hI8
  have HK10 := Lib.hid (HK7.out.kept kS fun q hq => by
    obtain ⟨_, h1⟩ := HK7.out.blk hq
    exact Blk.ne_ h1 hgb (by decide))
  have K10 := Lib.hid (K7.out.trans' kS fun b hb _ => by
    show b ≠ g
    omega)
  have HS10 := Lib.hid (Nat.le_trans HSZ.out kS.size)
  clear hI7 hgb hgs hI8 kS hgl fz
  go_upto_region 16 with fail
  have HO10n : Hid (ItO w8 w4.drew.heap.size (.slice (some ⟨g, 0, none⟩) n c1) (il.set i0 ⟨xk, xv, xn, xg⟩)) := Lib.hid (by
    have := HO10.out
    rw [HN.out] at this
    exact this)
  clear b5 x0 x1 x2 x3 z0 z1 z2 z3 y0 y1 y2 y3 he8
  have b0 := HV10.out.cell 0
  have b1 := HV10.out.cell 1
  have b2 := HV10.out.cell 2
  have b3 := HV10.out.cell 3
  have b4 := HV10.out.cell 4
  have b5 := HV10.out.cell 5
  have b6 := HV10.out.cell 6
  have z0 := HZ10.out.cell 0
  have z1 := HZ10.out.cell 1
  have z2 := HZ10.out.cell 2
  have z3 := HZ10.out.cell 3
  have z4 := HZ10.out.cell 4
  have z5 := HZ10.out.cell 5
  have z6 := HZ10.out.cell 6
  have y0 := HZ10.out.frozen 0
  have y1 := HZ10.out.frozen 1
  have y2 := HZ10.out.frozen 2
  have y3 := HZ10.out.frozen 3
  have y4 := HZ10.out.frozen 4
  have y5 := HZ10.out.frozen 5
  have y6 := HZ10.out.frozen 6
  have hV := set7_blk HZ10.out (.int .i64 0) (.string lo) (.string hi) (.bool la) (.int .i64 sd) (.slice (some ⟨g, 0, none⟩) n c1) (.slice A2 0 c2)
  have kV := set7_kept w8 (w.heap.size + 1 + 1) (.int .i64 0) (.string lo) (.string hi) (.bool la) (.int .i64 sd) (.slice (some ⟨g, 0, none⟩) n c1) (.slice A2 0 c2)
  unfold set7 at hV kV
  have HV11 := Lib.hid hV
  have KV11 := Lib.hid kV
  clear hV kV
  go_wp2_with fail
  generalize ((((((w8.setCell ⟨w.heap.size + 1 + 1, 0, none⟩ (.int .i64 0)).setCell ⟨w.heap.size + 1 + 1, 1, none⟩ (.string lo)).setCell ⟨w.heap.size + 1 + 1, 2, none⟩ (.string hi)).setCell ⟨w.heap.size + 1 + 1, 3, none⟩ (.bool la)).setCell ⟨w.heap.size + 1 + 1, 4, none⟩ (.int .i64 sd)).setCell ⟨w.heap.size + 1 + 1, 5, none⟩ (.slice (some ⟨g, 0, none⟩) n c1)).setCell ⟨w.heap.size + 1 + 1, 6, none⟩ (.slice A2 0 c2) = w11 at HV11 KV11 ⊢
  clear b0 b1 b2 b3 b4 b5 b6 z0 z1 z2 z3 z4 z5 z6 y0 y1 y2 y3 y4 y5 y6
  have v0 := HV11.out.cell 0
  have v1 := HV11.out.cell 1
  have v2 := HV11.out.cell 2
  have v3 := HV11.out.cell 3
  have v4 := HV11.out.cell 4
  have v5 := HV11.out.cell 5
  have v6 := HV11.out.cell 6
  refine bodyPost_ret (v := .tuple #[.agg #[.int .i64 0, .string lo, .string hi, .bool la, .int .i64 sd, .slice (some ⟨g, 0, none⟩) n c1, .slice A2 0 c2], .int .i64 0]) ?_ rfl ⟨some ⟨g, 0, none⟩, c1, A2, c2, rfl, Lib.hid ((HO10n.out.kept KV11.out fun q hq => ?_).low (by omega)), Lib.hid ((HK10.out.kept KV11.out fun q hq => ?_).low (by omega)), K10.out.trans' KV11.out fun b hb _ => by show b ≠ w.heap.size + 1 + 1; omega⟩
  · have hres : Try.f9.results = #[.cell 4 25, .tmp 5] := rfl
    unfold results
    rw [hres]
    go_simp
    try rfl
  · have := (HO10n.out.lt hq).2
    show q ≠ w.heap.size + 1 + 1
    omega
  · have := (HK10.out.lt hq).2
    show q ≠ w.heap.size + 1 + 1
    omega
end Ytfoolgojcmkdbaa
end Go.Proofs
