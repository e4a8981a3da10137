/-
  PageNewest: the walk.
-/
import Derived.Test.YtfoolgojcmkdbaaNewestLaws
import Derived.Test.YtfoolgojcmkdbaaFind
import Derived.Deep.CutBlock
import Derived.Deep.DeepCutAuto
set_option maxHeartbeats 8000000
set_option maxRecDepth 100000
namespace Go.Proofs
open Go.RowKit
namespace Ytfoolgojcmkdbaa
attribute [local go_sem ↓] Go.wp_at_zero Go.wp_at_succ
def zit : Array Value := #[.string ⟨#[]⟩, .string ⟨#[]⟩, .int .i64 0, .bool false]
theorem alloc30 {W : World} {b : Nat} (hs : Hid (b ≤ W.heap.size)) : ∃ gl W', W.alloc (.cells zit 30) = W' ∧ W.heap.size = gl ∧ Hid (b ≤ gl) ∧ Hid (Blk W' gl 30 zit) ∧ Kept (fun _ => True) W W' :=
  ⟨_, _, rfl, rfl, hs, Lib.hid (Blk.new W 30 zit), (Kept.refl _ W).alloc _⟩
theorem alloc30d {W : World} {b : Nat} (hs : Hid (b ≤ (World.drew W).heap.size)) : ∃ gl W', (W.alloc (.cells zit 30)).drew = W' ∧ W.heap.size = gl ∧ Hid (b ≤ gl) ∧ Hid (Blk W' gl 30 zit) ∧ Kept (fun _ => True) (World.drew W) W' :=
  ⟨_, _, rfl, rfl, hs, Lib.hid (Blk.new W 30 zit).drew, ((Kept.refl _ (World.drew W)).alloc _)⟩
theorem set4_step {W : World} {g : Nat} {b0 b1 b2 b3 : Value} (h : Blk W g 30 #[b0, b1, b2, b3]) (a0 a1 a2 a3 : Value) : ∃ W', (((W.setCell ⟨g, 0, none⟩ a0).setCell ⟨g, 1, none⟩ a1).setCell ⟨g, 2, none⟩ a2).setCell ⟨g, 3, none⟩ a3 = W' ∧
    Blk W' g 30 #[a0, a1, a2, a3] ∧ Kept (fun b => b ≠ g) W W' := ⟨_, rfl, set4_blk h a0 a1 a2 a3, set4_kept W g a0 a1 a2 a3⟩
theorem far25 {w w' : World} {g x : Nat} {cs cs' : Array Value} (h : Hid (Blk w g 25 cs)) (hk : Kept (fun b => b ≠ x) w w') (hb : Hid (Blk w x 30 cs')) : Hid (Blk w' g 25 cs) := Lib.hid (h.out.kept hk (Blk.ne_ h.out hb.out (by decide)))
theorem CellH.go {w w' : World} {b o : Nat} {v : Value} (h : Hid (w.cell? ⟨b, o, none⟩ = some v)) (hk : Kept (fun _ => True) w w') : Hid (w'.cell? ⟨b, o, none⟩ = some v) := Lib.hid (hk.cellv h.out)
theorem CellH.far {w w' : World} {b o g z : Nat} {v : Value} (h : Hid (w.cell? ⟨b, o, none⟩ = some v)) (hk : Kept (fun x => x ≠ g) w w') (hb : Hid (b < z)) (hz : z + 1 ≤ g) : Hid (w'.cell? ⟨b, o, none⟩ = some v) :=
  Lib.hid ((hk.cell (p := ⟨b, o, none⟩) (cell_lt' h.out) (by show b ≠ g; have := hb.out; omega)).trans h.out)
theorem CellH.low {w w' : World} {b o n : Nat} {v : Value} (h : w.cell? ⟨b, o, none⟩ = some v) (hk : Kept (fun x => x < n) w w') (hb : b < n) : w'.cell? ⟨b, o, none⟩ = some v := (hk.cell (p := ⟨b, o, none⟩) (cell_lt' h) hb).trans h
theorem FourH.far {w w' : World} {b o g z : Nat} {k v : ByteArray} {n : Int} {u : Bool} (h : Hid (Four w b o k v n u)) (hk : Kept (fun x => x ≠ g) w w') (hb : Hid (b < z)) (hz : z ≤ g) : Hid (Four w' b o k v n u) := by
  obtain ⟨h0, h1, h2, h3⟩ := h.out
  have e : ∀ {q : Nat} {v : Value}, w.cell? ⟨b, q, none⟩ = some v → w'.cell? ⟨b, q, none⟩ = some v := fun hc => (hk.cell (p := ⟨b, _, none⟩) (cell_lt' hc) (by show b ≠ g; have := hb.out; omega)).trans hc
  exact Lib.hid ⟨e h0, e h1, e h2, e h3⟩
theorem newest_any (p : Page) (xs : List Item) {iA kA xA : Option Addr} {ic kc xc : Nat} (w : World) (hi : ItR w (.slice iA p.items.length ic) p.items) (hk : KdR w (.slice kA p.kids.length kc) p.kids) (hx : ItR w (.slice xA xs.length xc) xs) (hn : p.items.length ≤ 1152921504606846975) (hm : p.kids.length ≤ 1152921504606846975) (hl : xs.length ≤ 1152921504606846975) :
    Calls Try.prog 3 #[pv p (.slice iA p.items.length ic) (.slice kA p.kids.length kc), .slice xA xs.length xc] w fun e w' => e = .returned (.bool true) ∧ Kept (fun _ => True) w w' := by
  have h7 : ∀ W, Kept (fun _ => True) w W → Calls Try.prog 7 #[pv p (.slice iA p.items.length ic) (.slice kA p.kids.length kc)] W fun e w' => e = .returned (.int .i64 (ckS (check p))) ∧ Kept (fun _ => True) W w' := fun W hW => check_any p W (hi.all hW) (hk.all hW) hn hm
  have h8 : ∀ W q, Kept (fun _ => True) w W → Calls Try.prog 8 #[pv p (.slice iA p.items.length ic) (.slice kA p.kids.length kc), .string q] W fun e w' => ∃ (yk yv : ByteArray) (yn : Int) (yg f : Bool), e = .returned (.tuple #[.agg #[.string yk, .string yv, .int .i64 yn, .bool yg], .bool f]) ∧ Kept (fun _ => True) W w' := fun W q hW => (find_any p q W (hi.all hW) hn).mono fun e w' ⟨he, hk⟩ => ⟨_, _, _, _, _, he, hk⟩
  have HI := Lib.hid hi
  have HK := Lib.hid hk
  have HX := Lib.hid hx
  clear hi hk hx
  unfold pv at h7 h8
  unfold pv
  have HP : Hid (∀ X : Page, X = p → True) := Lib.hid fun _ _ => trivial
  generalize hlv : p.level = lv at h7 h8 ⊢
  generalize hlo : p.low = lo at h7 h8 ⊢
  generalize hhi : p.high = hi at h7 h8 ⊢
  generalize hla : p.last = la at h7 h8 ⊢
  generalize hsd : p.side = sd at h7 h8 ⊢
  generalize hni : p.items.length = n at h7 h8 hn ⊢
  generalize hmk : p.kids.length = m at h7 h8 hm ⊢
  generalize hln : xs.length = z at hl ⊢
  have HE := Lib.hid (And.intro hlv (And.intro hlo (And.intro hhi (And.intro hla (And.intro hsd (And.intro hni (And.intro hmk hln)))))))
  clear hlv hlo hhi hla hsd hni hmk hln HP
  have k0 := (Kept.refl (fun _ => True) w).alloc (.cells #[.int .i64 lv, .string lo, .string hi, .bool la, .int .i64 sd, .slice iA n ic, .slice kA m kc] 25)
  have hb := Blk.new w 25 #[.int .i64 lv, .string lo, .string hi, .bool la, .int .i64 sd, .slice iA n ic, .slice kA m kc]
  go_enter Try.func3, Try.ntmps3
  go_wp2_with fail
  generalize w.alloc (.cells #[.int .i64 lv, .string lo, .string hi, .bool la, .int .i64 sd, .slice iA n ic, .slice kA m kc] 25) = w0 at k0 hb ⊢
  refine (awake_any _).mono ?_
  rintro e w1 ⟨rfl, hk1⟩
  have KW := Lib.hid (k0.trans hk1)
  have HB := Lib.hid (hb.kept hk1 trivial)
  clear hb k0 hk1
  have HS : Hid (w.heap.size + 1 ≤ w1.heap.size) := Lib.hid (by have := HB.out.lt; omega)
  have b0 := HB.out.cell 0
  have b1 := HB.out.cell 1
  have b2 := HB.out.cell 2
  have b3 := HB.out.cell 3
  have b4 := HB.out.cell 4
  have b5 := HB.out.cell 5
  have b6 := HB.out.cell 6
  go_upto_region 3 with fail
  clear b0 b1 b2 b3 b4 b5 b6
  have hk := (Kept.refl (fun _ => True) w1).alloc (.cells #[.int .i64 lv, .string lo, .string hi, .bool la, .int .i64 sd, .slice iA n ic, .slice kA m kc] 25)
  have BX := Lib.hid (Blk.new w1 25 #[.int .i64 lv, .string lo, .string hi, .bool la, .int .i64 sd, .slice iA n ic, .slice kA m kc])
  replace KW := Kept.go KW hk
  replace HB := BlkH.go HB hk
  have HSX : Hid (w1.heap.size + 1 ≤ (w1.alloc (.cells #[.int .i64 lv, .string lo, .string hi, .bool la, .int .i64 sd, .slice iA n ic, .slice kA m kc] 25)).heap.size) := Lib.hid (by simp)
  clear hk
  generalize w1.alloc (.cells #[.int .i64 lv, .string lo, .string hi, .bool la, .int .i64 sd, .slice iA n ic, .slice kA m kc] 25) = w2 at KW HB BX HSX ⊢
  generalize w1.heap.size = xb at HS BX HSX ⊢
  have HSX1 := HS
  clear HS
  have b0 := HB.out.cell 0
  have b1 := HB.out.cell 1
  have b2 := HB.out.cell 2
  have b3 := HB.out.cell 3
  have b4 := HB.out.cell 4
  have b5 := HB.out.cell 5
  have b6 := HB.out.cell 6
  go_upto_region 4 with fail
  clear b0 b1 b2 b3 b4 b5 b6
  have hk := (Kept.refl (fun _ => True) w2).alloc (.cells #[.int .i64 lv, .string lo, .string hi, .bool la, .int .i64 sd, .slice iA n ic, .slice kA m kc] 25)
  have BY := Lib.hid (Blk.new w2 25 #[.int .i64 lv, .string lo, .string hi, .bool la, .int .i64 sd, .slice iA n ic, .slice kA m kc])
  replace KW := Kept.go KW hk
  replace HB := BlkH.go HB hk
  replace BX := BlkH.go BX hk
  clear hk
  generalize w2.alloc (.cells #[.int .i64 lv, .string lo, .string hi, .bool la, .int .i64 sd, .slice iA n ic, .slice kA m kc] 25) = w3 at KW HB BX BY ⊢
  generalize w2.heap.size = yb at HSX BY ⊢
  have b0 := HB.out.cell 0
  have b1 := HB.out.cell 1
  have b2 := HB.out.cell 2
  have b3 := HB.out.cell 3
  have b4 := HB.out.cell 4
  have b5 := HB.out.cell 5
  have b6 := HB.out.cell 6
  go_wp2_with fail
  clear b0 b1 b2 b3 b4 b5 b6
  refine (h7 _ KW.out).mono ?_
  rintro e w4 ⟨rfl, hk⟩
  replace KW := Kept.go KW hk
  replace HB := BlkH.go HB hk
  replace BX := BlkH.go BX hk
  replace BY := BlkH.go BY hk
  clear hk h7
  have hck : (ckS (check p) != 0) = !(check p) := by cases check p <;> rfl
  go_upto_region 5 with fail
  clear hck
  generalize hcb : check p = cb
  have HCB := Lib.hid hcb
  clear hcb
  go_wp2_with fail
  go_loopw [9, 10, 11, 12] (fun s9 _ _ _ wr => ∃ k : Nat, k ≤ z ∧ s9 = .int .i64 k ∧ Hid (Kept (fun _ => True) w wr) ∧ Hid (Blk wr w.heap.size 25 #[.int .i64 lv, .string lo, .string hi, .bool la, .int .i64 sd, .slice iA n ic, .slice kA m kc]) ∧
    Hid (Blk wr xb 25 #[.int .i64 lv, .string lo, .string hi, .bool la, .int .i64 sd, .slice iA n ic, .slice kA m kc]) ∧ Hid (Blk wr yb 25 #[.int .i64 lv, .string lo, .string hi, .bool la, .int .i64 sd, .slice iA n ic, .slice kA m kc]) ∧ Hid (Apart xs k)) (fun s9 _ _ _ _ => z - (intOf s9).toNat)
  case atStart => exact ⟨0, Nat.zero_le _, rfl, KW, HB, BX, BY, Lib.hid fun a b x y _ hb => absurd hb (Nat.not_lt_zero _)⟩
  case round =>
    obtain ⟨k, hk, rfl, KW, HB, BX, BY, AP⟩ := hrel
    obtain ⟨wo, hwo⟩ : ∃ wo, wo = wr := ⟨_, rfl⟩
    subst hwo
    by_cases hlt : k < z
    · have hltz : (k : Int) < (z : Int) := by omega
      obtain ⟨y, hy⟩ : ∃ y, xs[k]? = some y := ⟨_, List.getElem?_eq_getElem (by have := HE.out; omega)⟩
      obtain ⟨b, off, hA, hbl, hc, _⟩ := ItR.at_ HX.out hy
      obtain ⟨b', off', hA', _, _, c0, c1, c2, c3⟩ := ItR.at_ (RdK.all HX.out KW.out) hy
      rw [hA] at hA'
      injection hA' with hA'
      injection hA' with h1 h2
      subst h1 h2
      subst hA
      have HBLT := Lib.hid hbl
      clear hbl
      have HY := Lib.hid hy
      clear hy
      go_wp2_with fail
      go_loopw [10] (fun s10 wx => ∃ j : Nat, j ≤ k ∧ s10 = .int .i64 j ∧ Hid (Kept (fun _ => True) wo wx) ∧ Hid (∀ (a : Nat) (x : Item), a < j → xs[a]? = some x → x.no ≠ y.no)) (fun s10 _ => k - (intOf s10).toNat)
      case atStart => exact ⟨0, Nat.zero_le _, rfl, Lib.hid (Kept.refl _ _), Lib.hid fun a x ha => absurd ha (Nat.not_lt_zero _)⟩
      case round =>
        obtain ⟨j, hj, rfl, KX, NE⟩ := hrel
        by_cases hjk : j < k
        · have hjkz : (j : Int) < (k : Int) := by omega
          have hjz : (j : Int) < (z : Int) := by omega
          obtain ⟨x, hx⟩ : ∃ x, xs[j]? = some x := ⟨_, List.getElem?_eq_getElem (by have := HE.out; omega)⟩
          obtain ⟨b', off', hbe, _, _, x0, x1, x2, x3⟩ := ItR.at_ (RdK.all HX.out (KW.out.trans KX.out)) hx
          injection hbe with hbe
          injection hbe with hb1 hb2
          subst hb1 hb2
          have HXJ := Lib.hid hx
          have y2 := KX.out.cellv c2
          clear hx x0 x1 x3 c0 c1 c2 c3
          have FF : Hid (wr.cell? ⟨b, off + j * 4 + 2, none⟩ = some (.int .i64 x.no) ∧ wr.cell? ⟨b, off + k * 4 + 2, none⟩ = some (.int .i64 y.no)) := Lib.hid ⟨x2, y2⟩
          clear x2 y2
          go_upto_region 11 with fail
          refine wp_region_held_drew (S := (fun W => W.cell? ⟨b, off + j * 4 + 2, none⟩ = some (.int .i64 x.no) ∧ W.cell? ⟨b, off + k * 4 + 2, none⟩ = some (.int .i64 y.no))) (by kernel_rfl) ?_ (fun hHeld => ?_)
          · exact FF.out
          refine wpAnyH_take (i := 0) (v := ?vz1) rfl (by kernel_rfl) (by kernel_rfl) (by kernel_rfl) (fun _ _ _ h => h) (Or.inl ⟨?wz1, ?yz1⟩) (by assumption) ?rz1
          case yz1 => (intro w hSw; (try dsimp only at hSw); go_simp; try with_reducible rfl)
          case wz1 => rfl
          case' rz1 => simp only [Act.put, List.getElem_toArray, List.getElem_cons_zero, List.setIfInBounds_toArray, List.set_cons_zero, List.set_cons_succ]
          refine wpAnyH_take (i := 1) (v := ?vz2) rfl (by kernel_rfl) (by kernel_rfl) (by kernel_rfl) (fun _ _ _ h => h) (Or.inl ⟨?wz2, ?yz2⟩) (by assumption) ?rz2
          case yz2 => (intro w hSw; (try dsimp only at hSw); go_simp; try with_reducible rfl)
          case wz2 => rfl
          case' rz2 => simp only [Act.put, List.getElem_toArray, List.getElem_cons_zero, List.getElem_cons_succ, List.setIfInBounds_toArray, List.set_cons_zero, List.set_cons_succ]
          refine wpAnyH_take (i := 2) (v := ?vz3) rfl (by kernel_rfl) (by kernel_rfl) (by kernel_rfl) (fun _ _ _ h => h) (Or.inl ⟨?wz3, ?yz3⟩) (by assumption) ?rz3
          case yz3 => (intro w hSw; (try dsimp only at hSw); go_simp; try with_reducible rfl)
          case wz3 => rfl
          case' rz3 => simp only [Act.put, List.getElem_toArray, List.getElem_cons_zero, List.getElem_cons_succ, List.setIfInBounds_toArray, List.set_cons_zero, List.set_cons_succ]
          refine wpAnyH_take (i := 3) (v := ?vz4) rfl (by kernel_rfl) (by kernel_rfl) (by kernel_rfl) (fun _ _ _ h => h) (Or.inl ⟨?wz4, ?yz4⟩) (by assumption) ?rz4
          case yz4 => (intro w hSw; (try dsimp only at hSw); go_simp; try with_reducible rfl)
          case wz4 => rfl
          case' rz4 => simp only [Act.put, List.getElem_toArray, List.getElem_cons_zero, List.getElem_cons_succ, List.setIfInBounds_toArray, List.set_cons_zero, List.set_cons_succ]
          refine wpAnyH_take (i := 4) (v := ?vz5) rfl (by kernel_rfl) (by kernel_rfl) (by kernel_rfl) (fun _ _ _ h => h) (Or.inl ⟨?wz5, ?yz5⟩) (by assumption) ?rz5
          case yz5 => (intro w hSw; (try dsimp only at hSw); go_simp; try with_reducible rfl)
          case wz5 => rfl
          case' rz5 => simp only [Act.put, List.getElem_toArray, List.getElem_cons_zero, List.getElem_cons_succ, List.setIfInBounds_toArray, List.set_cons_zero, List.set_cons_succ]
          refine wpAnyH_take (i := 5) (v := ?vz6) rfl (by kernel_rfl) (by kernel_rfl) (by kernel_rfl) (fun _ _ _ h => h) (Or.inl ⟨?wz6, ?yz6⟩) (by assumption) ?rz6
          case yz6 => (intro w hSw; (try dsimp only at hSw); go_simp; try with_reducible rfl)
          case wz6 => rfl
          case' rz6 => simp only [Act.put, List.getElem_toArray, List.getElem_cons_zero, List.getElem_cons_succ, List.setIfInBounds_toArray, List.set_cons_zero, List.set_cons_succ]
          refine wpAnyH_take (i := 6) (v := ?vz7) rfl (by kernel_rfl) (by kernel_rfl) (by kernel_rfl) (fun _ _ _ h => h) (Or.inl ⟨?wz7, ?yz7⟩) (by assumption) ?rz7
          case yz7 => (intro w hSw; (try dsimp only at hSw); go_simp; try with_reducible rfl)
          case wz7 => rfl
          case' rz7 => simp only [Act.put, List.getElem_toArray, List.getElem_cons_zero, List.getElem_cons_succ, List.setIfInBounds_toArray, List.set_cons_zero, List.set_cons_succ]
          refine wpAnyH_take (i := 7) (v := ?vz8) rfl (by kernel_rfl) (by kernel_rfl) (by kernel_rfl) (fun _ _ _ h => h) (Or.inl ⟨?wz8, ?yz8⟩) (by assumption) ?rz8
          case yz8 => (intro w hSw; (try dsimp only at hSw); go_simp; try with_reducible rfl)
          case wz8 => rfl
          case' rz8 => simp only [Act.put, List.getElem_toArray, List.getElem_cons_zero, List.getElem_cons_succ, List.setIfInBounds_toArray, List.set_cons_zero, List.set_cons_succ]
          refine wpAnyH_take (i := 8) (v := ?vz9) rfl (by kernel_rfl) (by kernel_rfl) (by kernel_rfl) (fun _ _ _ h => h) (Or.inl ⟨?wz9, ?yz9⟩) (by assumption) ?rz9
          case yz9 => (intro w hSw; (try dsimp only at hSw); go_simp; try with_reducible rfl)
          case wz9 => rfl
          case' rz9 => simp only [Act.put, List.getElem_toArray, List.getElem_cons_zero, List.getElem_cons_succ, List.setIfInBounds_toArray, List.set_cons_zero, List.set_cons_succ]
          refine wpAnyH_take (i := 9) (v := ?vz10) rfl (by kernel_rfl) (by kernel_rfl) (by kernel_rfl) (fun _ _ _ h => h) (Or.inl ⟨?wz10, ?yz10⟩) (by assumption) ?rz10
          case yz10 => (intro w hSw; (try dsimp only at hSw); go_simp; try with_reducible rfl)
          case wz10 => rfl
          case' rz10 => simp only [Act.put, List.getElem_toArray, List.getElem_cons_zero, List.getElem_cons_succ, List.setIfInBounds_toArray, List.set_cons_zero, List.set_cons_succ]
          refine wpAnyH_take (i := 10) (v := ?vz11) rfl (by kernel_rfl) (by kernel_rfl) (by kernel_rfl) (fun _ _ _ h => h) (Or.inl ⟨?wz11, ?yz11⟩) (by assumption) ?rz11
          case yz11 => (intro w hSw; (try dsimp only at hSw); go_simp; try with_reducible rfl)
          case wz11 => rfl
          case' rz11 => simp only [Act.put, List.getElem_toArray, List.getElem_cons_zero, List.getElem_cons_succ, List.setIfInBounds_toArray, List.set_cons_zero, List.set_cons_succ]
          refine wpAnyH_done (by kernel_rfl) ?_ _
          have hkx : Hid (Kept (fun _ => True) wo wr.drew) := Lib.hid KX.out.drew
          by_cases hxy : x.no = y.no
          · have hxy' : (x.no == y.no) = true := by simpa using hxy
            go_wp2_with fail
            go_ret
            exact ⟨rfl, KW.out.trans hkx.out⟩
          · have hxy' : (x.no == y.no) = false := by simpa using hxy
            go_wp2_with fail
            go_roundw
            case measure => simp [intOf]; omega
            case rel =>
              refine ⟨j + 1, by omega, by simp, hkx, Lib.hid fun a x' ha hx' => ?_⟩
              rcases Nat.lt_succ_iff_lt_or_eq.1 ha with h1 | h1
              · exact NE.out a x' h1 hx'
              · subst h1
                rw [HXJ.out] at hx'
                injection hx' with hx'
                rw [← hx']
                exact hxy
        · obtain rfl : j = k := by omega
          have hjj : ¬ (j : Int) < (j : Int) := by omega
          have HC0 := Lib.hid (KX.out.cellv c0)
          have HC2 := Lib.hid (KX.out.cellv c2)
          have AP' : Hid (Apart xs (j + 1)) := Lib.hid fun a b' x' y' hab hb hx' hy' => by
            rcases Nat.lt_succ_iff_lt_or_eq.1 hb with h1 | h1
            · exact AP.out a b' x' y' hab h1 hx' hy'
            · subst h1
              rw [HY.out] at hy'
              injection hy' with hy'
              rw [← hy']
              exact NE.out a x' hab hx'
          replace KW := Kept.go KW KX.out
          replace HB := BlkH.go HB KX.out
          replace BX := BlkH.go BX KX.out
          replace BY := BlkH.go BY KX.out
          have HS : Hid (w.heap.size + 1 ≤ wr.heap.size) := Lib.hid (by have := HB.out.lt; omega)
          clear KX NE AP c0 c1 c2 c3
          go_upto_region 13 with fail
          go_cut [11, 12] (fun s11 s12 wx => ∃ (g : Nat) (k v : ByteArray) (no : Int) (gn fd : Bool), s11 = .pointer (some ⟨g, 0, none⟩) ∧ s12 = .bool fd ∧ Hid (Four wx g 0 k v no gn) ∧ Hid (Kept (fun _ => True) w wx) ∧ Hid (Blk wx w.heap.size 25 #[.int .i64 lv, .string lo, .string hi, .bool la, .int .i64 sd, .slice iA n ic, .slice kA m kc]) ∧
            Hid (Blk wx xb 25 #[.int .i64 lv, .string lo, .string hi, .bool la, .int .i64 sd, .slice iA n ic, .slice kA m kc]) ∧ Hid (Blk wx yb 25 #[.int .i64 lv, .string lo, .string hi, .bool la, .int .i64 sd, .slice iA n ic, .slice kA m kc]) ∧ Hid (wx.cell? ⟨b, off + j * 4 + 2, none⟩ = some (.int .i64 y.no)))
          case first =>
            have hk := (Kept.refl (fun _ => True) wr).drew
            replace KW := Kept.go KW hk
            replace HB := BlkH.go HB hk
            replace BX := BlkH.go BX hk
            replace BY := BlkH.go BY hk
            replace HC0 := CellH.go HC0 hk
            replace HC2 := CellH.go HC2 hk
            replace HS := SzH.go HS hk
            clear hk
            refine wp_region_held_drew (S := (fun W => (W.cell? ⟨w.heap.size, 0, none⟩ = some (.int .i64 lv) ∧ W.cell? ⟨w.heap.size, 1, none⟩ = some (.string lo) ∧ W.cell? ⟨w.heap.size, 2, none⟩ = some (.string hi) ∧ W.cell? ⟨w.heap.size, 3, none⟩ = some (.bool la) ∧ W.cell? ⟨w.heap.size, 4, none⟩ = some (.int .i64 sd) ∧ W.cell? ⟨w.heap.size, 5, none⟩ = some (.slice iA n ic) ∧ W.cell? ⟨w.heap.size, 6, none⟩ = some (.slice kA m kc)) ∧ W.cell? ⟨b, off + j * 4, none⟩ = some (.string y.key))) (by kernel_rfl) ?_ (fun hHeld => ?_)
            · exact ⟨Blk.box HB.out, HC0.out⟩
            refine wpAnyH_take (i := 0) (v := ?vz12) rfl (by kernel_rfl) (by kernel_rfl) (by kernel_rfl) (fun _ _ _ h => h) (Or.inl ⟨?wz12, ?yz12⟩) (by assumption) ?rz12
            case yz12 => (intro w hSw; (try dsimp only at hSw); go_simp; try with_reducible rfl)
            case wz12 => rfl
            case' rz12 => simp only [Act.put, List.getElem_toArray, List.getElem_cons_zero, List.setIfInBounds_toArray, List.set_cons_zero, List.set_cons_succ]
            refine wpAnyH_take (i := 1) (v := ?vz13) rfl (by kernel_rfl) (by kernel_rfl) (by kernel_rfl) (fun _ _ _ h => h) (Or.inl ⟨?wz13, ?yz13⟩) (by assumption) ?rz13
            case yz13 => (intro w hSw; (try dsimp only at hSw); go_simp; try with_reducible rfl)
            case wz13 => rfl
            case' rz13 => simp only [Act.put, List.getElem_toArray, List.getElem_cons_zero, List.getElem_cons_succ, List.setIfInBounds_toArray, List.set_cons_zero, List.set_cons_succ]
            refine wpAnyH_take (i := 2) (v := ?vz14) rfl (by kernel_rfl) (by kernel_rfl) (by kernel_rfl) (fun _ _ _ h => h) (Or.inl ⟨?wz14, ?yz14⟩) (by assumption) ?rz14
            case yz14 => (intro w hSw; (try dsimp only at hSw); go_simp; try with_reducible rfl)
            case wz14 => rfl
            case' rz14 => simp only [Act.put, List.getElem_toArray, List.getElem_cons_zero, List.getElem_cons_succ, List.setIfInBounds_toArray, List.set_cons_zero, List.set_cons_succ]
            refine wpAnyH_take (i := 3) (v := ?vz15) rfl (by kernel_rfl) (by kernel_rfl) (by kernel_rfl) (fun _ _ _ h => h) (Or.inl ⟨?wz15, ?yz15⟩) (by assumption) ?rz15
            case yz15 => (intro w hSw; (try dsimp only at hSw); go_simp; try with_reducible rfl)
            case wz15 => rfl
            case' rz15 => simp only [Act.put, List.getElem_toArray, List.getElem_cons_zero, List.getElem_cons_succ, List.setIfInBounds_toArray, List.set_cons_zero, List.set_cons_succ]
            refine wpAnyH_take (i := 4) (v := ?vz16) rfl (by kernel_rfl) (by kernel_rfl) (by kernel_rfl) (fun _ _ _ h => h) (Or.inl ⟨?wz16, ?yz16⟩) (by assumption) ?rz16
            case yz16 => (intro w hSw; (try dsimp only at hSw); go_simp; try with_reducible rfl)
            case wz16 => rfl
            case' rz16 => simp only [Act.put, List.getElem_toArray, List.getElem_cons_zero, List.getElem_cons_succ, List.setIfInBounds_toArray, List.set_cons_zero, List.set_cons_succ]
            refine wpAnyH_take (i := 5) (v := ?vz17) rfl (by kernel_rfl) (by kernel_rfl) (by kernel_rfl) (fun _ _ _ h => h) (Or.inl ⟨?wz17, ?yz17⟩) (by assumption) ?rz17
            case yz17 => (intro w hSw; (try dsimp only at hSw); go_simp; try with_reducible rfl)
            case wz17 => rfl
            case' rz17 => simp only [Act.put, List.getElem_toArray, List.getElem_cons_zero, List.getElem_cons_succ, List.setIfInBounds_toArray, List.set_cons_zero, List.set_cons_succ]
            refine wpAnyH_ready (rs := [6, 10]) (by kernel_rfl) (by simp) ?_
            refine AllReadyH.cons rfl (fun K hK => ?_) ?_
            · skip
              try go_simp
              (go_at_call 8; refine (h8 _ _ KW.out).mono ?_; rintro e wn ⟨yk, yv, yn, yg, fd, rfl, hk⟩; replace KW := Kept.go KW hk; replace HB := BlkH.go HB hk; replace BX := BlkH.go BX hk; replace BY := BlkH.go BY hk; replace HC0 := CellH.go HC0 hk; replace HC2 := CellH.go HC2 hk; replace HS := SzH.go HS hk; (try replace HL := BlkH.go HL hk); clear hk)
              try go_simp
              refine hK.out _ _ ?_ (fun hHeld => ?_)
              · exact ⟨Blk.box HB.out, HC0.out⟩
              clear hK K
              try simp only [Act.put, List.getElem_toArray, List.getElem_cons_zero, List.getElem_cons_succ, List.setIfInBounds_toArray, List.set_cons_zero, List.set_cons_succ]
              refine wpAnyH_take (i := 7) (v := ?vz18) rfl (by kernel_rfl) (by kernel_rfl) (by kernel_rfl) (fun _ _ _ h => h) (Or.inl ⟨?wz18, ?yz18⟩) (by assumption) ?rz18
              case yz18 => (intro w hSw; (try dsimp only at hSw); go_simp; try with_reducible rfl)
              case wz18 => rfl
              case' rz18 => simp only [Act.put, List.getElem_toArray, List.getElem_cons_zero, List.getElem_cons_succ, List.setIfInBounds_toArray, List.set_cons_zero, List.set_cons_succ]
              refine wpAnyH_take (i := 8) (v := ?vz19) rfl (by kernel_rfl) (by kernel_rfl) (by kernel_rfl) (fun _ _ _ h => h) (Or.inl ⟨?wz19, ?yz19⟩) (by assumption) ?rz19
              case yz19 => (intro w hSw; (try dsimp only at hSw); go_simp; try with_reducible rfl)
              case wz19 => rfl
              case' rz19 => simp only [Act.put, List.getElem_toArray, List.getElem_cons_zero, List.getElem_cons_succ, List.setIfInBounds_toArray, List.set_cons_zero, List.set_cons_succ]
              refine wpAnyH_take (i := 9) (v := ?vz20) rfl (by kernel_rfl) (by kernel_rfl) (by kernel_rfl) (fun _ _ _ h => h) (Or.inl ⟨?wz20, ?yz20⟩) (by assumption) ?rz20
              case yz20 => (intro w hSw; (try dsimp only at hSw); go_simp; try with_reducible rfl)
              case wz20 => rfl
              case' rz20 => simp only [Act.put, List.getElem_toArray, List.getElem_cons_zero, List.getElem_cons_succ, List.setIfInBounds_toArray, List.set_cons_zero, List.set_cons_succ]
              refine wpAnyH_ready (rs := [10]) (by kernel_rfl) (by simp) ?_
              refine AllReadyH.cons rfl (fun K hK => ?_) AllReadyH.nil
              (go_simp; first | (obtain ⟨gl, wn, hw, hg, HGL, HL, hk⟩ := alloc30 HS; simp only [zit] at hw HL; rw [hw, hg]; clear hw hg; replace KW := Kept.go KW hk; replace HB := BlkH.go HB hk; replace BX := BlkH.go BX hk; replace BY := BlkH.go BY hk; replace HC0 := CellH.go HC0 hk; replace HC2 := CellH.go HC2 hk; replace HS := SzH.go HS hk; clear hk) | (obtain ⟨gl, wn, hw, hg, HGL, HL, hk⟩ := alloc30d HS; simp only [zit] at hw HL; rw [hw, hg]; clear hw hg; replace KW := Kept.go KW hk; replace HB := BlkH.go HB hk; replace BX := BlkH.go BX hk; replace BY := BlkH.go BY hk; replace HC0 := CellH.go HC0 hk; replace HC2 := CellH.go HC2 hk; replace HS := SzH.go HS hk; clear hk))
              refine hK.out _ _ ?_ (fun hHeld => ?_)
              · exact ⟨Blk.box HB.out, HC0.out⟩
              clear hK K
              try simp only [Act.put, List.getElem_toArray, List.getElem_cons_zero, List.getElem_cons_succ, List.setIfInBounds_toArray, List.set_cons_zero, List.set_cons_succ]
              refine wpAnyH_ready (rs := [11]) (by kernel_rfl) (by simp) ?_
              refine AllReadyH.cons rfl (fun K hK => ?_) AllReadyH.nil
              (have cc0 := HL.out.cell 0; have cc1 := HL.out.cell 1; have cc2 := HL.out.cell 2; have cc3 := HL.out.cell 3; have ff0 := HL.out.frozen 0; have ff1 := HL.out.frozen 1; have ff2 := HL.out.frozen 2; have ff3 := HL.out.frozen 3; go_simp; obtain ⟨wn, hw, HL2, hk⟩ := set4_step HL.out (.string yk) (.string yv) (.int .i64 yn) (.bool yg); rw [hw]; clear hw cc0 cc1 cc2 cc3 ff0 ff1 ff2 ff3; replace KW := KeptH.far KW hk (Nat.le_trans (Nat.le_add_right _ 1) HGL.out); replace HB := far25 HB hk HL; replace BX := far25 BX hk HL; replace BY := far25 BY hk HL; replace HC0 := CellH.far HC0 hk HBLT HGL.out; replace HC2 := CellH.far HC2 hk HBLT HGL.out; replace HL := Lib.hid HL2; clear hk HL2)
              refine hK.out _ _ ?_ (fun hHeld => ?_)
              · exact ⟨Blk.box HB.out, HC0.out⟩
              clear hK K
              try simp only [Act.put, List.getElem_toArray, List.getElem_cons_zero, List.getElem_cons_succ, List.setIfInBounds_toArray, List.set_cons_zero, List.set_cons_succ]
              refine wpAnyH_take (i := 12) (v := ?vz21) rfl (by kernel_rfl) (by kernel_rfl) (by kernel_rfl) (fun _ _ _ h => h) (Or.inl ⟨?wz21, ?yz21⟩) (by assumption) ?rz21
              case yz21 => (intro w hSw; (try dsimp only at hSw); go_simp; try with_reducible rfl)
              case wz21 => rfl
              case' rz21 => simp only [Act.put, List.getElem_toArray, List.getElem_cons_zero, List.getElem_cons_succ, List.setIfInBounds_toArray, List.set_cons_zero, List.set_cons_succ]
              refine wpAnyH_done (by kernel_rfl) ?_ _
              go_wp2_with fail
              go_meet
              case rel => exact ⟨gl, yk, yv, yn, yg, fd, rfl, rfl, Lib.hid ⟨HL.out.cell 0, HL.out.cell 1, HL.out.cell 2, HL.out.cell 3⟩, KW, HB, BX, BY, HC2⟩
            refine AllReadyH.cons rfl (fun K hK => ?_) AllReadyH.nil
            (go_simp; first | (obtain ⟨gl, wn, hw, hg, HGL, HL, hk⟩ := alloc30 HS; simp only [zit] at hw HL; rw [hw, hg]; clear hw hg; replace KW := Kept.go KW hk; replace HB := BlkH.go HB hk; replace BX := BlkH.go BX hk; replace BY := BlkH.go BY hk; replace HC0 := CellH.go HC0 hk; replace HC2 := CellH.go HC2 hk; replace HS := SzH.go HS hk; clear hk) | (obtain ⟨gl, wn, hw, hg, HGL, HL, hk⟩ := alloc30d HS; simp only [zit] at hw HL; rw [hw, hg]; clear hw hg; replace KW := Kept.go KW hk; replace HB := BlkH.go HB hk; replace BX := BlkH.go BX hk; replace BY := BlkH.go BY hk; replace HC0 := CellH.go HC0 hk; replace HC2 := CellH.go HC2 hk; replace HS := SzH.go HS hk; clear hk))
            refine hK.out _ _ ?_ (fun hHeld => ?_)
            · exact ⟨Blk.box HB.out, HC0.out⟩
            clear hK K
            try simp only [Act.put, List.getElem_toArray, List.getElem_cons_zero, List.getElem_cons_succ, List.setIfInBounds_toArray, List.set_cons_zero, List.set_cons_succ]
            refine wpAnyH_ready (rs := [6]) (by kernel_rfl) (by simp) ?_
            refine AllReadyH.cons rfl (fun K hK => ?_) AllReadyH.nil
            try go_simp
            (go_at_call 8; refine (h8 _ _ KW.out).mono ?_; rintro e wn ⟨yk, yv, yn, yg, fd, rfl, hk⟩; replace KW := Kept.go KW hk; replace HB := BlkH.go HB hk; replace BX := BlkH.go BX hk; replace BY := BlkH.go BY hk; replace HC0 := CellH.go HC0 hk; replace HC2 := CellH.go HC2 hk; replace HS := SzH.go HS hk; (try replace HL := BlkH.go HL hk); clear hk)
            try go_simp
            refine hK.out _ _ ?_ (fun hHeld => ?_)
            · exact ⟨Blk.box HB.out, HC0.out⟩
            clear hK K
            try simp only [Act.put, List.getElem_toArray, List.getElem_cons_zero, List.getElem_cons_succ, List.setIfInBounds_toArray, List.set_cons_zero, List.set_cons_succ]
            refine wpAnyH_take (i := 7) (v := ?vz22) rfl (by kernel_rfl) (by kernel_rfl) (by kernel_rfl) (fun _ _ _ h => h) (Or.inl ⟨?wz22, ?yz22⟩) (by assumption) ?rz22
            case yz22 => (intro w hSw; (try dsimp only at hSw); go_simp; try with_reducible rfl)
            case wz22 => rfl
            case' rz22 => simp only [Act.put, List.getElem_toArray, List.getElem_cons_zero, List.getElem_cons_succ, List.setIfInBounds_toArray, List.set_cons_zero, List.set_cons_succ]
            refine wpAnyH_take (i := 8) (v := ?vz23) rfl (by kernel_rfl) (by kernel_rfl) (by kernel_rfl) (fun _ _ _ h => h) (Or.inl ⟨?wz23, ?yz23⟩) (by assumption) ?rz23
            case yz23 => (intro w hSw; (try dsimp only at hSw); go_simp; try with_reducible rfl)
            case wz23 => rfl
            case' rz23 => simp only [Act.put, List.getElem_toArray, List.getElem_cons_zero, List.getElem_cons_succ, List.setIfInBounds_toArray, List.set_cons_zero, List.set_cons_succ]
            refine wpAnyH_take (i := 9) (v := ?vz24) rfl (by kernel_rfl) (by kernel_rfl) (by kernel_rfl) (fun _ _ _ h => h) (Or.inl ⟨?wz24, ?yz24⟩) (by assumption) ?rz24
            case yz24 => (intro w hSw; (try dsimp only at hSw); go_simp; try with_reducible rfl)
            case wz24 => rfl
            case' rz24 => simp only [Act.put, List.getElem_toArray, List.getElem_cons_zero, List.getElem_cons_succ, List.setIfInBounds_toArray, List.set_cons_zero, List.set_cons_succ]
            refine wpAnyH_ready (rs := [11]) (by kernel_rfl) (by simp) ?_
            refine AllReadyH.cons rfl (fun K hK => ?_) AllReadyH.nil
            (have cc0 := HL.out.cell 0; have cc1 := HL.out.cell 1; have cc2 := HL.out.cell 2; have cc3 := HL.out.cell 3; have ff0 := HL.out.frozen 0; have ff1 := HL.out.frozen 1; have ff2 := HL.out.frozen 2; have ff3 := HL.out.frozen 3; go_simp; obtain ⟨wn, hw, HL2, hk⟩ := set4_step HL.out (.string yk) (.string yv) (.int .i64 yn) (.bool yg); rw [hw]; clear hw cc0 cc1 cc2 cc3 ff0 ff1 ff2 ff3; replace KW := KeptH.far KW hk (Nat.le_trans (Nat.le_add_right _ 1) HGL.out); replace HB := far25 HB hk HL; replace BX := far25 BX hk HL; replace BY := far25 BY hk HL; replace HC0 := CellH.far HC0 hk HBLT HGL.out; replace HC2 := CellH.far HC2 hk HBLT HGL.out; replace HL := Lib.hid HL2; clear hk HL2)
            refine hK.out _ _ ?_ (fun hHeld => ?_)
            · exact ⟨Blk.box HB.out, HC0.out⟩
            clear hK K
            try simp only [Act.put, List.getElem_toArray, List.getElem_cons_zero, List.getElem_cons_succ, List.setIfInBounds_toArray, List.set_cons_zero, List.set_cons_succ]
            refine wpAnyH_take (i := 12) (v := ?vz25) rfl (by kernel_rfl) (by kernel_rfl) (by kernel_rfl) (fun _ _ _ h => h) (Or.inl ⟨?wz25, ?yz25⟩) (by assumption) ?rz25
            case yz25 => (intro w hSw; (try dsimp only at hSw); go_simp; try with_reducible rfl)
            case wz25 => rfl
            case' rz25 => simp only [Act.put, List.getElem_toArray, List.getElem_cons_zero, List.getElem_cons_succ, List.setIfInBounds_toArray, List.set_cons_zero, List.set_cons_succ]
            refine wpAnyH_done (by kernel_rfl) ?_ _
            go_wp2_with fail
            go_meet
            case rel => exact ⟨gl, yk, yv, yn, yg, fd, rfl, rfl, Lib.hid ⟨HL.out.cell 0, HL.out.cell 1, HL.out.cell 2, HL.out.cell 3⟩, KW, HB, BX, BY, HC2⟩
          case rest =>
            obtain ⟨g, fk, fv, fn, fg, fd, rfl, rfl, FF, KW, HB, BX, BY, HC2⟩ := hcut
            have q2 := FF.out.2.2.1
            have h2 := HC2.out
            rw [Nat.zero_add] at q2
            cases fd with
            | true =>
              have GG : Hid (wc.cell? ⟨g, 2, none⟩ = some (.int .i64 fn) ∧ wc.cell? ⟨b, off + j * 4 + 2, none⟩ = some (.int .i64 y.no)) := Lib.hid ⟨q2, h2⟩
              clear q2 h2 HC2 FF
              go_upto_region 14 with fail
              refine wp_region_held_drew (S := (fun W => W.cell? ⟨g, 2, none⟩ = some (.int .i64 fn) ∧ W.cell? ⟨b, off + j * 4 + 2, none⟩ = some (.int .i64 y.no))) (by kernel_rfl) ?_ (fun hHeld => ?_)
              · exact GG.out
              refine wpAnyH_take (i := 0) (v := ?vz26) rfl (by kernel_rfl) (by kernel_rfl) (by kernel_rfl) (fun _ _ _ h => h) (Or.inl ⟨?wz26, ?yz26⟩) (by assumption) ?rz26
              case yz26 => (intro w hSw; (try dsimp only at hSw); go_simp; try with_reducible rfl)
              case wz26 => rfl
              case' rz26 => simp only [Act.put, List.getElem_toArray, List.getElem_cons_zero, List.setIfInBounds_toArray, List.set_cons_zero, List.set_cons_succ]
              refine wpAnyH_take (i := 1) (v := ?vz27) rfl (by kernel_rfl) (by kernel_rfl) (by kernel_rfl) (fun _ _ _ h => h) (Or.inl ⟨?wz27, ?yz27⟩) (by assumption) ?rz27
              case yz27 => (intro w hSw; (try dsimp only at hSw); go_simp; try with_reducible rfl)
              case wz27 => rfl
              case' rz27 => simp only [Act.put, List.getElem_toArray, List.getElem_cons_zero, List.getElem_cons_succ, List.setIfInBounds_toArray, List.set_cons_zero, List.set_cons_succ]
              refine wpAnyH_take (i := 2) (v := ?vz28) rfl (by kernel_rfl) (by kernel_rfl) (by kernel_rfl) (fun _ _ _ h => h) (Or.inl ⟨?wz28, ?yz28⟩) (by assumption) ?rz28
              case yz28 => (intro w hSw; (try dsimp only at hSw); go_simp; try with_reducible rfl)
              case wz28 => rfl
              case' rz28 => simp only [Act.put, List.getElem_toArray, List.getElem_cons_zero, List.getElem_cons_succ, List.setIfInBounds_toArray, List.set_cons_zero, List.set_cons_succ]
              refine wpAnyH_take (i := 3) (v := ?vz29) rfl (by kernel_rfl) (by kernel_rfl) (by kernel_rfl) (fun _ _ _ h => h) (Or.inl ⟨?wz29, ?yz29⟩) (by assumption) ?rz29
              case yz29 => (intro w hSw; (try dsimp only at hSw); go_simp; try with_reducible rfl)
              case wz29 => rfl
              case' rz29 => simp only [Act.put, List.getElem_toArray, List.getElem_cons_zero, List.getElem_cons_succ, List.setIfInBounds_toArray, List.set_cons_zero, List.set_cons_succ]
              refine wpAnyH_take (i := 4) (v := ?vz30) rfl (by kernel_rfl) (by kernel_rfl) (by kernel_rfl) (fun _ _ _ h => h) (Or.inl ⟨?wz30, ?yz30⟩) (by assumption) ?rz30
              case yz30 => (intro w hSw; (try dsimp only at hSw); go_simp; try with_reducible rfl)
              case wz30 => rfl
              case' rz30 => simp only [Act.put, List.getElem_toArray, List.getElem_cons_zero, List.getElem_cons_succ, List.setIfInBounds_toArray, List.set_cons_zero, List.set_cons_succ]
              refine wpAnyH_take (i := 5) (v := ?vz31) rfl (by kernel_rfl) (by kernel_rfl) (by kernel_rfl) (fun _ _ _ h => h) (Or.inl ⟨?wz31, ?yz31⟩) (by assumption) ?rz31
              case yz31 => (intro w hSw; (try dsimp only at hSw); go_simp; try with_reducible rfl)
              case wz31 => rfl
              case' rz31 => simp only [Act.put, List.getElem_toArray, List.getElem_cons_zero, List.getElem_cons_succ, List.setIfInBounds_toArray, List.set_cons_zero, List.set_cons_succ]
              refine wpAnyH_take (i := 6) (v := ?vz32) rfl (by kernel_rfl) (by kernel_rfl) (by kernel_rfl) (fun _ _ _ h => h) (Or.inl ⟨?wz32, ?yz32⟩) (by assumption) ?rz32
              case yz32 => (intro w hSw; (try dsimp only at hSw); go_simp; try with_reducible rfl)
              case wz32 => rfl
              case' rz32 => simp only [Act.put, List.getElem_toArray, List.getElem_cons_zero, List.getElem_cons_succ, List.setIfInBounds_toArray, List.set_cons_zero, List.set_cons_succ]
              refine wpAnyH_take (i := 7) (v := ?vz33) rfl (by kernel_rfl) (by kernel_rfl) (by kernel_rfl) (fun _ _ _ h => h) (Or.inl ⟨?wz33, ?yz33⟩) (by assumption) ?rz33
              case yz33 => (intro w hSw; (try dsimp only at hSw); go_simp; try with_reducible rfl)
              case wz33 => rfl
              case' rz33 => simp only [Act.put, List.getElem_toArray, List.getElem_cons_zero, List.getElem_cons_succ, List.setIfInBounds_toArray, List.set_cons_zero, List.set_cons_succ]
              refine wpAnyH_take (i := 8) (v := ?vz34) rfl (by kernel_rfl) (by kernel_rfl) (by kernel_rfl) (fun _ _ _ h => h) (Or.inl ⟨?wz34, ?yz34⟩) (by assumption) ?rz34
              case yz34 => (intro w hSw; (try dsimp only at hSw); go_simp; try with_reducible rfl)
              case wz34 => rfl
              case' rz34 => simp only [Act.put, List.getElem_toArray, List.getElem_cons_zero, List.getElem_cons_succ, List.setIfInBounds_toArray, List.set_cons_zero, List.set_cons_succ]
              refine wpAnyH_take (i := 9) (v := ?vz35) rfl (by kernel_rfl) (by kernel_rfl) (by kernel_rfl) (fun _ _ _ h => h) (Or.inl ⟨?wz35, ?yz35⟩) (by assumption) ?rz35
              case yz35 => (intro w hSw; (try dsimp only at hSw); go_simp; try with_reducible rfl)
              case wz35 => rfl
              case' rz35 => simp only [Act.put, List.getElem_toArray, List.getElem_cons_zero, List.getElem_cons_succ, List.setIfInBounds_toArray, List.set_cons_zero, List.set_cons_succ]
              refine wpAnyH_take (i := 10) (v := ?vz36) rfl (by kernel_rfl) (by kernel_rfl) (by kernel_rfl) (fun _ _ _ h => h) (Or.inl ⟨?wz36, ?yz36⟩) (by assumption) ?rz36
              case yz36 => (intro w hSw; (try dsimp only at hSw); go_simp; try with_reducible rfl)
              case wz36 => rfl
              case' rz36 => simp only [Act.put, List.getElem_toArray, List.getElem_cons_zero, List.getElem_cons_succ, List.setIfInBounds_toArray, List.set_cons_zero, List.set_cons_succ]
              refine wpAnyH_done (by kernel_rfl) ?_ _
              have hk := (Kept.refl (fun _ => True) wc).drew
              replace KW := Kept.go KW hk
              replace HB := BlkH.go HB hk
              replace BX := BlkH.go BX hk
              replace BY := BlkH.go BY hk
              clear hk
              by_cases hfn : fn = y.no
              · have hfn' : (fn == y.no) = true := by simpa using hfn
                go_wp2_with fail
                go_ret
                exact ⟨rfl, KW.out⟩
              · have hfn' : (fn == y.no) = false := by simpa using hfn
                go_wp2_with fail
                go_roundw
                case measure => simp [intOf]; omega
                case rel => exact ⟨j + 1, by omega, by simp, KW, HB, BX, BY, AP'⟩
            | false =>
              have hk := (Kept.refl (fun _ => True) wc).drew
              go_upto_region 14 with fail
              refine wp_region_held_drew (S := (fun _ => True)) (by kernel_rfl) ?_ (fun hHeld => ?_)
              · trivial
              refine wpAnyH_take (i := 0) (v := ?vz37) rfl (by kernel_rfl) (by kernel_rfl) (by kernel_rfl) (fun _ _ _ h => h) (Or.inl ⟨?wz37, ?yz37⟩) (by assumption) ?rz37
              case yz37 => (intro w hSw; (try dsimp only at hSw); go_simp; try with_reducible rfl)
              case wz37 => rfl
              case' rz37 => simp only [Act.put, List.getElem_toArray, List.getElem_cons_zero, List.setIfInBounds_toArray, List.set_cons_zero, List.set_cons_succ]
              refine wpAnyH_take (i := 1) (v := ?vz38) rfl (by kernel_rfl) (by kernel_rfl) (by kernel_rfl) (fun _ _ _ h => h) (Or.inl ⟨?wz38, ?yz38⟩) (by assumption) ?rz38
              case yz38 => (intro w hSw; (try dsimp only at hSw); go_simp; try with_reducible rfl)
              case wz38 => rfl
              case' rz38 => simp only [Act.put, List.getElem_toArray, List.getElem_cons_zero, List.getElem_cons_succ, List.setIfInBounds_toArray, List.set_cons_zero, List.set_cons_succ]
              refine wpAnyH_take (i := 2) (v := undef) rfl (by kernel_rfl) (by kernel_rfl) (by kernel_rfl) (fun _ _ _ h => h) (Or.inr ⟨rfl, rfl⟩) (by assumption) ?_
              simp only [Act.put, List.getElem_toArray, List.getElem_cons_zero, List.getElem_cons_succ, List.setIfInBounds_toArray, List.set_cons_zero, List.set_cons_succ]
              refine wpAnyH_take (i := 3) (v := undef) rfl (by kernel_rfl) (by kernel_rfl) (by kernel_rfl) (fun _ _ _ h => h) (Or.inr ⟨rfl, rfl⟩) (by assumption) ?_
              simp only [Act.put, List.getElem_toArray, List.getElem_cons_zero, List.getElem_cons_succ, List.setIfInBounds_toArray, List.set_cons_zero, List.set_cons_succ]
              refine wpAnyH_take (i := 4) (v := undef) rfl (by kernel_rfl) (by kernel_rfl) (by kernel_rfl) (fun _ _ _ h => h) (Or.inr ⟨rfl, rfl⟩) (by assumption) ?_
              simp only [Act.put, List.getElem_toArray, List.getElem_cons_zero, List.getElem_cons_succ, List.setIfInBounds_toArray, List.set_cons_zero, List.set_cons_succ]
              refine wpAnyH_take (i := 5) (v := undef) rfl (by kernel_rfl) (by kernel_rfl) (by kernel_rfl) (fun _ _ _ h => h) (Or.inr ⟨rfl, rfl⟩) (by assumption) ?_
              simp only [Act.put, List.getElem_toArray, List.getElem_cons_zero, List.getElem_cons_succ, List.setIfInBounds_toArray, List.set_cons_zero, List.set_cons_succ]
              refine wpAnyH_take (i := 6) (v := undef) rfl (by kernel_rfl) (by kernel_rfl) (by kernel_rfl) (fun _ _ _ h => h) (Or.inr ⟨rfl, rfl⟩) (by assumption) ?_
              simp only [Act.put, List.getElem_toArray, List.getElem_cons_zero, List.getElem_cons_succ, List.setIfInBounds_toArray, List.set_cons_zero, List.set_cons_succ]
              refine wpAnyH_take (i := 7) (v := undef) rfl (by kernel_rfl) (by kernel_rfl) (by kernel_rfl) (fun _ _ _ h => h) (Or.inr ⟨rfl, rfl⟩) (by assumption) ?_
              simp only [Act.put, List.getElem_toArray, List.getElem_cons_zero, List.getElem_cons_succ, List.setIfInBounds_toArray, List.set_cons_zero, List.set_cons_succ]
              refine wpAnyH_take (i := 8) (v := undef) rfl (by kernel_rfl) (by kernel_rfl) (by kernel_rfl) (fun _ _ _ h => h) (Or.inr ⟨rfl, rfl⟩) (by assumption) ?_
              simp only [Act.put, List.getElem_toArray, List.getElem_cons_zero, List.getElem_cons_succ, List.setIfInBounds_toArray, List.set_cons_zero, List.set_cons_succ]
              refine wpAnyH_take (i := 9) (v := undef) rfl (by kernel_rfl) (by kernel_rfl) (by kernel_rfl) (fun _ _ _ h => h) (Or.inr ⟨rfl, rfl⟩) (by assumption) ?_
              simp only [Act.put, List.getElem_toArray, List.getElem_cons_zero, List.getElem_cons_succ, List.setIfInBounds_toArray, List.set_cons_zero, List.set_cons_succ]
              refine wpAnyH_take (i := 10) (v := ?vz47) rfl (by kernel_rfl) (by kernel_rfl) (by kernel_rfl) (fun _ _ _ h => h) (Or.inl ⟨?wz47, ?yz47⟩) (by assumption) ?rz47
              case yz47 => (intro w hSw; (try dsimp only at hSw); go_simp; try with_reducible rfl)
              case wz47 => rfl
              case' rz47 => simp only [Act.put, List.getElem_toArray, List.getElem_cons_zero, List.getElem_cons_succ, List.setIfInBounds_toArray, List.set_cons_zero, List.set_cons_succ]
              refine wpAnyH_done (by kernel_rfl) ?_ _
              replace KW := Kept.go KW hk
              replace HB := BlkH.go HB hk
              replace BX := BlkH.go BX hk
              replace BY := BlkH.go BY hk
              clear hk
              go_wp2_with fail
              go_roundw
              case measure => simp [intOf]; omega
              case rel => exact ⟨j + 1, by omega, by simp, KW, HB, BX, BY, AP'⟩
    · obtain rfl : k = z := by omega
      have hkk : ¬ (k : Int) < (k : Int) := by omega
      go_wp2_with fail
      clear hkk h8
      cases cb with
      | false =>
        go_loopw [8, 13, 14, 15, 16, 17] (fun s8 s13 _ _ _ _ wx => s8 = .bool true ∧ s13 = .int .i64 0 ∧ wo = wx) (fun _ _ _ _ _ _ _ => 0)
        case atStart => exact ⟨rfl, rfl, rfl⟩
        case round =>
          obtain ⟨rfl, rfl, hww⟩ := hrel
          subst hww
          by_cases hk0 : (0 : Int) < (k : Int)
          · go_wp2_with fail
            go_ret
            exact ⟨rfl, KW.out⟩
          · go_wp2_with fail
            go_ret
            exact ⟨rfl, KW.out⟩
      | true =>
        have KL : Hid (Kept (fun b => b < w.heap.size) w wo) := Lib.hid (KW.out.mono fun _ _ _ => trivial)
        have HS1 : Hid (w.heap.size + 1 ≤ xb) := HSX1
        go_loopw [8, 13, 14, 15, 16, 17] (fun s8 s13 _ _ _ _ wx => ∃ (i : Nat) (fl : Bool) (X Y : Page) (A1 : Option Addr) (c1 : Nat) (A2 : Option Addr) (c2 : Nat) (A3 : Option Addr) (c3 : Nat) (A4 : Option Addr) (c4 : Nat), i ≤ k ∧ s8 = .bool fl ∧ s13 = .int .i64 i ∧ Hid (Inv p xs i fl X Y) ∧
          Hid (Kept (fun b => b < w.heap.size) w wx) ∧ Hid (Blk wx xb 25 #[.int .i64 X.level, .string X.low, .string X.high, .bool X.last, .int .i64 X.side, .slice A1 X.items.length c1, .slice A2 X.kids.length c2]) ∧ Hid (Blk wx yb 25 #[.int .i64 Y.level, .string Y.low, .string Y.high, .bool Y.last, .int .i64 Y.side, .slice A3 Y.items.length c3, .slice A4 Y.kids.length c4]) ∧ Hid (OwnR 4 ics w wx 30 (.slice A1 X.items.length c1) X.items) ∧ Hid (OwnR 2 kcs w wx 41 (.slice A2 X.kids.length c2) X.kids) ∧ Hid (OwnR 4 ics w wx 30 (.slice A3 Y.items.length c3) Y.items) ∧ Hid (OwnR 2 kcs w wx 41 (.slice A4 Y.kids.length c4) Y.kids)) (fun _ s13 _ _ _ _ _ => k - (intOf s13).toNat)
        case atStart =>
          obtain ⟨e1, e2, e3, e4, e5, e6, e7, e8⟩ := HE.out
          refine ⟨0, false, p, p, iA, ic, kA, kc, iA, ic, kA, kc, Nat.zero_le _, rfl, rfl, Lib.hid ⟨HCB.out, HCB.out, fun _ => ⟨rfl, rfl⟩⟩, KL, ?_, ?_, ?_, ?_, ?_, ?_⟩
          · rw [e1, e2, e3, e4, e5, e6, e7]; exact BX
          · rw [e1, e2, e3, e4, e5, e6, e7]; exact BY
          · exact Lib.hid (.inr HI.out)
          · exact Lib.hid (.inr HK.out)
          · exact Lib.hid (.inr HI.out)
          · exact Lib.hid (.inr HK.out)
        case round =>
          clear KW KL HB BX BY
          obtain ⟨i, fl, X, Y, A1, c1, A2, c2, A3, c3, A4, c4, hi, rfl, rfl, INV, KW, BX, BY, XI, XK, YI, YK⟩ := hrel
          by_cases hlt : i < k ∧ fl = false
          · obtain ⟨hik, rfl⟩ := hlt
            have hikz : (i : Int) < (k : Int) := by omega
            have hlx : xs.length = k := HE.out.2.2.2.2.2.2.2
            obtain ⟨j, hj⟩ : ∃ j, k - 1 - i = j := ⟨_, rfl⟩
            have hw1 : IntKind.i64.wrap ((k : Int) - 1) = (k : Int) - 1 := by rw [IntKind.wrap_i64]; omega
            have hw2 : IntKind.i64.wrap ((k : Int) - 1 - (i : Int)) = (j : Int) := by rw [IntKind.wrap_i64]; omega
            have hjz : (j : Int) < (k : Int) := by omega
            obtain ⟨x, hx⟩ : ∃ x, xs[i]? = some x := ⟨_, List.getElem?_eq_getElem (by omega)⟩
            obtain ⟨y, hy⟩ : ∃ y, xs[j]? = some y := ⟨_, List.getElem?_eq_getElem (by omega)⟩
            have HXI := Lib.hid hx
            have HYJ : Hid (xs.reverse[i]? = some y) := Lib.hid (by
              rw [List.getElem?_reverse (by omega), hlx, hj]
              exact hy)
            obtain ⟨b, off, hA, hbl, hc, x0, x1, x2, x3⟩ := ItR.at_ HX.out hx
            obtain ⟨b', off', hA', _, _, y0, y1, y2, y3⟩ := ItR.at_ HX.out hy
            rw [hA] at hA'
            injection hA' with hA'
            injection hA' with h1 h2
            subst h1 h2
            subst hA
            have HBLT := Lib.hid hbl
            have FX : Hid (Four wr b (off + i * 4) x.key x.val x.no x.gone) := Lib.hid ⟨CellH.low x0 KW.out hbl, CellH.low x1 KW.out hbl, CellH.low x2 KW.out hbl, CellH.low x3 KW.out hbl⟩
            have FY : Hid (Four wr b (off + j * 4) y.key y.val y.no y.gone) := Lib.hid ⟨CellH.low y0 KW.out hbl, CellH.low y1 KW.out hbl, CellH.low y2 KW.out hbl, CellH.low y3 KW.out hbl⟩
            have HS : Hid (yb + 1 ≤ wr.heap.size) := Lib.hid BY.out.lt
            clear hx hy hbl x0 x1 x2 x3 y0 y1 y2 y3 hj hlx hi hik
            go_upto_region 19 with fail
            go_cut [14, 15] (fun s14 s15 wx => ∃ (gq : Nat) (q : Page) (eq : Int) (A5 : Option Addr) (c5 : Nat) (A6 : Option Addr) (c6 : Nat), s14 = .pointer (some ⟨gq, 0, none⟩) ∧ s15 = .int .i64 eq ∧ Hid (PutIs X x q eq) ∧ Hid (Blk wx gq 25 #[.int .i64 q.level, .string q.low, .string q.high, .bool q.last, .int .i64 q.side, .slice A5 q.items.length c5, .slice A6 q.kids.length c6]) ∧ Hid (ItO wx 0 (.slice A5 q.items.length c5) q.items) ∧ Hid (KdO wx 0 (.slice A6 q.kids.length c6) q.kids) ∧ Hid (yb + 1 ≤ gq) ∧ Hid (Four wx b (off + i * 4) x.key x.val x.no x.gone) ∧ Hid (Four wx b (off + j * 4) y.key y.val y.no y.gone) ∧ Hid (yb + 1 ≤ wx.heap.size) ∧ Hid (Kept (fun b => b < w.heap.size) w wx) ∧ Hid (Blk wx xb 25 #[.int .i64 X.level, .string X.low, .string X.high, .bool X.last, .int .i64 X.side, .slice A1 X.items.length c1, .slice A2 X.kids.length c2]) ∧ Hid (Blk wx yb 25 #[.int .i64 Y.level, .string Y.low, .string Y.high, .bool Y.last, .int .i64 Y.side, .slice A3 Y.items.length c3, .slice A4 Y.kids.length c4]) ∧ Hid (OwnR 4 ics w wx 30 (.slice A1 X.items.length c1) X.items) ∧ Hid (OwnR 2 kcs w wx 41 (.slice A2 X.kids.length c2) X.kids) ∧ Hid (OwnR 4 ics w wx 30 (.slice A3 Y.items.length c3) Y.items) ∧ Hid (OwnR 2 kcs w wx 41 (.slice A4 Y.kids.length c4) Y.kids))
            case first =>
              have hk := (Kept.refl (fun _ => True) wr).drew
              replace KW := KeptL.go KW hk
              replace BX := BlkH.go BX hk
              replace BY := BlkH.go BY hk
              replace XI := OwnR.go XI hk
              replace XK := OwnR.go XK hk
              replace YI := OwnR.go YI hk
              replace YK := OwnR.go YK hk
              replace FX := FourH.go FX hk
              replace FY := FourH.go FY hk
              replace HS := SzH.go HS hk
              clear hk
              refine wp_region_held_drew (S := (fun W => (W.cell? ⟨xb, 0, none⟩ = some (.int .i64 X.level) ∧ W.cell? ⟨xb, 1, none⟩ = some (.string X.low) ∧ W.cell? ⟨xb, 2, none⟩ = some (.string X.high) ∧ W.cell? ⟨xb, 3, none⟩ = some (.bool X.last) ∧ W.cell? ⟨xb, 4, none⟩ = some (.int .i64 X.side) ∧ W.cell? ⟨xb, 5, none⟩ = some (.slice A1 X.items.length c1) ∧ W.cell? ⟨xb, 6, none⟩ = some (.slice A2 X.kids.length c2)) ∧ (W.cell? ⟨b, off + i * 4, none⟩ = some (.string x.key) ∧ W.cell? ⟨b, off + i * 4 + 1, none⟩ = some (.string x.val) ∧ W.cell? ⟨b, off + i * 4 + 2, none⟩ = some (.int .i64 x.no) ∧ W.cell? ⟨b, off + i * 4 + 3, none⟩ = some (.bool x.gone)))) (by kernel_rfl) ?_ (fun hHeld => ?_)
              · exact ⟨Blk.box BX.out, FX.out⟩
              refine wpAnyH_take (i := 0) (v := ?vz48) rfl (by kernel_rfl) (by kernel_rfl) (by kernel_rfl) (fun _ _ _ h => h) (Or.inl ⟨?wz48, ?yz48⟩) (by assumption) ?rz48
              case yz48 => (intro w hSw; (try dsimp only at hSw); go_simp; try with_reducible rfl)
              case wz48 => rfl
              case' rz48 => simp only [Act.put, List.getElem_toArray, List.getElem_cons_zero, List.setIfInBounds_toArray, List.set_cons_zero, List.set_cons_succ]
              refine wpAnyH_take (i := 1) (v := ?vz49) rfl (by kernel_rfl) (by kernel_rfl) (by kernel_rfl) (fun _ _ _ h => h) (Or.inl ⟨?wz49, ?yz49⟩) (by assumption) ?rz49
              case yz49 => (intro w hSw; (try dsimp only at hSw); go_simp; try with_reducible rfl)
              case wz49 => rfl
              case' rz49 => simp only [Act.put, List.getElem_toArray, List.getElem_cons_zero, List.getElem_cons_succ, List.setIfInBounds_toArray, List.set_cons_zero, List.set_cons_succ]
              refine wpAnyH_take (i := 2) (v := ?vz50) rfl (by kernel_rfl) (by kernel_rfl) (by kernel_rfl) (fun _ _ _ h => h) (Or.inl ⟨?wz50, ?yz50⟩) (by assumption) ?rz50
              case yz50 => (intro w hSw; (try dsimp only at hSw); go_simp; try with_reducible rfl)
              case wz50 => rfl
              case' rz50 => simp only [Act.put, List.getElem_toArray, List.getElem_cons_zero, List.getElem_cons_succ, List.setIfInBounds_toArray, List.set_cons_zero, List.set_cons_succ]
              refine wpAnyH_take (i := 3) (v := ?vz51) rfl (by kernel_rfl) (by kernel_rfl) (by kernel_rfl) (fun _ _ _ h => h) (Or.inl ⟨?wz51, ?yz51⟩) (by assumption) ?rz51
              case yz51 => (intro w hSw; (try dsimp only at hSw); go_simp; try with_reducible rfl)
              case wz51 => rfl
              case' rz51 => simp only [Act.put, List.getElem_toArray, List.getElem_cons_zero, List.getElem_cons_succ, List.setIfInBounds_toArray, List.set_cons_zero, List.set_cons_succ]
              refine wpAnyH_take (i := 4) (v := ?vz52) rfl (by kernel_rfl) (by kernel_rfl) (by kernel_rfl) (fun _ _ _ h => h) (Or.inl ⟨?wz52, ?yz52⟩) (by assumption) ?rz52
              case yz52 => (intro w hSw; (try dsimp only at hSw); go_simp; try with_reducible rfl)
              case wz52 => rfl
              case' rz52 => simp only [Act.put, List.getElem_toArray, List.getElem_cons_zero, List.getElem_cons_succ, List.setIfInBounds_toArray, List.set_cons_zero, List.set_cons_succ]
              refine wpAnyH_ready (rs := [5, 9]) (by kernel_rfl) (by simp) ?_
              refine AllReadyH.cons rfl (fun K hK => ?_) ?_
              · skip
                try go_simp
                (go_at_call 9; refine (put9 X x _ (OwnR.rd encI XI KW) (OwnR.rd encK XK KW) INV.out.chX).mono ?_; rintro e wn ⟨q, eq, A5, c5, A6, c6, rfl, PQ, QI, QK, hk⟩; replace KW := KeptL.go KW hk; replace BX := BlkH.go BX hk; replace BY := BlkH.go BY hk; replace XI := OwnR.go XI hk; replace XK := OwnR.go XK hk; replace YI := OwnR.go YI hk; replace YK := OwnR.go YK hk; replace FX := FourH.go FX hk; replace FY := FourH.go FY hk; replace HS := SzH.go HS hk; (try replace HL := BlkH.go HL hk); clear hk)
                try go_simp
                refine hK.out _ _ ?_ (fun hHeld => ?_)
                · exact ⟨Blk.box BX.out, FX.out⟩
                clear hK K
                try simp only [Act.put, List.getElem_toArray, List.getElem_cons_zero, List.getElem_cons_succ, List.setIfInBounds_toArray, List.set_cons_zero, List.set_cons_succ]
                refine wpAnyH_take (i := 6) (v := ?vz53) rfl (by kernel_rfl) (by kernel_rfl) (by kernel_rfl) (fun _ _ _ h => h) (Or.inl ⟨?wz53, ?yz53⟩) (by assumption) ?rz53
                case yz53 => (intro w hSw; (try dsimp only at hSw); go_simp; try with_reducible rfl)
                case wz53 => rfl
                case' rz53 => simp only [Act.put, List.getElem_toArray, List.getElem_cons_zero, List.getElem_cons_succ, List.setIfInBounds_toArray, List.set_cons_zero, List.set_cons_succ]
                refine wpAnyH_take (i := 7) (v := ?vz54) rfl (by kernel_rfl) (by kernel_rfl) (by kernel_rfl) (fun _ _ _ h => h) (Or.inl ⟨?wz54, ?yz54⟩) (by assumption) ?rz54
                case yz54 => (intro w hSw; (try dsimp only at hSw); go_simp; try with_reducible rfl)
                case wz54 => rfl
                case' rz54 => simp only [Act.put, List.getElem_toArray, List.getElem_cons_zero, List.getElem_cons_succ, List.setIfInBounds_toArray, List.set_cons_zero, List.set_cons_succ]
                refine wpAnyH_take (i := 8) (v := ?vz55) rfl (by kernel_rfl) (by kernel_rfl) (by kernel_rfl) (fun _ _ _ h => h) (Or.inl ⟨?wz55, ?yz55⟩) (by assumption) ?rz55
                case yz55 => (intro w hSw; (try dsimp only at hSw); go_simp; try with_reducible rfl)
                case wz55 => rfl
                case' rz55 => simp only [Act.put, List.getElem_toArray, List.getElem_cons_zero, List.getElem_cons_succ, List.setIfInBounds_toArray, List.set_cons_zero, List.set_cons_succ]
                refine wpAnyH_ready (rs := [9]) (by kernel_rfl) (by simp) ?_
                refine AllReadyH.cons rfl (fun K hK => ?_) AllReadyH.nil
                (go_simp; first | (obtain ⟨gl, wn, hw, hg, HGL, HL, hk, hfar⟩ := alloc_step HS zpage; simp only [zpage] at hw HL; rw [hw, hg]; clear hw hg; replace KW := KeptL.go KW hk; replace BX := BlkH.go BX hk; replace BY := BlkH.go BY hk; replace XI := OwnR.go XI hk; replace XK := OwnR.go XK hk; replace YI := OwnR.go YI hk; replace YK := OwnR.go YK hk; replace FX := FourH.go FX hk; replace FY := FourH.go FY hk; replace HS := SzH.go HS hk; (try replace QI := RowH.go QI hk); (try replace QK := RowH.go QK hk); clear hk) | (obtain ⟨gl, wn, hw, hg, HGL, HL, hk, hfar⟩ := alloc_stepd HS zpage; simp only [zpage] at hw HL; rw [hw, hg]; clear hw hg; replace KW := KeptL.go KW hk; replace BX := BlkH.go BX hk; replace BY := BlkH.go BY hk; replace XI := OwnR.go XI hk; replace XK := OwnR.go XK hk; replace YI := OwnR.go YI hk; replace YK := OwnR.go YK hk; replace FX := FourH.go FX hk; replace FY := FourH.go FY hk; replace HS := SzH.go HS hk; (try replace QI := RowH.go QI hk); (try replace QK := RowH.go QK hk); clear hk))
                refine hK.out _ _ ?_ (fun hHeld => ?_)
                · exact ⟨Blk.box BX.out, FX.out⟩
                clear hK K
                try simp only [Act.put, List.getElem_toArray, List.getElem_cons_zero, List.getElem_cons_succ, List.setIfInBounds_toArray, List.set_cons_zero, List.set_cons_succ]
                refine wpAnyH_ready (rs := [10]) (by kernel_rfl) (by simp) ?_
                refine AllReadyH.cons rfl (fun K hK => ?_) AllReadyH.nil
                (have cc0 := HL.out.cell 0; have cc1 := HL.out.cell 1; have cc2 := HL.out.cell 2; have cc3 := HL.out.cell 3; have cc4 := HL.out.cell 4; have cc5 := HL.out.cell 5; have cc6 := HL.out.cell 6; have ff0 := HL.out.frozen 0; have ff1 := HL.out.frozen 1; have ff2 := HL.out.frozen 2; have ff3 := HL.out.frozen 3; have ff4 := HL.out.frozen 4; have ff5 := HL.out.frozen 5; have ff6 := HL.out.frozen 6; go_simp; obtain ⟨wn, hw, HL2, hk⟩ := set_step HL.out (.int .i64 q.level) (.string q.low) (.string q.high) (.bool q.last) (.int .i64 q.side) (.slice A5 q.items.length c5) (.slice A6 q.kids.length c6); rw [hw]; clear hw cc0 ff0 cc1 ff1 cc2 ff2 cc3 ff3 cc4 ff4 cc5 ff5 cc6 ff6; replace KW := KeptL.far KW hk (by have := HGL.out; have := HS1.out; have := HSX.out; omega); replace BX := BlkH.far BX hk (by have := HGL.out; have := HSX.out; omega); replace BY := BlkH.far BY hk (by have := HGL.out; omega); replace XI := OwnR.far XI hk HL (by decide); replace XK := OwnR.far XK hk HL (by decide); replace YI := OwnR.far YI hk HL (by decide); replace YK := OwnR.far YK hk HL (by decide); replace FX := FourH.far FX hk HBLT (by have := HGL.out; have := HS1.out; have := HSX.out; omega); replace FY := FourH.far FY hk HBLT (by have := HGL.out; have := HS1.out; have := HSX.out; omega); replace QI := RowH.far QI hk HL (by decide); replace QK := RowH.far QK hk HL (by decide); replace HS := SzH.go HS hk; replace HL := Lib.hid HL2; clear hk HL2)
                refine hK.out _ _ ?_ (fun hHeld => ?_)
                · exact ⟨Blk.box BX.out, FX.out⟩
                clear hK K
                try simp only [Act.put, List.getElem_toArray, List.getElem_cons_zero, List.getElem_cons_succ, List.setIfInBounds_toArray, List.set_cons_zero, List.set_cons_succ]
                refine wpAnyH_take (i := 11) (v := ?vz56) rfl (by kernel_rfl) (by kernel_rfl) (by kernel_rfl) (fun _ _ _ h => h) (Or.inl ⟨?wz56, ?yz56⟩) (by assumption) ?rz56
                case yz56 => (intro w hSw; (try dsimp only at hSw); go_simp; try with_reducible rfl)
                case wz56 => rfl
                case' rz56 => simp only [Act.put, List.getElem_toArray, List.getElem_cons_zero, List.getElem_cons_succ, List.setIfInBounds_toArray, List.set_cons_zero, List.set_cons_succ]
                refine wpAnyH_done (by kernel_rfl) ?_ _
                go_wp2_with fail
                go_meet
                case rel => exact ⟨gl, q, eq, A5, c5, A6, c6, rfl, rfl, PQ, HL, QI, QK, HGL, FX, FY, HS, KW, BX, BY, XI, XK, YI, YK⟩
              refine AllReadyH.cons rfl (fun K hK => ?_) AllReadyH.nil
              (go_simp; first | (obtain ⟨gl, wn, hw, hg, HGL, HL, hk, hfar⟩ := alloc_step HS zpage; simp only [zpage] at hw HL; rw [hw, hg]; clear hw hg; replace KW := KeptL.go KW hk; replace BX := BlkH.go BX hk; replace BY := BlkH.go BY hk; replace XI := OwnR.go XI hk; replace XK := OwnR.go XK hk; replace YI := OwnR.go YI hk; replace YK := OwnR.go YK hk; replace FX := FourH.go FX hk; replace FY := FourH.go FY hk; replace HS := SzH.go HS hk; (try replace QI := RowH.go QI hk); (try replace QK := RowH.go QK hk); clear hk) | (obtain ⟨gl, wn, hw, hg, HGL, HL, hk, hfar⟩ := alloc_stepd HS zpage; simp only [zpage] at hw HL; rw [hw, hg]; clear hw hg; replace KW := KeptL.go KW hk; replace BX := BlkH.go BX hk; replace BY := BlkH.go BY hk; replace XI := OwnR.go XI hk; replace XK := OwnR.go XK hk; replace YI := OwnR.go YI hk; replace YK := OwnR.go YK hk; replace FX := FourH.go FX hk; replace FY := FourH.go FY hk; replace HS := SzH.go HS hk; (try replace QI := RowH.go QI hk); (try replace QK := RowH.go QK hk); clear hk))
              refine hK.out _ _ ?_ (fun hHeld => ?_)
              · exact ⟨Blk.box BX.out, FX.out⟩
              clear hK K
              try simp only [Act.put, List.getElem_toArray, List.getElem_cons_zero, List.getElem_cons_succ, List.setIfInBounds_toArray, List.set_cons_zero, List.set_cons_succ]
              refine wpAnyH_ready (rs := [5]) (by kernel_rfl) (by simp) ?_
              refine AllReadyH.cons rfl (fun K hK => ?_) AllReadyH.nil
              try go_simp
              (go_at_call 9; refine (put9 X x _ (OwnR.rd encI XI KW) (OwnR.rd encK XK KW) INV.out.chX).mono ?_; rintro e wn ⟨q, eq, A5, c5, A6, c6, rfl, PQ, QI, QK, hk⟩; replace KW := KeptL.go KW hk; replace BX := BlkH.go BX hk; replace BY := BlkH.go BY hk; replace XI := OwnR.go XI hk; replace XK := OwnR.go XK hk; replace YI := OwnR.go YI hk; replace YK := OwnR.go YK hk; replace FX := FourH.go FX hk; replace FY := FourH.go FY hk; replace HS := SzH.go HS hk; (try replace HL := BlkH.go HL hk); clear hk)
              try go_simp
              refine hK.out _ _ ?_ (fun hHeld => ?_)
              · exact ⟨Blk.box BX.out, FX.out⟩
              clear hK K
              try simp only [Act.put, List.getElem_toArray, List.getElem_cons_zero, List.getElem_cons_succ, List.setIfInBounds_toArray, List.set_cons_zero, List.set_cons_succ]
              refine wpAnyH_take (i := 6) (v := ?vz57) rfl (by kernel_rfl) (by kernel_rfl) (by kernel_rfl) (fun _ _ _ h => h) (Or.inl ⟨?wz57, ?yz57⟩) (by assumption) ?rz57
              case yz57 => (intro w hSw; (try dsimp only at hSw); go_simp; try with_reducible rfl)
              case wz57 => rfl
              case' rz57 => simp only [Act.put, List.getElem_toArray, List.getElem_cons_zero, List.getElem_cons_succ, List.setIfInBounds_toArray, List.set_cons_zero, List.set_cons_succ]
              refine wpAnyH_take (i := 7) (v := ?vz58) rfl (by kernel_rfl) (by kernel_rfl) (by kernel_rfl) (fun _ _ _ h => h) (Or.inl ⟨?wz58, ?yz58⟩) (by assumption) ?rz58
              case yz58 => (intro w hSw; (try dsimp only at hSw); go_simp; try with_reducible rfl)
              case wz58 => rfl
              case' rz58 => simp only [Act.put, List.getElem_toArray, List.getElem_cons_zero, List.getElem_cons_succ, List.setIfInBounds_toArray, List.set_cons_zero, List.set_cons_succ]
              refine wpAnyH_take (i := 8) (v := ?vz59) rfl (by kernel_rfl) (by kernel_rfl) (by kernel_rfl) (fun _ _ _ h => h) (Or.inl ⟨?wz59, ?yz59⟩) (by assumption) ?rz59
              case yz59 => (intro w hSw; (try dsimp only at hSw); go_simp; try with_reducible rfl)
              case wz59 => rfl
              case' rz59 => simp only [Act.put, List.getElem_toArray, List.getElem_cons_zero, List.getElem_cons_succ, List.setIfInBounds_toArray, List.set_cons_zero, List.set_cons_succ]
              refine wpAnyH_ready (rs := [10]) (by kernel_rfl) (by simp) ?_
              refine AllReadyH.cons rfl (fun K hK => ?_) AllReadyH.nil
              (have cc0 := HL.out.cell 0; have cc1 := HL.out.cell 1; have cc2 := HL.out.cell 2; have cc3 := HL.out.cell 3; have cc4 := HL.out.cell 4; have cc5 := HL.out.cell 5; have cc6 := HL.out.cell 6; have ff0 := HL.out.frozen 0; have ff1 := HL.out.frozen 1; have ff2 := HL.out.frozen 2; have ff3 := HL.out.frozen 3; have ff4 := HL.out.frozen 4; have ff5 := HL.out.frozen 5; have ff6 := HL.out.frozen 6; go_simp; obtain ⟨wn, hw, HL2, hk⟩ := set_step HL.out (.int .i64 q.level) (.string q.low) (.string q.high) (.bool q.last) (.int .i64 q.side) (.slice A5 q.items.length c5) (.slice A6 q.kids.length c6); rw [hw]; clear hw cc0 ff0 cc1 ff1 cc2 ff2 cc3 ff3 cc4 ff4 cc5 ff5 cc6 ff6; replace KW := KeptL.far KW hk (by have := HGL.out; have := HS1.out; have := HSX.out; omega); replace BX := BlkH.far BX hk (by have := HGL.out; have := HSX.out; omega); replace BY := BlkH.far BY hk (by have := HGL.out; omega); replace XI := OwnR.far XI hk HL (by decide); replace XK := OwnR.far XK hk HL (by decide); replace YI := OwnR.far YI hk HL (by decide); replace YK := OwnR.far YK hk HL (by decide); replace FX := FourH.far FX hk HBLT (by have := HGL.out; have := HS1.out; have := HSX.out; omega); replace FY := FourH.far FY hk HBLT (by have := HGL.out; have := HS1.out; have := HSX.out; omega); replace QI := RowH.far QI hk HL (by decide); replace QK := RowH.far QK hk HL (by decide); replace HS := SzH.go HS hk; replace HL := Lib.hid HL2; clear hk HL2)
              refine hK.out _ _ ?_ (fun hHeld => ?_)
              · exact ⟨Blk.box BX.out, FX.out⟩
              clear hK K
              try simp only [Act.put, List.getElem_toArray, List.getElem_cons_zero, List.getElem_cons_succ, List.setIfInBounds_toArray, List.set_cons_zero, List.set_cons_succ]
              refine wpAnyH_take (i := 11) (v := ?vz60) rfl (by kernel_rfl) (by kernel_rfl) (by kernel_rfl) (fun _ _ _ h => h) (Or.inl ⟨?wz60, ?yz60⟩) (by assumption) ?rz60
              case yz60 => (intro w hSw; (try dsimp only at hSw); go_simp; try with_reducible rfl)
              case wz60 => rfl
              case' rz60 => simp only [Act.put, List.getElem_toArray, List.getElem_cons_zero, List.getElem_cons_succ, List.setIfInBounds_toArray, List.set_cons_zero, List.set_cons_succ]
              refine wpAnyH_done (by kernel_rfl) ?_ _
              go_wp2_with fail
              go_meet
              case rel => exact ⟨gl, q, eq, A5, c5, A6, c6, rfl, rfl, PQ, HL, QI, QK, HGL, FX, FY, HS, KW, BX, BY, XI, XK, YI, YK⟩
            case rest =>
              obtain ⟨gq, q, eq, A5, c5, A6, c6, rfl, rfl, PQ, BQ, QI, QK, HGQ, FX, FY, HS, KW, BX, BY, XI, XK, YI, YK⟩ := hcut
              go_upto_region 20 with fail
              go_cut [16, 17] (fun s16 s17 wx => ∃ (gr : Nat) (r : Page) (er : Int) (A7 : Option Addr) (c7 : Nat) (A8 : Option Addr) (c8 : Nat), s16 = .pointer (some ⟨gr, 0, none⟩) ∧ s17 = .int .i64 er ∧ Hid (PutIs Y y r er) ∧ Hid (Blk wx gr 25 #[.int .i64 r.level, .string r.low, .string r.high, .bool r.last, .int .i64 r.side, .slice A7 r.items.length c7, .slice A8 r.kids.length c8]) ∧ Hid (ItO wx 0 (.slice A7 r.items.length c7) r.items) ∧ Hid (KdO wx 0 (.slice A8 r.kids.length c8) r.kids) ∧ Hid (yb + 1 ≤ gr) ∧ Hid (Blk wx gq 25 #[.int .i64 q.level, .string q.low, .string q.high, .bool q.last, .int .i64 q.side, .slice A5 q.items.length c5, .slice A6 q.kids.length c6]) ∧ Hid (ItO wx 0 (.slice A5 q.items.length c5) q.items) ∧ Hid (KdO wx 0 (.slice A6 q.kids.length c6) q.kids) ∧ Hid (Kept (fun b => b < w.heap.size) w wx) ∧ Hid (Blk wx xb 25 #[.int .i64 X.level, .string X.low, .string X.high, .bool X.last, .int .i64 X.side, .slice A1 X.items.length c1, .slice A2 X.kids.length c2]) ∧ Hid (Blk wx yb 25 #[.int .i64 Y.level, .string Y.low, .string Y.high, .bool Y.last, .int .i64 Y.side, .slice A3 Y.items.length c3, .slice A4 Y.kids.length c4]) ∧ Hid (OwnR 4 ics w wx 30 (.slice A1 X.items.length c1) X.items) ∧ Hid (OwnR 2 kcs w wx 41 (.slice A2 X.kids.length c2) X.kids) ∧ Hid (OwnR 4 ics w wx 30 (.slice A3 Y.items.length c3) Y.items) ∧ Hid (OwnR 2 kcs w wx 41 (.slice A4 Y.kids.length c4) Y.kids))
              case first =>
                have hk := (Kept.refl (fun _ => True) wc).drew
                replace KW := KeptL.go KW hk
                replace BX := BlkH.go BX hk
                replace BY := BlkH.go BY hk
                replace XI := OwnR.go XI hk
                replace XK := OwnR.go XK hk
                replace YI := OwnR.go YI hk
                replace YK := OwnR.go YK hk
                replace FX := FourH.go FX hk
                replace FY := FourH.go FY hk
                replace HS := SzH.go HS hk
                replace BQ := BlkH.go BQ hk
                replace QI := RowH.go QI hk
                replace QK := RowH.go QK hk
                clear hk
                refine wp_region_held_drew (S := (fun W => (W.cell? ⟨yb, 0, none⟩ = some (.int .i64 Y.level) ∧ W.cell? ⟨yb, 1, none⟩ = some (.string Y.low) ∧ W.cell? ⟨yb, 2, none⟩ = some (.string Y.high) ∧ W.cell? ⟨yb, 3, none⟩ = some (.bool Y.last) ∧ W.cell? ⟨yb, 4, none⟩ = some (.int .i64 Y.side) ∧ W.cell? ⟨yb, 5, none⟩ = some (.slice A3 Y.items.length c3) ∧ W.cell? ⟨yb, 6, none⟩ = some (.slice A4 Y.kids.length c4)) ∧ (W.cell? ⟨b, off + j * 4, none⟩ = some (.string y.key) ∧ W.cell? ⟨b, off + j * 4 + 1, none⟩ = some (.string y.val) ∧ W.cell? ⟨b, off + j * 4 + 2, none⟩ = some (.int .i64 y.no) ∧ W.cell? ⟨b, off + j * 4 + 3, none⟩ = some (.bool y.gone)))) (by kernel_rfl) ?_ (fun hHeld => ?_)
                · exact ⟨Blk.box BY.out, FY.out⟩
                refine wpAnyH_take (i := 0) (v := ?vz61) rfl (by kernel_rfl) (by kernel_rfl) (by kernel_rfl) (fun _ _ _ h => h) (Or.inl ⟨?wz61, ?yz61⟩) (by assumption) ?rz61
                case yz61 => (intro w hSw; (try dsimp only at hSw); go_simp; try with_reducible rfl)
                case wz61 => rfl
                case' rz61 => simp only [Act.put, List.getElem_toArray, List.getElem_cons_zero, List.setIfInBounds_toArray, List.set_cons_zero, List.set_cons_succ]
                refine wpAnyH_take (i := 1) (v := ?vz62) rfl (by kernel_rfl) (by kernel_rfl) (by kernel_rfl) (fun _ _ _ h => h) (Or.inl ⟨?wz62, ?yz62⟩) (by assumption) ?rz62
                case yz62 => (intro w hSw; (try dsimp only at hSw); go_simp; try with_reducible rfl)
                case wz62 => rfl
                case' rz62 => simp only [Act.put, List.getElem_toArray, List.getElem_cons_zero, List.getElem_cons_succ, List.setIfInBounds_toArray, List.set_cons_zero, List.set_cons_succ]
                refine wpAnyH_take (i := 2) (v := ?vz63) rfl (by kernel_rfl) (by kernel_rfl) (by kernel_rfl) (fun _ _ _ h => h) (Or.inl ⟨?wz63, ?yz63⟩) (by assumption) ?rz63
                case yz63 => (intro w hSw; (try dsimp only at hSw); go_simp; try with_reducible rfl)
                case wz63 => rfl
                case' rz63 => simp only [Act.put, List.getElem_toArray, List.getElem_cons_zero, List.getElem_cons_succ, List.setIfInBounds_toArray, List.set_cons_zero, List.set_cons_succ]
                refine wpAnyH_take (i := 3) (v := ?vz64) rfl (by kernel_rfl) (by kernel_rfl) (by kernel_rfl) (fun _ _ _ h => h) (Or.inl ⟨?wz64, ?yz64⟩) (by assumption) ?rz64
                case yz64 => (intro w hSw; (try dsimp only at hSw); go_simp; try with_reducible rfl)
                case wz64 => rfl
                case' rz64 => simp only [Act.put, List.getElem_toArray, List.getElem_cons_zero, List.getElem_cons_succ, List.setIfInBounds_toArray, List.set_cons_zero, List.set_cons_succ]
                refine wpAnyH_take (i := 4) (v := ?vz65) rfl (by kernel_rfl) (by kernel_rfl) (by kernel_rfl) (fun _ _ _ h => h) (Or.inl ⟨?wz65, ?yz65⟩) (by assumption) ?rz65
                case yz65 => (intro w hSw; (try dsimp only at hSw); go_simp; try with_reducible rfl)
                case wz65 => rfl
                case' rz65 => simp only [Act.put, List.getElem_toArray, List.getElem_cons_zero, List.getElem_cons_succ, List.setIfInBounds_toArray, List.set_cons_zero, List.set_cons_succ]
                refine wpAnyH_take (i := 5) (v := ?vz66) rfl (by kernel_rfl) (by kernel_rfl) (by kernel_rfl) (fun _ _ _ h => h) (Or.inl ⟨?wz66, ?yz66⟩) (by assumption) ?rz66
                case yz66 => (intro w hSw; (try dsimp only at hSw); go_simp; try with_reducible rfl)
                case wz66 => rfl
                case' rz66 => simp only [Act.put, List.getElem_toArray, List.getElem_cons_zero, List.getElem_cons_succ, List.setIfInBounds_toArray, List.set_cons_zero, List.set_cons_succ]
                refine wpAnyH_take (i := 6) (v := ?vz67) rfl (by kernel_rfl) (by kernel_rfl) (by kernel_rfl) (fun _ _ _ h => h) (Or.inl ⟨?wz67, ?yz67⟩) (by assumption) ?rz67
                case yz67 => (intro w hSw; (try dsimp only at hSw); go_simp; try with_reducible rfl)
                case wz67 => rfl
                case' rz67 => simp only [Act.put, List.getElem_toArray, List.getElem_cons_zero, List.getElem_cons_succ, List.setIfInBounds_toArray, List.set_cons_zero, List.set_cons_succ]
                refine wpAnyH_take (i := 7) (v := ?vz68) rfl (by kernel_rfl) (by kernel_rfl) (by kernel_rfl) (fun _ _ _ h => h) (Or.inl ⟨?wz68, ?yz68⟩) (by assumption) ?rz68
                case yz68 => (intro w hSw; (try dsimp only at hSw); go_simp; try with_reducible rfl)
                case wz68 => rfl
                case' rz68 => simp only [Act.put, List.getElem_toArray, List.getElem_cons_zero, List.getElem_cons_succ, List.setIfInBounds_toArray, List.set_cons_zero, List.set_cons_succ]
                refine wpAnyH_take (i := 8) (v := ?vz69) rfl (by kernel_rfl) (by kernel_rfl) (by kernel_rfl) (fun _ _ _ h => h) (Or.inl ⟨?wz69, ?yz69⟩) (by assumption) ?rz69
                case yz69 => (intro w hSw; (try dsimp only at hSw); go_simp; try with_reducible rfl)
                case wz69 => rfl
                case' rz69 => simp only [Act.put, List.getElem_toArray, List.getElem_cons_zero, List.getElem_cons_succ, List.setIfInBounds_toArray, List.set_cons_zero, List.set_cons_succ]
                refine wpAnyH_ready (rs := [9, 13]) (by kernel_rfl) (by simp) ?_
                refine AllReadyH.cons rfl (fun K hK => ?_) ?_
                · skip
                  try go_simp
                  (go_at_call 9; refine (put9 Y y _ (OwnR.rd encI YI KW) (OwnR.rd encK YK KW) INV.out.chY).mono ?_; rintro e wn ⟨r, er, A7, c7, A8, c8, rfl, PR, RI, RK, hk⟩; replace KW := KeptL.go KW hk; replace BX := BlkH.go BX hk; replace BY := BlkH.go BY hk; replace XI := OwnR.go XI hk; replace XK := OwnR.go XK hk; replace YI := OwnR.go YI hk; replace YK := OwnR.go YK hk; replace FX := FourH.go FX hk; replace FY := FourH.go FY hk; replace HS := SzH.go HS hk; replace BQ := BlkH.go BQ hk; replace QI := RowH.go QI hk; replace QK := RowH.go QK hk; (try replace HL := BlkH.go HL hk); clear hk)
                  try go_simp
                  refine hK.out _ _ ?_ (fun hHeld => ?_)
                  · exact ⟨Blk.box BY.out, FY.out⟩
                  clear hK K
                  try simp only [Act.put, List.getElem_toArray, List.getElem_cons_zero, List.getElem_cons_succ, List.setIfInBounds_toArray, List.set_cons_zero, List.set_cons_succ]
                  refine wpAnyH_take (i := 10) (v := ?vz70) rfl (by kernel_rfl) (by kernel_rfl) (by kernel_rfl) (fun _ _ _ h => h) (Or.inl ⟨?wz70, ?yz70⟩) (by assumption) ?rz70
                  case yz70 => (intro w hSw; (try dsimp only at hSw); go_simp; try with_reducible rfl)
                  case wz70 => rfl
                  case' rz70 => simp only [Act.put, List.getElem_toArray, List.getElem_cons_zero, List.getElem_cons_succ, List.setIfInBounds_toArray, List.set_cons_zero, List.set_cons_succ]
                  refine wpAnyH_take (i := 11) (v := ?vz71) rfl (by kernel_rfl) (by kernel_rfl) (by kernel_rfl) (fun _ _ _ h => h) (Or.inl ⟨?wz71, ?yz71⟩) (by assumption) ?rz71
                  case yz71 => (intro w hSw; (try dsimp only at hSw); go_simp; try with_reducible rfl)
                  case wz71 => rfl
                  case' rz71 => simp only [Act.put, List.getElem_toArray, List.getElem_cons_zero, List.getElem_cons_succ, List.setIfInBounds_toArray, List.set_cons_zero, List.set_cons_succ]
                  refine wpAnyH_take (i := 12) (v := ?vz72) rfl (by kernel_rfl) (by kernel_rfl) (by kernel_rfl) (fun _ _ _ h => h) (Or.inl ⟨?wz72, ?yz72⟩) (by assumption) ?rz72
                  case yz72 => (intro w hSw; (try dsimp only at hSw); go_simp; try with_reducible rfl)
                  case wz72 => rfl
                  case' rz72 => simp only [Act.put, List.getElem_toArray, List.getElem_cons_zero, List.getElem_cons_succ, List.setIfInBounds_toArray, List.set_cons_zero, List.set_cons_succ]
                  refine wpAnyH_ready (rs := [13]) (by kernel_rfl) (by simp) ?_
                  refine AllReadyH.cons rfl (fun K hK => ?_) AllReadyH.nil
                  (go_simp; first | (obtain ⟨gl, wn, hw, hg, HGL, HL, hk, hfar⟩ := alloc_step HS zpage; simp only [zpage] at hw HL; rw [hw, hg]; clear hw hg; have hne := hfar gq _ _ BQ.out; replace KW := KeptL.go KW hk; replace BX := BlkH.go BX hk; replace BY := BlkH.go BY hk; replace XI := OwnR.go XI hk; replace XK := OwnR.go XK hk; replace YI := OwnR.go YI hk; replace YK := OwnR.go YK hk; replace FX := FourH.go FX hk; replace FY := FourH.go FY hk; replace HS := SzH.go HS hk; replace BQ := BlkH.go BQ hk; replace QI := RowH.go QI hk; replace QK := RowH.go QK hk; (try replace RI := RowH.go RI hk); (try replace RK := RowH.go RK hk); clear hk) | (obtain ⟨gl, wn, hw, hg, HGL, HL, hk, hfar⟩ := alloc_stepd HS zpage; simp only [zpage] at hw HL; rw [hw, hg]; clear hw hg; have hne := hfar gq _ _ BQ.out; replace KW := KeptL.go KW hk; replace BX := BlkH.go BX hk; replace BY := BlkH.go BY hk; replace XI := OwnR.go XI hk; replace XK := OwnR.go XK hk; replace YI := OwnR.go YI hk; replace YK := OwnR.go YK hk; replace FX := FourH.go FX hk; replace FY := FourH.go FY hk; replace HS := SzH.go HS hk; replace BQ := BlkH.go BQ hk; replace QI := RowH.go QI hk; replace QK := RowH.go QK hk; (try replace RI := RowH.go RI hk); (try replace RK := RowH.go RK hk); clear hk))
                  refine hK.out _ _ ?_ (fun hHeld => ?_)
                  · exact ⟨Blk.box BY.out, FY.out⟩
                  clear hK K
                  try simp only [Act.put, List.getElem_toArray, List.getElem_cons_zero, List.getElem_cons_succ, List.setIfInBounds_toArray, List.set_cons_zero, List.set_cons_succ]
                  refine wpAnyH_ready (rs := [14]) (by kernel_rfl) (by simp) ?_
                  refine AllReadyH.cons rfl (fun K hK => ?_) AllReadyH.nil
                  (have cc0 := HL.out.cell 0; have cc1 := HL.out.cell 1; have cc2 := HL.out.cell 2; have cc3 := HL.out.cell 3; have cc4 := HL.out.cell 4; have cc5 := HL.out.cell 5; have cc6 := HL.out.cell 6; have ff0 := HL.out.frozen 0; have ff1 := HL.out.frozen 1; have ff2 := HL.out.frozen 2; have ff3 := HL.out.frozen 3; have ff4 := HL.out.frozen 4; have ff5 := HL.out.frozen 5; have ff6 := HL.out.frozen 6; go_simp; obtain ⟨wn, hw, HL2, hk⟩ := set_step HL.out (.int .i64 r.level) (.string r.low) (.string r.high) (.bool r.last) (.int .i64 r.side) (.slice A7 r.items.length c7) (.slice A8 r.kids.length c8); rw [hw]; clear hw cc0 ff0 cc1 ff1 cc2 ff2 cc3 ff3 cc4 ff4 cc5 ff5 cc6 ff6; replace KW := KeptL.far KW hk (by have := HGL.out; have := HS1.out; have := HSX.out; omega); replace BX := BlkH.far BX hk (by have := HGL.out; have := HSX.out; omega); replace BY := BlkH.far BY hk (by have := HGL.out; omega); replace XI := OwnR.far XI hk HL (by decide); replace XK := OwnR.far XK hk HL (by decide); replace YI := OwnR.far YI hk HL (by decide); replace YK := OwnR.far YK hk HL (by decide); replace FX := FourH.far FX hk HBLT (by have := HGL.out; have := HS1.out; have := HSX.out; omega); replace FY := FourH.far FY hk HBLT (by have := HGL.out; have := HS1.out; have := HSX.out; omega); replace BQ := BlkH.far BQ hk hne; replace QI := RowH.far QI hk HL (by decide); replace QK := RowH.far QK hk HL (by decide); replace RI := RowH.far RI hk HL (by decide); replace RK := RowH.far RK hk HL (by decide); replace HS := SzH.go HS hk; replace HL := Lib.hid HL2; clear hk HL2)
                  refine hK.out _ _ ?_ (fun hHeld => ?_)
                  · exact ⟨Blk.box BY.out, FY.out⟩
                  clear hK K
                  try simp only [Act.put, List.getElem_toArray, List.getElem_cons_zero, List.getElem_cons_succ, List.setIfInBounds_toArray, List.set_cons_zero, List.set_cons_succ]
                  refine wpAnyH_take (i := 15) (v := ?vz73) rfl (by kernel_rfl) (by kernel_rfl) (by kernel_rfl) (fun _ _ _ h => h) (Or.inl ⟨?wz73, ?yz73⟩) (by assumption) ?rz73
                  case yz73 => (intro w hSw; (try dsimp only at hSw); go_simp; try with_reducible rfl)
                  case wz73 => rfl
                  case' rz73 => simp only [Act.put, List.getElem_toArray, List.getElem_cons_zero, List.getElem_cons_succ, List.setIfInBounds_toArray, List.set_cons_zero, List.set_cons_succ]
                  refine wpAnyH_done (by kernel_rfl) ?_ _
                  go_wp2_with fail
                  go_meet
                  case rel => exact ⟨gl, r, er, A7, c7, A8, c8, rfl, rfl, PR, HL, RI, RK, HGL, BQ, QI, QK, KW, BX, BY, XI, XK, YI, YK⟩
                refine AllReadyH.cons rfl (fun K hK => ?_) AllReadyH.nil
                (go_simp; first | (obtain ⟨gl, wn, hw, hg, HGL, HL, hk, hfar⟩ := alloc_step HS zpage; simp only [zpage] at hw HL; rw [hw, hg]; clear hw hg; have hne := hfar gq _ _ BQ.out; replace KW := KeptL.go KW hk; replace BX := BlkH.go BX hk; replace BY := BlkH.go BY hk; replace XI := OwnR.go XI hk; replace XK := OwnR.go XK hk; replace YI := OwnR.go YI hk; replace YK := OwnR.go YK hk; replace FX := FourH.go FX hk; replace FY := FourH.go FY hk; replace HS := SzH.go HS hk; replace BQ := BlkH.go BQ hk; replace QI := RowH.go QI hk; replace QK := RowH.go QK hk; (try replace RI := RowH.go RI hk); (try replace RK := RowH.go RK hk); clear hk) | (obtain ⟨gl, wn, hw, hg, HGL, HL, hk, hfar⟩ := alloc_stepd HS zpage; simp only [zpage] at hw HL; rw [hw, hg]; clear hw hg; have hne := hfar gq _ _ BQ.out; replace KW := KeptL.go KW hk; replace BX := BlkH.go BX hk; replace BY := BlkH.go BY hk; replace XI := OwnR.go XI hk; replace XK := OwnR.go XK hk; replace YI := OwnR.go YI hk; replace YK := OwnR.go YK hk; replace FX := FourH.go FX hk; replace FY := FourH.go FY hk; replace HS := SzH.go HS hk; replace BQ := BlkH.go BQ hk; replace QI := RowH.go QI hk; replace QK := RowH.go QK hk; (try replace RI := RowH.go RI hk); (try replace RK := RowH.go RK hk); clear hk))
                refine hK.out _ _ ?_ (fun hHeld => ?_)
                · exact ⟨Blk.box BY.out, FY.out⟩
                clear hK K
                try simp only [Act.put, List.getElem_toArray, List.getElem_cons_zero, List.getElem_cons_succ, List.setIfInBounds_toArray, List.set_cons_zero, List.set_cons_succ]
                refine wpAnyH_ready (rs := [9]) (by kernel_rfl) (by simp) ?_
                refine AllReadyH.cons rfl (fun K hK => ?_) AllReadyH.nil
                try go_simp
                (go_at_call 9; refine (put9 Y y _ (OwnR.rd encI YI KW) (OwnR.rd encK YK KW) INV.out.chY).mono ?_; rintro e wn ⟨r, er, A7, c7, A8, c8, rfl, PR, RI, RK, hk⟩; replace KW := KeptL.go KW hk; replace BX := BlkH.go BX hk; replace BY := BlkH.go BY hk; replace XI := OwnR.go XI hk; replace XK := OwnR.go XK hk; replace YI := OwnR.go YI hk; replace YK := OwnR.go YK hk; replace FX := FourH.go FX hk; replace FY := FourH.go FY hk; replace HS := SzH.go HS hk; replace BQ := BlkH.go BQ hk; replace QI := RowH.go QI hk; replace QK := RowH.go QK hk; (try replace HL := BlkH.go HL hk); clear hk)
                try go_simp
                refine hK.out _ _ ?_ (fun hHeld => ?_)
                · exact ⟨Blk.box BY.out, FY.out⟩
                clear hK K
                try simp only [Act.put, List.getElem_toArray, List.getElem_cons_zero, List.getElem_cons_succ, List.setIfInBounds_toArray, List.set_cons_zero, List.set_cons_succ]
                refine wpAnyH_take (i := 10) (v := ?vz74) rfl (by kernel_rfl) (by kernel_rfl) (by kernel_rfl) (fun _ _ _ h => h) (Or.inl ⟨?wz74, ?yz74⟩) (by assumption) ?rz74
                case yz74 => (intro w hSw; (try dsimp only at hSw); go_simp; try with_reducible rfl)
                case wz74 => rfl
                case' rz74 => simp only [Act.put, List.getElem_toArray, List.getElem_cons_zero, List.getElem_cons_succ, List.setIfInBounds_toArray, List.set_cons_zero, List.set_cons_succ]
                refine wpAnyH_take (i := 11) (v := ?vz75) rfl (by kernel_rfl) (by kernel_rfl) (by kernel_rfl) (fun _ _ _ h => h) (Or.inl ⟨?wz75, ?yz75⟩) (by assumption) ?rz75
                case yz75 => (intro w hSw; (try dsimp only at hSw); go_simp; try with_reducible rfl)
                case wz75 => rfl
                case' rz75 => simp only [Act.put, List.getElem_toArray, List.getElem_cons_zero, List.getElem_cons_succ, List.setIfInBounds_toArray, List.set_cons_zero, List.set_cons_succ]
                refine wpAnyH_take (i := 12) (v := ?vz76) rfl (by kernel_rfl) (by kernel_rfl) (by kernel_rfl) (fun _ _ _ h => h) (Or.inl ⟨?wz76, ?yz76⟩) (by assumption) ?rz76
                case yz76 => (intro w hSw; (try dsimp only at hSw); go_simp; try with_reducible rfl)
                case wz76 => rfl
                case' rz76 => simp only [Act.put, List.getElem_toArray, List.getElem_cons_zero, List.getElem_cons_succ, List.setIfInBounds_toArray, List.set_cons_zero, List.set_cons_succ]
                refine wpAnyH_ready (rs := [14]) (by kernel_rfl) (by simp) ?_
                refine AllReadyH.cons rfl (fun K hK => ?_) AllReadyH.nil
                (have cc0 := HL.out.cell 0; have cc1 := HL.out.cell 1; have cc2 := HL.out.cell 2; have cc3 := HL.out.cell 3; have cc4 := HL.out.cell 4; have cc5 := HL.out.cell 5; have cc6 := HL.out.cell 6; have ff0 := HL.out.frozen 0; have ff1 := HL.out.frozen 1; have ff2 := HL.out.frozen 2; have ff3 := HL.out.frozen 3; have ff4 := HL.out.frozen 4; have ff5 := HL.out.frozen 5; have ff6 := HL.out.frozen 6; go_simp; obtain ⟨wn, hw, HL2, hk⟩ := set_step HL.out (.int .i64 r.level) (.string r.low) (.string r.high) (.bool r.last) (.int .i64 r.side) (.slice A7 r.items.length c7) (.slice A8 r.kids.length c8); rw [hw]; clear hw cc0 ff0 cc1 ff1 cc2 ff2 cc3 ff3 cc4 ff4 cc5 ff5 cc6 ff6; replace KW := KeptL.far KW hk (by have := HGL.out; have := HS1.out; have := HSX.out; omega); replace BX := BlkH.far BX hk (by have := HGL.out; have := HSX.out; omega); replace BY := BlkH.far BY hk (by have := HGL.out; omega); replace XI := OwnR.far XI hk HL (by decide); replace XK := OwnR.far XK hk HL (by decide); replace YI := OwnR.far YI hk HL (by decide); replace YK := OwnR.far YK hk HL (by decide); replace FX := FourH.far FX hk HBLT (by have := HGL.out; have := HS1.out; have := HSX.out; omega); replace FY := FourH.far FY hk HBLT (by have := HGL.out; have := HS1.out; have := HSX.out; omega); replace BQ := BlkH.far BQ hk hne; replace QI := RowH.far QI hk HL (by decide); replace QK := RowH.far QK hk HL (by decide); replace RI := RowH.far RI hk HL (by decide); replace RK := RowH.far RK hk HL (by decide); replace HS := SzH.go HS hk; replace HL := Lib.hid HL2; clear hk HL2)
                refine hK.out _ _ ?_ (fun hHeld => ?_)
                · exact ⟨Blk.box BY.out, FY.out⟩
                clear hK K
                try simp only [Act.put, List.getElem_toArray, List.getElem_cons_zero, List.getElem_cons_succ, List.setIfInBounds_toArray, List.set_cons_zero, List.set_cons_succ]
                refine wpAnyH_take (i := 15) (v := ?vz77) rfl (by kernel_rfl) (by kernel_rfl) (by kernel_rfl) (fun _ _ _ h => h) (Or.inl ⟨?wz77, ?yz77⟩) (by assumption) ?rz77
                case yz77 => (intro w hSw; (try dsimp only at hSw); go_simp; try with_reducible rfl)
                case wz77 => rfl
                case' rz77 => simp only [Act.put, List.getElem_toArray, List.getElem_cons_zero, List.getElem_cons_succ, List.setIfInBounds_toArray, List.set_cons_zero, List.set_cons_succ]
                refine wpAnyH_done (by kernel_rfl) ?_ _
                go_wp2_with fail
                go_meet
                case rel => exact ⟨gl, r, er, A7, c7, A8, c8, rfl, rfl, PR, HL, RI, RK, HGL, BQ, QI, QK, KW, BX, BY, XI, XK, YI, YK⟩
              case rest =>
                obtain ⟨gr, r, er, A7, c7, A8, c8, rfl, rfl, PR, BR, RI, RK, HGR, BQ, QI, QK, KW, BX, BY, XI, XK, YI, YK⟩ := hcut
                clear FX FY HS
                have NX := HSX.out
                have NR := HGR.out
                have N1 := HS1.out
                go_upto_if 102 with fail
                go_cut [] (fun wx => ∃ (X' : Page) (B1 : Option Addr) (d1 : Nat) (B2 : Option Addr) (d2 : Nat), Hid (X' = if eq = 0 then q else X) ∧ Hid (Blk wx gr 25 #[.int .i64 r.level, .string r.low, .string r.high, .bool r.last, .int .i64 r.side, .slice A7 r.items.length c7, .slice A8 r.kids.length c8]) ∧ Hid (ItO wx 0 (.slice A7 r.items.length c7) r.items) ∧ Hid (KdO wx 0 (.slice A8 r.kids.length c8) r.kids) ∧ Hid (Kept (fun b => b < w.heap.size) w wx) ∧ Hid (Blk wx xb 25 #[.int .i64 X'.level, .string X'.low, .string X'.high, .bool X'.last, .int .i64 X'.side, .slice B1 X'.items.length d1, .slice B2 X'.kids.length d2]) ∧ Hid (Blk wx yb 25 #[.int .i64 Y.level, .string Y.low, .string Y.high, .bool Y.last, .int .i64 Y.side, .slice A3 Y.items.length c3, .slice A4 Y.kids.length c4]) ∧ Hid (OwnR 4 ics w wx 30 (.slice B1 X'.items.length d1) X'.items) ∧ Hid (OwnR 2 kcs w wx 41 (.slice B2 X'.kids.length d2) X'.kids) ∧ Hid (OwnR 4 ics w wx 30 (.slice A3 Y.items.length c3) Y.items) ∧ Hid (OwnR 2 kcs w wx 41 (.slice A4 Y.kids.length c4) Y.kids))
                case first =>
                  by_cases he : eq = 0
                  · subst he
                    have bc0 := BX.out.cell 0
                    have bc1 := BX.out.cell 1
                    have bc2 := BX.out.cell 2
                    have bc3 := BX.out.cell 3
                    have bc4 := BX.out.cell 4
                    have bc5 := BX.out.cell 5
                    have bc6 := BX.out.cell 6
                    have bf0 := BX.out.frozen 0
                    have bf1 := BX.out.frozen 1
                    have bf2 := BX.out.frozen 2
                    have bf3 := BX.out.frozen 3
                    have bf4 := BX.out.frozen 4
                    have bf5 := BX.out.frozen 5
                    have bf6 := BX.out.frozen 6
                    have qc0 := BQ.out.cell 0
                    have qc1 := BQ.out.cell 1
                    have qc2 := BQ.out.cell 2
                    have qc3 := BQ.out.cell 3
                    have qc4 := BQ.out.cell 4
                    have qc5 := BQ.out.cell 5
                    have qc6 := BQ.out.cell 6
                    obtain ⟨wn, hw, HB2, hk⟩ := set_step BX.out (.int .i64 q.level) (.string q.low) (.string q.high) (.bool q.last) (.int .i64 q.side) (.slice A5 q.items.length c5) (.slice A6 q.kids.length c6)
                    go_wp2_with fail
                    (try rw [hw])
                    clear hw
                    replace KW := KeptL.far KW hk (by omega)
                    replace BY := BlkH.far BY hk (by omega)
                    replace BR := BlkH.far BR hk (by omega)
                    replace XI : Hid (OwnR 4 ics w wn 30 (.slice A5 q.items.length c5) q.items) := Lib.hid (.inl (RowH.far QI hk BX (by decide)).out)
                    replace XK : Hid (OwnR 2 kcs w wn 41 (.slice A6 q.kids.length c6) q.kids) := Lib.hid (.inl (RowH.far QK hk BX (by decide)).out)
                    replace YI := OwnR.far YI hk BX (by decide)
                    replace YK := OwnR.far YK hk BX (by decide)
                    replace RI := RowH.far RI hk BX (by decide)
                    replace RK := RowH.far RK hk BX (by decide)
                    go_meet
                    case rel => exact ⟨q, A5, c5, A6, c6, Lib.hid (by simp), BR, RI, RK, KW, Lib.hid HB2, BY, XI, XK, YI, YK⟩
                  · have he' : (eq == 0) = false := by simpa using he
                    go_wp2_with fail
                    go_meet
                    case rel => exact ⟨X, A1, c1, A2, c2, Lib.hid (if_neg he).symm, BR, RI, RK, KW, BX, BY, XI, XK, YI, YK⟩
                case rest =>
                  obtain ⟨X', B1, d1, B2, d2, EX, BR, RI, RK, KW, BX, BY, XI, XK, YI, YK⟩ := hcut
                  clear BQ QI QK
                  go_upto_if 105 with fail
                  go_cut [] (fun wx => ∃ (Y' : Page) (B3 : Option Addr) (d3 : Nat) (B4 : Option Addr) (d4 : Nat), Hid (Y' = if er = 0 then r else Y) ∧ Hid (Kept (fun b => b < w.heap.size) w wx) ∧ Hid (Blk wx xb 25 #[.int .i64 X'.level, .string X'.low, .string X'.high, .bool X'.last, .int .i64 X'.side, .slice B1 X'.items.length d1, .slice B2 X'.kids.length d2]) ∧ Hid (Blk wx yb 25 #[.int .i64 Y'.level, .string Y'.low, .string Y'.high, .bool Y'.last, .int .i64 Y'.side, .slice B3 Y'.items.length d3, .slice B4 Y'.kids.length d4]) ∧ Hid (OwnR 4 ics w wx 30 (.slice B1 X'.items.length d1) X'.items) ∧ Hid (OwnR 2 kcs w wx 41 (.slice B2 X'.kids.length d2) X'.kids) ∧ Hid (OwnR 4 ics w wx 30 (.slice B3 Y'.items.length d3) Y'.items) ∧ Hid (OwnR 2 kcs w wx 41 (.slice B4 Y'.kids.length d4) Y'.kids))
                  case first =>
                    by_cases he : er = 0
                    · subst he
                      have bc0 := BY.out.cell 0
                      have bc1 := BY.out.cell 1
                      have bc2 := BY.out.cell 2
                      have bc3 := BY.out.cell 3
                      have bc4 := BY.out.cell 4
                      have bc5 := BY.out.cell 5
                      have bc6 := BY.out.cell 6
                      have bf0 := BY.out.frozen 0
                      have bf1 := BY.out.frozen 1
                      have bf2 := BY.out.frozen 2
                      have bf3 := BY.out.frozen 3
                      have bf4 := BY.out.frozen 4
                      have bf5 := BY.out.frozen 5
                      have bf6 := BY.out.frozen 6
                      have qc0 := BR.out.cell 0
                      have qc1 := BR.out.cell 1
                      have qc2 := BR.out.cell 2
                      have qc3 := BR.out.cell 3
                      have qc4 := BR.out.cell 4
                      have qc5 := BR.out.cell 5
                      have qc6 := BR.out.cell 6
                      obtain ⟨wn, hw, HB2, hk⟩ := set_step BY.out (.int .i64 r.level) (.string r.low) (.string r.high) (.bool r.last) (.int .i64 r.side) (.slice A7 r.items.length c7) (.slice A8 r.kids.length c8)
                      go_wp2_with fail
                      (try rw [hw])
                      clear hw
                      replace KW := KeptL.far KW hk (by omega)
                      replace BX := BlkH.far BX hk (by omega)
                      replace YI : Hid (OwnR 4 ics w wn 30 (.slice A7 r.items.length c7) r.items) := Lib.hid (.inl (RowH.far RI hk BY (by decide)).out)
                      replace YK : Hid (OwnR 2 kcs w wn 41 (.slice A8 r.kids.length c8) r.kids) := Lib.hid (.inl (RowH.far RK hk BY (by decide)).out)
                      replace XI := OwnR.far XI hk BY (by decide)
                      replace XK := OwnR.far XK hk BY (by decide)
                      go_meet
                      case rel => exact ⟨r, A7, c7, A8, c8, Lib.hid (by simp), KW, BX, Lib.hid HB2, XI, XK, YI, YK⟩
                    · have he' : (er == 0) = false := by simpa using he
                      go_wp2_with fail
                      go_meet
                      case rel => exact ⟨Y, A3, c3, A4, c4, Lib.hid (if_neg he).symm, KW, BX, BY, XI, XK, YI, YK⟩
                  case rest =>
                    obtain ⟨Y', B3, d3, B4, d4, EY, KW, BX, BY, XI, XK, YI, YK⟩ := hcut
                    clear BR RI RK NX NR N1
                    have bx5 := BX.out.cell 5
                    have by5 := BY.out.cell 5
                    by_cases g1 : (120 : Int) ≤ (X'.items.length : Int)
                    · have g1' : decide ((120 : Int) ≤ (X'.items.length : Int)) = true := decide_eq_true g1
                      go_wp2_with fail
                      go_roundw
                      case measure => simp [intOf]; omega
                      case rel => exact ⟨i + 1, true, X', Y', B1, d1, B2, d2, B3, d3, B4, d4, by omega, rfl, by simp, Lib.hid (INV.out.step HXI.out HYJ.out PQ.out PR.out EX.out EY.out (fun h => by cases h)), KW, BX, BY, XI, XK, YI, YK⟩
                    · have g1' : decide ((120 : Int) ≤ (X'.items.length : Int)) = false := decide_eq_false g1
                      by_cases g2 : (120 : Int) ≤ (Y'.items.length : Int)
                      · have g2' : decide ((120 : Int) ≤ (Y'.items.length : Int)) = true := decide_eq_true g2
                        go_wp2_with fail
                        go_roundw
                        case measure => simp [intOf]; omega
                        case rel => exact ⟨i + 1, true, X', Y', B1, d1, B2, d2, B3, d3, B4, d4, by omega, rfl, by simp, Lib.hid (INV.out.step HXI.out HYJ.out PQ.out PR.out EX.out EY.out (fun h => by cases h)), KW, BX, BY, XI, XK, YI, YK⟩
                      · have g2' : decide ((120 : Int) ≤ (Y'.items.length : Int)) = false := decide_eq_false g2
                        go_wp2_with fail
                        go_roundw
                        case measure => simp [intOf]; omega
                        case rel => exact ⟨i + 1, false, X', Y', B1, d1, B2, d2, B3, d3, B4, d4, by omega, rfl, by simp, Lib.hid (INV.out.step HXI.out HYJ.out PQ.out PR.out EX.out EY.out (fun h => ⟨by omega, by omega⟩)), KW, BX, BY, XI, XK, YI, YK⟩
          · cases fl with
            | true =>
              by_cases hik : (i : Int) < (k : Int)
              · go_wp2_with fail
                go_ret
                exact ⟨rfl, KeptL.all KW⟩
              · go_wp2_with fail
                go_ret
                exact ⟨rfl, KeptL.all KW⟩
            | false =>
              have hki : i = k := by
                by_cases h : i < k
                · exact absurd ⟨h, rfl⟩ hlt
                · omega
              subst hki
              have hii : ¬ (i : Int) < (i : Int) := by omega
              have hdec : decide (X = Y) = true := by
                have hlx : xs.length = i := HE.out.2.2.2.2.2.2.2
                have h1 := INV.out
                have h2 := AP.out
                rw [← hlx] at h1 h2
                exact h1.done h2
              have bc0 := BX.out.cell 0
              have bc1 := BX.out.cell 1
              have bc2 := BX.out.cell 2
              have bc3 := BX.out.cell 3
              have bc4 := BX.out.cell 4
              have bc5 := BX.out.cell 5
              have bc6 := BX.out.cell 6
              have yc0 := BY.out.cell 0
              have yc1 := BY.out.cell 1
              have yc2 := BY.out.cell 2
              have yc3 := BY.out.cell 3
              have yc4 := BY.out.cell 4
              have yc5 := BY.out.cell 5
              have yc6 := BY.out.cell 6
              clear hlt
              go_wp2_with fail
              refine (same10 X Y _ (OwnR.rd encI XI KW) (OwnR.rd encK XK KW) (OwnR.rd encI YI KW) (OwnR.rd encK YK KW) INV.out.chX hdec).mono ?_
              rintro e wz ⟨rfl, hk⟩
              go_wp2_with fail
              go_ret
              exact ⟨rfl, (KeptL.all KW).trans hk⟩
end Ytfoolgojcmkdbaa
end Go.Proofs
