/-
  inner.
-/
import Derived.Test.YtfoolgojcmkdbaaLeaf
set_option maxHeartbeats 4000000
namespace Go.Proofs
open Go.RowKit
namespace Ytfoolgojcmkdbaa
attribute [local go_sem ↓] Go.wp_at_zero Go.wp_at_succ
theorem inner_any (p : Page) {iA kA : Option Addr} {ic kc : Nat} (w : World) (hk : KdR w (.slice kA p.kids.length kc) p.kids) (hn : p.kids.length ≤ 1152921504606846975) :
    Calls Try.prog 20 #[pv p (.slice iA p.items.length ic) (.slice kA p.kids.length kc)] w fun e w' => e = .returned (.bool (inner p)) ∧ Kept (fun _ => True) w w' := by
  obtain ⟨r, hr⟩ : ∃ r, inner p = r := ⟨_, rfl⟩
  rw [hr]
  unfold inner at hr
  have k1 : ∀ o, Kept (fun _ => True) w (w.alloc o) := fun o => (Kept.refl _ w).alloc o
  have hany : ∀ W, Kept (fun _ => True) w W → Calls Try.prog 36 #[.slice kA p.kids.length kc, .func (.func 35) #[] #[]] W fun e w' => e = .returned (.bool (p.kids.any badKid)) ∧ Kept (fun _ => True) W w' := fun W hW =>
    anyKid_any 35 #[] (enters_of Try.func35 (by kernel_rfl) rfl) badKid W (hk.all hW) (fun W' x _ => inner1_any x W') (by omega)
  have hrise : ∀ W, Kept (fun _ => True) w W → Calls Try.prog 37 #[pv p (.slice iA p.items.length ic) (.slice kA p.kids.length kc), .slice kA p.kids.length kc, .func (.func 28) #[] #[]] W fun e w' => e = .returned (.bool (rising p (p.kids.map (·.key)))) ∧ Kept (fun _ => True) W w' := fun W hW =>
    riseKid_any p _ _ W (hk.all hW) hn
  have hat : ∀ h : 1 ≤ p.kids.length, ∃ b off, kA = some ⟨b, off, none⟩ ∧ p.kids.length ≤ kc ∧ Two w b off (p.kids.headD default).key (p.kids.headD default).page := fun h => by
    obtain ⟨x, hx⟩ : ∃ x, p.kids[0]? = some x := ⟨_, List.getElem?_eq_getElem (by omega)⟩
    obtain ⟨b, off, h1, _, h3, h4, h5⟩ := KdR.at_ hk hx
    have : p.kids.headD default = x := by
      rw [List.headD_eq_head?_getD, List.head?_eq_getElem?, hx]
      rfl
    rw [this]
    exact ⟨b, off, h1, h3, by simpa using h4, by simpa using h5⟩
  clear hk
  revert hr hany hrise hat
  generalize p.kids.any badKid = ba
  generalize rising p (p.kids.map (·.key)) = br
  generalize p.kids.headD default = x0
  obtain ⟨lv, lo, hi, la, sd, il, kl⟩ := p
  obtain ⟨xk, xn⟩ := x0
  unfold pv
  simp only
  generalize hil : il.length = n
  generalize hkl : kl.length = m
  intro hr hany hrise hat
  have HR := Lib.hid hr
  rw [hkl] at hn
  clear hr hil hkl
  have BX := Lib.hid (Box.new (lv := lv) (lo := lo) (hi := hi) (la := la) (sd := sd) (iv := .slice iA n ic) (kv := .slice kA m kc) w)
  go_enter Try.func20, Try.ntmps20
  by_cases h1 : n = 0
  · subst h1
    by_cases h2 : 1 ≤ m
    · have t2 : decide ((m : Int) < 1) = false := by simp; omega
      by_cases h3 : m ≤ 120
      · have t3 : decide ((120 : Int) < (m : Int)) = false := by simp; omega
        have hmz : (0 : Int) < (m : Int) := by omega
        have hm0 : 0 < m := by omega
        obtain ⟨b, off, rfl, hmc, hx⟩ := hat h2
        have HX := Lib.hid (hx.kept (k1 (.cells #[.int .i64 lv, .string lo, .string hi, .bool la, .int .i64 sd, .slice iA 0 ic, .slice (some ⟨b, off, none⟩) m kc] 25)))
        clear hx
        go_upto_region 1 with fail
        refine wp_region_held_drew (S := (fun W => (W.cell? ⟨w.heap.size, 0, none⟩ = some (.int .i64 lv) ∧ W.cell? ⟨w.heap.size, 1, none⟩ = some (.string lo) ∧ W.cell? ⟨w.heap.size, 2, none⟩ = some (.string hi) ∧ W.cell? ⟨w.heap.size, 3, none⟩ = some (.bool la) ∧ W.cell? ⟨w.heap.size, 4, none⟩ = some (.int .i64 sd) ∧ W.cell? ⟨w.heap.size, 5, none⟩ = some (.slice iA 0 ic) ∧ W.cell? ⟨w.heap.size, 6, none⟩ = some (.slice (some ⟨b, off, none⟩) m kc)) ∧ (W.cell? ⟨b, off, none⟩ = some (.string xk) ∧ W.cell? ⟨b, off + 1, none⟩ = some (.int .i64 xn)))) (by kernel_rfl) ?_ (fun hHeld => ?_)
        · exact ⟨BX.out, HX.out⟩
        refine wpAnyH_take (i := 0) (v := ?vz1) rfl (by kernel_rfl) (by kernel_rfl) (by kernel_rfl) (fun _ _ _ h => h) (Or.inl ⟨?wz1, ?yz1⟩) (by assumption) ?rz1
        case yz1 => (intro w hSw; (try dsimp only at hSw); go_simp; try with_reducible rfl)
        case wz1 => rfl
        case' rz1 => simp only [Act.put, List.getElem_toArray, List.getElem_cons_zero, List.setIfInBounds_toArray, List.set_cons_zero, List.set_cons_succ]
        refine wpAnyH_take (i := 1) (v := ?vz2) rfl (by kernel_rfl) (by kernel_rfl) (by kernel_rfl) (fun _ _ _ h => h) (Or.inl ⟨?wz2, ?yz2⟩) (by assumption) ?rz2
        case yz2 => (intro w hSw; (try dsimp only at hSw); go_simp; try with_reducible rfl)
        case wz2 => rfl
        case' rz2 => simp only [Act.put, List.getElem_toArray, List.getElem_cons_zero, List.getElem_cons_succ, List.setIfInBounds_toArray, List.set_cons_zero, List.set_cons_succ]
        refine wpAnyH_take (i := 2) (v := ?vz3) rfl (by kernel_rfl) (by kernel_rfl) (by kernel_rfl) (fun _ _ _ h => h) (Or.inl ⟨?wz3, ?yz3⟩) (by assumption) ?rz3
        case yz3 => (intro w hSw; (try dsimp only at hSw); go_simp; try with_reducible rfl)
        case wz3 => rfl
        case' rz3 => simp only [Act.put, List.getElem_toArray, List.getElem_cons_zero, List.getElem_cons_succ, List.setIfInBounds_toArray, List.set_cons_zero, List.set_cons_succ]
        refine wpAnyH_take (i := 3) (v := ?vz4) rfl (by kernel_rfl) (by kernel_rfl) (by kernel_rfl) (fun _ _ _ h => h) (Or.inl ⟨?wz4, ?yz4⟩) (by assumption) ?rz4
        case yz4 => (intro w hSw; (try dsimp only at hSw); go_simp; try with_reducible rfl)
        case wz4 => rfl
        case' rz4 => simp only [Act.put, List.getElem_toArray, List.getElem_cons_zero, List.getElem_cons_succ, List.setIfInBounds_toArray, List.set_cons_zero, List.set_cons_succ]
        refine wpAnyH_take (i := 4) (v := ?vz5) rfl (by kernel_rfl) (by kernel_rfl) (by kernel_rfl) (fun _ _ _ h => h) (Or.inl ⟨?wz5, ?yz5⟩) (by assumption) ?rz5
        case yz5 => (intro w hSw; (try dsimp only at hSw); go_simp; try with_reducible rfl)
        case wz5 => rfl
        case' rz5 => simp only [Act.put, List.getElem_toArray, List.getElem_cons_zero, List.getElem_cons_succ, List.setIfInBounds_toArray, List.set_cons_zero, List.set_cons_succ]
        refine wpAnyH_take (i := 5) (v := ?vz6) rfl (by kernel_rfl) (by kernel_rfl) (by kernel_rfl) (fun _ _ _ h => h) (Or.inl ⟨?wz6, ?yz6⟩) (by assumption) ?rz6
        case yz6 => (intro w hSw; (try dsimp only at hSw); go_simp; try with_reducible rfl)
        case wz6 => rfl
        case' rz6 => simp only [Act.put, List.getElem_toArray, List.getElem_cons_zero, List.getElem_cons_succ, List.setIfInBounds_toArray, List.set_cons_zero, List.set_cons_succ]
        refine wpAnyH_take (i := 6) (v := ?vz7) rfl (by kernel_rfl) (by kernel_rfl) (by kernel_rfl) (fun _ _ _ h => h) (Or.inl ⟨?wz7, ?yz7⟩) (by assumption) ?rz7
        case yz7 => (intro w hSw; (try dsimp only at hSw); go_simp; try with_reducible rfl)
        case wz7 => rfl
        case' rz7 => simp only [Act.put, List.getElem_toArray, List.getElem_cons_zero, List.getElem_cons_succ, List.setIfInBounds_toArray, List.set_cons_zero, List.set_cons_succ]
        refine wpAnyH_take (i := 7) (v := ?vz8) rfl (by kernel_rfl) (by kernel_rfl) (by kernel_rfl) (fun _ _ _ h => h) (Or.inl ⟨?wz8, ?yz8⟩) (by assumption) ?rz8
        case yz8 => (intro w hSw; (try dsimp only at hSw); go_simp; try with_reducible rfl)
        case wz8 => rfl
        case' rz8 => simp only [Act.put, List.getElem_toArray, List.getElem_cons_zero, List.getElem_cons_succ, List.setIfInBounds_toArray, List.set_cons_zero, List.set_cons_succ]
        refine wpAnyH_take (i := 8) (v := ?vz9) rfl (by kernel_rfl) (by kernel_rfl) (by kernel_rfl) (fun _ _ _ h => h) (Or.inl ⟨?wz9, ?yz9⟩) (by assumption) ?rz9
        case yz9 => (intro w hSw; (try dsimp only at hSw); go_simp; try with_reducible rfl)
        case wz9 => rfl
        case' rz9 => simp only [Act.put, List.getElem_toArray, List.getElem_cons_zero, List.getElem_cons_succ, List.setIfInBounds_toArray, List.set_cons_zero, List.set_cons_succ]
        refine wpAnyH_take (i := 9) (v := ?vz10) rfl (by kernel_rfl) (by kernel_rfl) (by kernel_rfl) (fun _ _ _ h => h) (Or.inl ⟨?wz10, ?yz10⟩) (by assumption) ?rz10
        case yz10 => (intro w hSw; (try dsimp only at hSw); go_simp; try with_reducible rfl)
        case wz10 => rfl
        case' rz10 => simp only [Act.put, List.getElem_toArray, List.getElem_cons_zero, List.getElem_cons_succ, List.setIfInBounds_toArray, List.set_cons_zero, List.set_cons_succ]
        refine wpAnyH_take (i := 10) (v := ?vz11) rfl (by kernel_rfl) (by kernel_rfl) (by kernel_rfl) (fun _ _ _ h => h) (Or.inl ⟨?wz11, ?yz11⟩) (by assumption) ?rz11
        case yz11 => (intro w hSw; (try dsimp only at hSw); go_simp; try with_reducible rfl)
        case wz11 => rfl
        case' rz11 => simp only [Act.put, List.getElem_toArray, List.getElem_cons_zero, List.getElem_cons_succ, List.setIfInBounds_toArray, List.set_cons_zero, List.set_cons_succ]
        refine wpAnyH_take (i := 11) (v := ?vz12) rfl (by kernel_rfl) (by kernel_rfl) (by kernel_rfl) (fun _ _ _ h => h) (Or.inl ⟨?wz12, ?yz12⟩) (by assumption) ?rz12
        case yz12 => (intro w hSw; (try dsimp only at hSw); go_simp; try with_reducible rfl)
        case wz12 => rfl
        case' rz12 => simp only [Act.put, List.getElem_toArray, List.getElem_cons_zero, List.getElem_cons_succ, List.setIfInBounds_toArray, List.set_cons_zero, List.set_cons_succ]
        refine wpAnyH_take (i := 12) (v := ?vz13) rfl (by kernel_rfl) (by kernel_rfl) (by kernel_rfl) (fun _ _ _ h => h) (Or.inl ⟨?wz13, ?yz13⟩) (by assumption) ?rz13
        case yz13 => (intro w hSw; (try dsimp only at hSw); go_simp; try with_reducible rfl)
        case wz13 => rfl
        case' rz13 => simp only [Act.put, List.getElem_toArray, List.getElem_cons_zero, List.getElem_cons_succ, List.setIfInBounds_toArray, List.set_cons_zero, List.set_cons_succ]
        refine wpAnyH_take (i := 13) (v := ?vz14) rfl (by kernel_rfl) (by kernel_rfl) (by kernel_rfl) (fun _ _ _ h => h) (Or.inl ⟨?wz14, ?yz14⟩) (by assumption) ?rz14
        case yz14 => (intro w hSw; (try dsimp only at hSw); go_simp; try with_reducible rfl)
        case wz14 => rfl
        case' rz14 => simp only [Act.put, List.getElem_toArray, List.getElem_cons_zero, List.getElem_cons_succ, List.setIfInBounds_toArray, List.set_cons_zero, List.set_cons_succ]
        refine wpAnyH_take (i := 14) (v := ?vz15) rfl (by kernel_rfl) (by kernel_rfl) (by kernel_rfl) (fun _ _ _ h => h) (Or.inl ⟨?wz15, ?yz15⟩) (by assumption) ?rz15
        case yz15 => (intro w hSw; (try dsimp only at hSw); go_simp; try with_reducible rfl)
        case wz15 => rfl
        case' rz15 => simp only [Act.put, List.getElem_toArray, List.getElem_cons_zero, List.getElem_cons_succ, List.setIfInBounds_toArray, List.set_cons_zero, List.set_cons_succ]
        refine wpAnyH_take (i := 15) (v := ?vz16) rfl (by kernel_rfl) (by kernel_rfl) (by kernel_rfl) (fun _ _ _ h => h) (Or.inl ⟨?wz16, ?yz16⟩) (by assumption) ?rz16
        case yz16 => (intro w hSw; (try dsimp only at hSw); go_simp; try with_reducible rfl)
        case wz16 => rfl
        case' rz16 => simp only [Act.put, List.getElem_toArray, List.getElem_cons_zero, List.getElem_cons_succ, List.setIfInBounds_toArray, List.set_cons_zero, List.set_cons_succ]
        refine wpAnyH_take (i := 16) (v := ?vz17) rfl (by kernel_rfl) (by kernel_rfl) (by kernel_rfl) (fun _ _ _ h => h) (Or.inl ⟨?wz17, ?yz17⟩) (by assumption) ?rz17
        case yz17 => (intro w hSw; (try dsimp only at hSw); go_simp; try with_reducible rfl)
        case wz17 => rfl
        case' rz17 => simp only [Act.put, List.getElem_toArray, List.getElem_cons_zero, List.getElem_cons_succ, List.setIfInBounds_toArray, List.set_cons_zero, List.set_cons_succ]
        refine wpAnyH_take (i := 17) (v := ?vz18) rfl (by kernel_rfl) (by kernel_rfl) (by kernel_rfl) (fun _ _ _ h => h) (Or.inl ⟨?wz18, ?yz18⟩) (by assumption) ?rz18
        case yz18 => (intro w hSw; (try dsimp only at hSw); go_simp; try with_reducible rfl)
        case wz18 => rfl
        case' rz18 => simp only [Act.put, List.getElem_toArray, List.getElem_cons_zero, List.getElem_cons_succ, List.setIfInBounds_toArray, List.set_cons_zero, List.set_cons_succ]
        refine wpAnyH_take (i := 18) (v := ?vz19) rfl (by kernel_rfl) (by kernel_rfl) (by kernel_rfl) (fun _ _ _ h => h) (Or.inl ⟨?wz19, ?yz19⟩) (by assumption) ?rz19
        case yz19 => (intro w hSw; (try dsimp only at hSw); go_simp; try with_reducible rfl)
        case wz19 => rfl
        case' rz19 => simp only [Act.put, List.getElem_toArray, List.getElem_cons_zero, List.getElem_cons_succ, List.setIfInBounds_toArray, List.set_cons_zero, List.set_cons_succ]
        refine wpAnyH_take (i := 19) (v := ?vz20) rfl (by kernel_rfl) (by kernel_rfl) (by kernel_rfl) (fun _ _ _ h => h) (Or.inl ⟨?wz20, ?yz20⟩) (by assumption) ?rz20
        case yz20 => (intro w hSw; (try dsimp only at hSw); go_simp; try with_reducible rfl)
        case wz20 => rfl
        case' rz20 => simp only [Act.put, List.getElem_toArray, List.getElem_cons_zero, List.getElem_cons_succ, List.setIfInBounds_toArray, List.set_cons_zero, List.set_cons_succ]
        refine wpAnyH_take (i := 20) (v := ?vz21) rfl (by kernel_rfl) (by kernel_rfl) (by kernel_rfl) (fun _ _ _ h => h) (Or.inl ⟨?wz21, ?yz21⟩) (by assumption) ?rz21
        case yz21 => (intro w hSw; (try dsimp only at hSw); go_simp; try with_reducible rfl)
        case wz21 => rfl
        case' rz21 => simp only [Act.put, List.getElem_toArray, List.getElem_cons_zero, List.getElem_cons_succ, List.setIfInBounds_toArray, List.set_cons_zero, List.set_cons_succ]
        refine wpAnyH_take (i := 21) (v := ?vz22) rfl (by kernel_rfl) (by kernel_rfl) (by kernel_rfl) (fun _ _ _ h => h) (Or.inl ⟨?wz22, ?yz22⟩) (by assumption) ?rz22
        case yz22 => (intro w hSw; (try dsimp only at hSw); go_simp; try with_reducible rfl)
        case wz22 => rfl
        case' rz22 => simp only [Act.put, List.getElem_toArray, List.getElem_cons_zero, List.getElem_cons_succ, List.setIfInBounds_toArray, List.set_cons_zero, List.set_cons_succ]
        refine wpAnyH_take (i := 22) (v := ?vz23) rfl (by kernel_rfl) (by kernel_rfl) (by kernel_rfl) (fun _ _ _ h => h) (Or.inl ⟨?wz23, ?yz23⟩) (by assumption) ?rz23
        case yz23 => (intro w hSw; (try dsimp only at hSw); go_simp; try with_reducible rfl)
        case wz23 => rfl
        case' rz23 => simp only [Act.put, List.getElem_toArray, List.getElem_cons_zero, List.getElem_cons_succ, List.setIfInBounds_toArray, List.set_cons_zero, List.set_cons_succ]
        refine wpAnyH_take (i := 23) (v := ?vz24) rfl (by kernel_rfl) (by kernel_rfl) (by kernel_rfl) (fun _ _ _ h => h) (Or.inl ⟨?wz24, ?yz24⟩) (by assumption) ?rz24
        case yz24 => (intro w hSw; (try dsimp only at hSw); go_simp; try with_reducible rfl)
        case wz24 => rfl
        case' rz24 => simp only [Act.put, List.getElem_toArray, List.getElem_cons_zero, List.getElem_cons_succ, List.setIfInBounds_toArray, List.set_cons_zero, List.set_cons_succ]
        refine wpAnyH_take (i := 24) (v := ?vz25) rfl (by kernel_rfl) (by kernel_rfl) (by kernel_rfl) (fun _ _ _ h => h) (Or.inl ⟨?wz25, ?yz25⟩) (by assumption) ?rz25
        case yz25 => (intro w hSw; (try dsimp only at hSw); go_simp; try with_reducible rfl)
        case wz25 => rfl
        case' rz25 => simp only [Act.put, List.getElem_toArray, List.getElem_cons_zero, List.getElem_cons_succ, List.setIfInBounds_toArray, List.set_cons_zero, List.set_cons_succ]
        refine wpAnyH_take (i := 25) (v := ?vz26) rfl (by kernel_rfl) (by kernel_rfl) (by kernel_rfl) (fun _ _ _ h => h) (Or.inl ⟨?wz26, ?yz26⟩) (by assumption) ?rz26
        case yz26 => (intro w hSw; (try dsimp only at hSw); go_simp; try with_reducible rfl)
        case wz26 => rfl
        case' rz26 => simp only [Act.put, List.getElem_toArray, List.getElem_cons_zero, List.getElem_cons_succ, List.setIfInBounds_toArray, List.set_cons_zero, List.set_cons_succ]
        refine wpAnyH_done (by kernel_rfl) ?_ _
        cases hq : (xk.toList == lo.toList) with
        | false =>
          rw [hq] at HR
          go_wp2_with fail
          go_ret
          refine ⟨?_, (k1 _).drew⟩
          rw [← HR.out]
          simp
        | true =>
          rw [hq] at HR
          cases ba with
          | true =>
            go_wp2_with (first | (go_at_call 36; refine (hany _ (k1 _).drew).mono ?_; rintro e w' ⟨rfl, hb'⟩))
            go_ret
            refine ⟨?_, (k1 _).drew.trans hb'⟩
            rw [← HR.out]
            simp
          | false =>
            go_wp2_with (first | (go_at_call 36; refine (hany _ (k1 _).drew).mono ?_; rintro e w' ⟨rfl, hb'⟩; obtain ⟨b0, b1, b2, b3, b4, b5, b6⟩ := Box.kept BX.out.drew hb') | (go_at_call 37; refine (hrise _ ((k1 _).drew.trans hb')).mono ?_; rintro e w'' ⟨rfl, hb''⟩))
            go_ret
            refine ⟨?_, ((k1 _).drew.trans hb').trans hb''⟩
            rw [← HR.out]
            simp [h2, h3]
      · have t3 : decide ((120 : Int) < (m : Int)) = true := by simp; omega
        have t3' : (120 : Int) < (m : Int) := by omega
        go_upto_region 1 with fail
        refine wp_region_held_drew (S := (fun W => (W.cell? ⟨w.heap.size, 0, none⟩ = some (.int .i64 lv) ∧ W.cell? ⟨w.heap.size, 1, none⟩ = some (.string lo) ∧ W.cell? ⟨w.heap.size, 2, none⟩ = some (.string hi) ∧ W.cell? ⟨w.heap.size, 3, none⟩ = some (.bool la) ∧ W.cell? ⟨w.heap.size, 4, none⟩ = some (.int .i64 sd) ∧ W.cell? ⟨w.heap.size, 5, none⟩ = some (.slice iA 0 ic) ∧ W.cell? ⟨w.heap.size, 6, none⟩ = some (.slice kA m kc)))) (by kernel_rfl) ?_ (fun hHeld => ?_)
        · exact BX.out
        refine wpAnyH_take (i := 0) (v := ?vz27) rfl (by kernel_rfl) (by kernel_rfl) (by kernel_rfl) (fun _ _ _ h => h) (Or.inl ⟨?wz27, ?yz27⟩) (by assumption) ?rz27
        case yz27 => (intro w hSw; (try dsimp only at hSw); go_simp; try with_reducible rfl)
        case wz27 => rfl
        case' rz27 => simp only [Act.put, List.getElem_toArray, List.getElem_cons_zero, List.setIfInBounds_toArray, List.set_cons_zero, List.set_cons_succ]
        refine wpAnyH_take (i := 1) (v := ?vz28) rfl (by kernel_rfl) (by kernel_rfl) (by kernel_rfl) (fun _ _ _ h => h) (Or.inl ⟨?wz28, ?yz28⟩) (by assumption) ?rz28
        case yz28 => (intro w hSw; (try dsimp only at hSw); go_simp; try with_reducible rfl)
        case wz28 => rfl
        case' rz28 => simp only [Act.put, List.getElem_toArray, List.getElem_cons_zero, List.getElem_cons_succ, List.setIfInBounds_toArray, List.set_cons_zero, List.set_cons_succ]
        refine wpAnyH_take (i := 2) (v := ?vz29) rfl (by kernel_rfl) (by kernel_rfl) (by kernel_rfl) (fun _ _ _ h => h) (Or.inl ⟨?wz29, ?yz29⟩) (by assumption) ?rz29
        case yz29 => (intro w hSw; (try dsimp only at hSw); go_simp; try with_reducible rfl)
        case wz29 => rfl
        case' rz29 => simp only [Act.put, List.getElem_toArray, List.getElem_cons_zero, List.getElem_cons_succ, List.setIfInBounds_toArray, List.set_cons_zero, List.set_cons_succ]
        refine wpAnyH_take (i := 3) (v := ?vz30) rfl (by kernel_rfl) (by kernel_rfl) (by kernel_rfl) (fun _ _ _ h => h) (Or.inl ⟨?wz30, ?yz30⟩) (by assumption) ?rz30
        case yz30 => (intro w hSw; (try dsimp only at hSw); go_simp; try with_reducible rfl)
        case wz30 => rfl
        case' rz30 => simp only [Act.put, List.getElem_toArray, List.getElem_cons_zero, List.getElem_cons_succ, List.setIfInBounds_toArray, List.set_cons_zero, List.set_cons_succ]
        refine wpAnyH_take (i := 4) (v := ?vz31) rfl (by kernel_rfl) (by kernel_rfl) (by kernel_rfl) (fun _ _ _ h => h) (Or.inl ⟨?wz31, ?yz31⟩) (by assumption) ?rz31
        case yz31 => (intro w hSw; (try dsimp only at hSw); go_simp; try with_reducible rfl)
        case wz31 => rfl
        case' rz31 => simp only [Act.put, List.getElem_toArray, List.getElem_cons_zero, List.getElem_cons_succ, List.setIfInBounds_toArray, List.set_cons_zero, List.set_cons_succ]
        refine wpAnyH_take (i := 5) (v := ?vz32) rfl (by kernel_rfl) (by kernel_rfl) (by kernel_rfl) (fun _ _ _ h => h) (Or.inl ⟨?wz32, ?yz32⟩) (by assumption) ?rz32
        case yz32 => (intro w hSw; (try dsimp only at hSw); go_simp; try with_reducible rfl)
        case wz32 => rfl
        case' rz32 => simp only [Act.put, List.getElem_toArray, List.getElem_cons_zero, List.getElem_cons_succ, List.setIfInBounds_toArray, List.set_cons_zero, List.set_cons_succ]
        refine wpAnyH_take (i := 6) (v := ?vz33) rfl (by kernel_rfl) (by kernel_rfl) (by kernel_rfl) (fun _ _ _ h => h) (Or.inl ⟨?wz33, ?yz33⟩) (by assumption) ?rz33
        case yz33 => (intro w hSw; (try dsimp only at hSw); go_simp; try with_reducible rfl)
        case wz33 => rfl
        case' rz33 => simp only [Act.put, List.getElem_toArray, List.getElem_cons_zero, List.getElem_cons_succ, List.setIfInBounds_toArray, List.set_cons_zero, List.set_cons_succ]
        refine wpAnyH_take (i := 7) (v := ?vz34) rfl (by kernel_rfl) (by kernel_rfl) (by kernel_rfl) (fun _ _ _ h => h) (Or.inl ⟨?wz34, ?yz34⟩) (by assumption) ?rz34
        case yz34 => (intro w hSw; (try dsimp only at hSw); go_simp; try with_reducible rfl)
        case wz34 => rfl
        case' rz34 => simp only [Act.put, List.getElem_toArray, List.getElem_cons_zero, List.getElem_cons_succ, List.setIfInBounds_toArray, List.set_cons_zero, List.set_cons_succ]
        refine wpAnyH_take (i := 8) (v := ?vz35) rfl (by kernel_rfl) (by kernel_rfl) (by kernel_rfl) (fun _ _ _ h => h) (Or.inl ⟨?wz35, ?yz35⟩) (by assumption) ?rz35
        case yz35 => (intro w hSw; (try dsimp only at hSw); go_simp; try with_reducible rfl)
        case wz35 => rfl
        case' rz35 => simp only [Act.put, List.getElem_toArray, List.getElem_cons_zero, List.getElem_cons_succ, List.setIfInBounds_toArray, List.set_cons_zero, List.set_cons_succ]
        refine wpAnyH_take (i := 9) (v := ?vz36) rfl (by kernel_rfl) (by kernel_rfl) (by kernel_rfl) (fun _ _ _ h => h) (Or.inl ⟨?wz36, ?yz36⟩) (by assumption) ?rz36
        case yz36 => (intro w hSw; (try dsimp only at hSw); go_simp; try with_reducible rfl)
        case wz36 => rfl
        case' rz36 => simp only [Act.put, List.getElem_toArray, List.getElem_cons_zero, List.getElem_cons_succ, List.setIfInBounds_toArray, List.set_cons_zero, List.set_cons_succ]
        refine wpAnyH_take (i := 10) (v := ?vz37) rfl (by kernel_rfl) (by kernel_rfl) (by kernel_rfl) (fun _ _ _ h => h) (Or.inl ⟨?wz37, ?yz37⟩) (by assumption) ?rz37
        case yz37 => (intro w hSw; (try dsimp only at hSw); go_simp; try with_reducible rfl)
        case wz37 => rfl
        case' rz37 => simp only [Act.put, List.getElem_toArray, List.getElem_cons_zero, List.getElem_cons_succ, List.setIfInBounds_toArray, List.set_cons_zero, List.set_cons_succ]
        refine wpAnyH_take (i := 11) (v := ?vz38) rfl (by kernel_rfl) (by kernel_rfl) (by kernel_rfl) (fun _ _ _ h => h) (Or.inl ⟨?wz38, ?yz38⟩) (by assumption) ?rz38
        case yz38 => (intro w hSw; (try dsimp only at hSw); go_simp; try with_reducible rfl)
        case wz38 => rfl
        case' rz38 => simp only [Act.put, List.getElem_toArray, List.getElem_cons_zero, List.getElem_cons_succ, List.setIfInBounds_toArray, List.set_cons_zero, List.set_cons_succ]
        refine wpAnyH_take (i := 12) (v := ?vz39) rfl (by kernel_rfl) (by kernel_rfl) (by kernel_rfl) (fun _ _ _ h => h) (Or.inl ⟨?wz39, ?yz39⟩) (by assumption) ?rz39
        case yz39 => (intro w hSw; (try dsimp only at hSw); go_simp; try with_reducible rfl)
        case wz39 => rfl
        case' rz39 => simp only [Act.put, List.getElem_toArray, List.getElem_cons_zero, List.getElem_cons_succ, List.setIfInBounds_toArray, List.set_cons_zero, List.set_cons_succ]
        refine wpAnyH_take (i := 13) (v := ?vz40) rfl (by kernel_rfl) (by kernel_rfl) (by kernel_rfl) (fun _ _ _ h => h) (Or.inl ⟨?wz40, ?yz40⟩) (by assumption) ?rz40
        case yz40 => (intro w hSw; (try dsimp only at hSw); go_simp; try with_reducible rfl)
        case wz40 => rfl
        case' rz40 => simp only [Act.put, List.getElem_toArray, List.getElem_cons_zero, List.getElem_cons_succ, List.setIfInBounds_toArray, List.set_cons_zero, List.set_cons_succ]
        refine wpAnyH_take (i := 14) (v := ?vz41) rfl (by kernel_rfl) (by kernel_rfl) (by kernel_rfl) (fun _ _ _ h => h) (Or.inl ⟨?wz41, ?yz41⟩) (by assumption) ?rz41
        case yz41 => (intro w hSw; (try dsimp only at hSw); go_simp; try with_reducible rfl)
        case wz41 => rfl
        case' rz41 => simp only [Act.put, List.getElem_toArray, List.getElem_cons_zero, List.getElem_cons_succ, List.setIfInBounds_toArray, List.set_cons_zero, List.set_cons_succ]
        refine wpAnyH_take (i := 15) (v := ?vz42) rfl (by kernel_rfl) (by kernel_rfl) (by kernel_rfl) (fun _ _ _ h => h) (Or.inl ⟨?wz42, ?yz42⟩) (by assumption) ?rz42
        case yz42 => (intro w hSw; (try dsimp only at hSw); go_simp; try with_reducible rfl)
        case wz42 => rfl
        case' rz42 => simp only [Act.put, List.getElem_toArray, List.getElem_cons_zero, List.getElem_cons_succ, List.setIfInBounds_toArray, List.set_cons_zero, List.set_cons_succ]
        refine wpAnyH_take (i := 16) (v := ?vz43) rfl (by kernel_rfl) (by kernel_rfl) (by kernel_rfl) (fun _ _ _ h => h) (Or.inl ⟨?wz43, ?yz43⟩) (by assumption) ?rz43
        case yz43 => (intro w hSw; (try dsimp only at hSw); go_simp; try with_reducible rfl)
        case wz43 => rfl
        case' rz43 => simp only [Act.put, List.getElem_toArray, List.getElem_cons_zero, List.getElem_cons_succ, List.setIfInBounds_toArray, List.set_cons_zero, List.set_cons_succ]
        refine wpAnyH_take (i := 17) (v := undef) rfl (by kernel_rfl) (by kernel_rfl) (by kernel_rfl) (fun _ _ _ h => h) (Or.inr ⟨rfl, rfl⟩) (by assumption) ?_
        simp only [Act.put, List.getElem_toArray, List.getElem_cons_zero, List.getElem_cons_succ, List.setIfInBounds_toArray, List.set_cons_zero, List.set_cons_succ]
        refine wpAnyH_take (i := 18) (v := undef) rfl (by kernel_rfl) (by kernel_rfl) (by kernel_rfl) (fun _ _ _ h => h) (Or.inr ⟨rfl, rfl⟩) (by assumption) ?_
        simp only [Act.put, List.getElem_toArray, List.getElem_cons_zero, List.getElem_cons_succ, List.setIfInBounds_toArray, List.set_cons_zero, List.set_cons_succ]
        refine wpAnyH_take (i := 19) (v := undef) rfl (by kernel_rfl) (by kernel_rfl) (by kernel_rfl) (fun _ _ _ h => h) (Or.inr ⟨rfl, rfl⟩) (by assumption) ?_
        simp only [Act.put, List.getElem_toArray, List.getElem_cons_zero, List.getElem_cons_succ, List.setIfInBounds_toArray, List.set_cons_zero, List.set_cons_succ]
        refine wpAnyH_take (i := 20) (v := undef) rfl (by kernel_rfl) (by kernel_rfl) (by kernel_rfl) (fun _ _ _ h => h) (Or.inr ⟨rfl, rfl⟩) (by assumption) ?_
        simp only [Act.put, List.getElem_toArray, List.getElem_cons_zero, List.getElem_cons_succ, List.setIfInBounds_toArray, List.set_cons_zero, List.set_cons_succ]
        refine wpAnyH_take (i := 21) (v := undef) rfl (by kernel_rfl) (by kernel_rfl) (by kernel_rfl) (fun _ _ _ h => h) (Or.inr ⟨rfl, rfl⟩) (by assumption) ?_
        simp only [Act.put, List.getElem_toArray, List.getElem_cons_zero, List.getElem_cons_succ, List.setIfInBounds_toArray, List.set_cons_zero, List.set_cons_succ]
        refine wpAnyH_take (i := 22) (v := undef) rfl (by kernel_rfl) (by kernel_rfl) (by kernel_rfl) (fun _ _ _ h => h) (Or.inr ⟨rfl, rfl⟩) (by assumption) ?_
        simp only [Act.put, List.getElem_toArray, List.getElem_cons_zero, List.getElem_cons_succ, List.setIfInBounds_toArray, List.set_cons_zero, List.set_cons_succ]
        refine wpAnyH_take (i := 23) (v := undef) rfl (by kernel_rfl) (by kernel_rfl) (by kernel_rfl) (fun _ _ _ h => h) (Or.inr ⟨rfl, rfl⟩) (by assumption) ?_
        simp only [Act.put, List.getElem_toArray, List.getElem_cons_zero, List.getElem_cons_succ, List.setIfInBounds_toArray, List.set_cons_zero, List.set_cons_succ]
        refine wpAnyH_take (i := 24) (v := undef) rfl (by kernel_rfl) (by kernel_rfl) (by kernel_rfl) (fun _ _ _ h => h) (Or.inr ⟨rfl, rfl⟩) (by assumption) ?_
        simp only [Act.put, List.getElem_toArray, List.getElem_cons_zero, List.getElem_cons_succ, List.setIfInBounds_toArray, List.set_cons_zero, List.set_cons_succ]
        refine wpAnyH_take (i := 25) (v := ?vz52) rfl (by kernel_rfl) (by kernel_rfl) (by kernel_rfl) (fun _ _ _ h => h) (Or.inl ⟨?wz52, ?yz52⟩) (by assumption) ?rz52
        case yz52 => (intro w hSw; (try dsimp only at hSw); go_simp; try with_reducible rfl)
        case wz52 => rfl
        case' rz52 => simp only [Act.put, List.getElem_toArray, List.getElem_cons_zero, List.getElem_cons_succ, List.setIfInBounds_toArray, List.set_cons_zero, List.set_cons_succ]
        refine wpAnyH_done (by kernel_rfl) ?_ _
        go_wp2_with fail
        go_ret
        refine ⟨?_, (k1 _).drew⟩
        rw [← HR.out]
        simp [h3]
    · have hm0 : m = 0 := by omega
      subst hm0
      have t2 : decide (((0 : Nat) : Int) < 1) = true := by simp
      go_upto_region 1 with fail
      refine wp_region_held_drew (S := (fun W => (W.cell? ⟨w.heap.size, 0, none⟩ = some (.int .i64 lv) ∧ W.cell? ⟨w.heap.size, 1, none⟩ = some (.string lo) ∧ W.cell? ⟨w.heap.size, 2, none⟩ = some (.string hi) ∧ W.cell? ⟨w.heap.size, 3, none⟩ = some (.bool la) ∧ W.cell? ⟨w.heap.size, 4, none⟩ = some (.int .i64 sd) ∧ W.cell? ⟨w.heap.size, 5, none⟩ = some (.slice iA 0 ic) ∧ W.cell? ⟨w.heap.size, 6, none⟩ = some (.slice kA 0 kc)))) (by kernel_rfl) ?_ (fun hHeld => ?_)
      · exact BX.out
      refine wpAnyH_take (i := 0) (v := ?vz53) rfl (by kernel_rfl) (by kernel_rfl) (by kernel_rfl) (fun _ _ _ h => h) (Or.inl ⟨?wz53, ?yz53⟩) (by assumption) ?rz53
      case yz53 => (intro w hSw; (try dsimp only at hSw); go_simp; try with_reducible rfl)
      case wz53 => rfl
      case' rz53 => simp only [Act.put, List.getElem_toArray, List.getElem_cons_zero, List.setIfInBounds_toArray, List.set_cons_zero, List.set_cons_succ]
      refine wpAnyH_take (i := 1) (v := ?vz54) rfl (by kernel_rfl) (by kernel_rfl) (by kernel_rfl) (fun _ _ _ h => h) (Or.inl ⟨?wz54, ?yz54⟩) (by assumption) ?rz54
      case yz54 => (intro w hSw; (try dsimp only at hSw); go_simp; try with_reducible rfl)
      case wz54 => rfl
      case' rz54 => simp only [Act.put, List.getElem_toArray, List.getElem_cons_zero, List.getElem_cons_succ, List.setIfInBounds_toArray, List.set_cons_zero, List.set_cons_succ]
      refine wpAnyH_take (i := 2) (v := ?vz55) rfl (by kernel_rfl) (by kernel_rfl) (by kernel_rfl) (fun _ _ _ h => h) (Or.inl ⟨?wz55, ?yz55⟩) (by assumption) ?rz55
      case yz55 => (intro w hSw; (try dsimp only at hSw); go_simp; try with_reducible rfl)
      case wz55 => rfl
      case' rz55 => simp only [Act.put, List.getElem_toArray, List.getElem_cons_zero, List.getElem_cons_succ, List.setIfInBounds_toArray, List.set_cons_zero, List.set_cons_succ]
      refine wpAnyH_take (i := 3) (v := ?vz56) rfl (by kernel_rfl) (by kernel_rfl) (by kernel_rfl) (fun _ _ _ h => h) (Or.inl ⟨?wz56, ?yz56⟩) (by assumption) ?rz56
      case yz56 => (intro w hSw; (try dsimp only at hSw); go_simp; try with_reducible rfl)
      case wz56 => rfl
      case' rz56 => simp only [Act.put, List.getElem_toArray, List.getElem_cons_zero, List.getElem_cons_succ, List.setIfInBounds_toArray, List.set_cons_zero, List.set_cons_succ]
      refine wpAnyH_take (i := 4) (v := ?vz57) rfl (by kernel_rfl) (by kernel_rfl) (by kernel_rfl) (fun _ _ _ h => h) (Or.inl ⟨?wz57, ?yz57⟩) (by assumption) ?rz57
      case yz57 => (intro w hSw; (try dsimp only at hSw); go_simp; try with_reducible rfl)
      case wz57 => rfl
      case' rz57 => simp only [Act.put, List.getElem_toArray, List.getElem_cons_zero, List.getElem_cons_succ, List.setIfInBounds_toArray, List.set_cons_zero, List.set_cons_succ]
      refine wpAnyH_take (i := 5) (v := ?vz58) rfl (by kernel_rfl) (by kernel_rfl) (by kernel_rfl) (fun _ _ _ h => h) (Or.inl ⟨?wz58, ?yz58⟩) (by assumption) ?rz58
      case yz58 => (intro w hSw; (try dsimp only at hSw); go_simp; try with_reducible rfl)
      case wz58 => rfl
      case' rz58 => simp only [Act.put, List.getElem_toArray, List.getElem_cons_zero, List.getElem_cons_succ, List.setIfInBounds_toArray, List.set_cons_zero, List.set_cons_succ]
      refine wpAnyH_take (i := 6) (v := ?vz59) rfl (by kernel_rfl) (by kernel_rfl) (by kernel_rfl) (fun _ _ _ h => h) (Or.inl ⟨?wz59, ?yz59⟩) (by assumption) ?rz59
      case yz59 => (intro w hSw; (try dsimp only at hSw); go_simp; try with_reducible rfl)
      case wz59 => rfl
      case' rz59 => simp only [Act.put, List.getElem_toArray, List.getElem_cons_zero, List.getElem_cons_succ, List.setIfInBounds_toArray, List.set_cons_zero, List.set_cons_succ]
      refine wpAnyH_take (i := 7) (v := ?vz60) rfl (by kernel_rfl) (by kernel_rfl) (by kernel_rfl) (fun _ _ _ h => h) (Or.inl ⟨?wz60, ?yz60⟩) (by assumption) ?rz60
      case yz60 => (intro w hSw; (try dsimp only at hSw); go_simp; try with_reducible rfl)
      case wz60 => rfl
      case' rz60 => simp only [Act.put, List.getElem_toArray, List.getElem_cons_zero, List.getElem_cons_succ, List.setIfInBounds_toArray, List.set_cons_zero, List.set_cons_succ]
      refine wpAnyH_take (i := 8) (v := ?vz61) rfl (by kernel_rfl) (by kernel_rfl) (by kernel_rfl) (fun _ _ _ h => h) (Or.inl ⟨?wz61, ?yz61⟩) (by assumption) ?rz61
      case yz61 => (intro w hSw; (try dsimp only at hSw); go_simp; try with_reducible rfl)
      case wz61 => rfl
      case' rz61 => simp only [Act.put, List.getElem_toArray, List.getElem_cons_zero, List.getElem_cons_succ, List.setIfInBounds_toArray, List.set_cons_zero, List.set_cons_succ]
      refine wpAnyH_take (i := 9) (v := ?vz62) rfl (by kernel_rfl) (by kernel_rfl) (by kernel_rfl) (fun _ _ _ h => h) (Or.inl ⟨?wz62, ?yz62⟩) (by assumption) ?rz62
      case yz62 => (intro w hSw; (try dsimp only at hSw); go_simp; try with_reducible rfl)
      case wz62 => rfl
      case' rz62 => simp only [Act.put, List.getElem_toArray, List.getElem_cons_zero, List.getElem_cons_succ, List.setIfInBounds_toArray, List.set_cons_zero, List.set_cons_succ]
      refine wpAnyH_take (i := 10) (v := ?vz63) rfl (by kernel_rfl) (by kernel_rfl) (by kernel_rfl) (fun _ _ _ h => h) (Or.inl ⟨?wz63, ?yz63⟩) (by assumption) ?rz63
      case yz63 => (intro w hSw; (try dsimp only at hSw); go_simp; try with_reducible rfl)
      case wz63 => rfl
      case' rz63 => simp only [Act.put, List.getElem_toArray, List.getElem_cons_zero, List.getElem_cons_succ, List.setIfInBounds_toArray, List.set_cons_zero, List.set_cons_succ]
      refine wpAnyH_take (i := 11) (v := undef) rfl (by kernel_rfl) (by kernel_rfl) (by kernel_rfl) (fun _ _ _ h => h) (Or.inr ⟨rfl, rfl⟩) (by assumption) ?_
      simp only [Act.put, List.getElem_toArray, List.getElem_cons_zero, List.getElem_cons_succ, List.setIfInBounds_toArray, List.set_cons_zero, List.set_cons_succ]
      refine wpAnyH_take (i := 12) (v := undef) rfl (by kernel_rfl) (by kernel_rfl) (by kernel_rfl) (fun _ _ _ h => h) (Or.inr ⟨rfl, rfl⟩) (by assumption) ?_
      simp only [Act.put, List.getElem_toArray, List.getElem_cons_zero, List.getElem_cons_succ, List.setIfInBounds_toArray, List.set_cons_zero, List.set_cons_succ]
      refine wpAnyH_take (i := 13) (v := undef) rfl (by kernel_rfl) (by kernel_rfl) (by kernel_rfl) (fun _ _ _ h => h) (Or.inr ⟨rfl, rfl⟩) (by assumption) ?_
      simp only [Act.put, List.getElem_toArray, List.getElem_cons_zero, List.getElem_cons_succ, List.setIfInBounds_toArray, List.set_cons_zero, List.set_cons_succ]
      refine wpAnyH_take (i := 14) (v := undef) rfl (by kernel_rfl) (by kernel_rfl) (by kernel_rfl) (fun _ _ _ h => h) (Or.inr ⟨rfl, rfl⟩) (by assumption) ?_
      simp only [Act.put, List.getElem_toArray, List.getElem_cons_zero, List.getElem_cons_succ, List.setIfInBounds_toArray, List.set_cons_zero, List.set_cons_succ]
      refine wpAnyH_take (i := 15) (v := ?vz68) rfl (by kernel_rfl) (by kernel_rfl) (by kernel_rfl) (fun _ _ _ h => h) (Or.inl ⟨?wz68, ?yz68⟩) (by assumption) ?rz68
      case yz68 => (intro w hSw; (try dsimp only at hSw); go_simp; try with_reducible rfl)
      case wz68 => rfl
      case' rz68 => simp only [Act.put, List.getElem_toArray, List.getElem_cons_zero, List.getElem_cons_succ, List.setIfInBounds_toArray, List.set_cons_zero, List.set_cons_succ]
      refine wpAnyH_take (i := 16) (v := ?vz69) rfl (by kernel_rfl) (by kernel_rfl) (by kernel_rfl) (fun _ _ _ h => h) (Or.inl ⟨?wz69, ?yz69⟩) (by assumption) ?rz69
      case yz69 => (intro w hSw; (try dsimp only at hSw); go_simp; try with_reducible rfl)
      case wz69 => rfl
      case' rz69 => simp only [Act.put, List.getElem_toArray, List.getElem_cons_zero, List.getElem_cons_succ, List.setIfInBounds_toArray, List.set_cons_zero, List.set_cons_succ]
      refine wpAnyH_take (i := 17) (v := undef) rfl (by kernel_rfl) (by kernel_rfl) (by kernel_rfl) (fun _ _ _ h => h) (Or.inr ⟨rfl, rfl⟩) (by assumption) ?_
      simp only [Act.put, List.getElem_toArray, List.getElem_cons_zero, List.getElem_cons_succ, List.setIfInBounds_toArray, List.set_cons_zero, List.set_cons_succ]
      refine wpAnyH_take (i := 18) (v := undef) rfl (by kernel_rfl) (by kernel_rfl) (by kernel_rfl) (fun _ _ _ h => h) (Or.inr ⟨rfl, rfl⟩) (by assumption) ?_
      simp only [Act.put, List.getElem_toArray, List.getElem_cons_zero, List.getElem_cons_succ, List.setIfInBounds_toArray, List.set_cons_zero, List.set_cons_succ]
      refine wpAnyH_take (i := 19) (v := undef) rfl (by kernel_rfl) (by kernel_rfl) (by kernel_rfl) (fun _ _ _ h => h) (Or.inr ⟨rfl, rfl⟩) (by assumption) ?_
      simp only [Act.put, List.getElem_toArray, List.getElem_cons_zero, List.getElem_cons_succ, List.setIfInBounds_toArray, List.set_cons_zero, List.set_cons_succ]
      refine wpAnyH_take (i := 20) (v := undef) rfl (by kernel_rfl) (by kernel_rfl) (by kernel_rfl) (fun _ _ _ h => h) (Or.inr ⟨rfl, rfl⟩) (by assumption) ?_
      simp only [Act.put, List.getElem_toArray, List.getElem_cons_zero, List.getElem_cons_succ, List.setIfInBounds_toArray, List.set_cons_zero, List.set_cons_succ]
      refine wpAnyH_take (i := 21) (v := undef) rfl (by kernel_rfl) (by kernel_rfl) (by kernel_rfl) (fun _ _ _ h => h) (Or.inr ⟨rfl, rfl⟩) (by assumption) ?_
      simp only [Act.put, List.getElem_toArray, List.getElem_cons_zero, List.getElem_cons_succ, List.setIfInBounds_toArray, List.set_cons_zero, List.set_cons_succ]
      refine wpAnyH_take (i := 22) (v := undef) rfl (by kernel_rfl) (by kernel_rfl) (by kernel_rfl) (fun _ _ _ h => h) (Or.inr ⟨rfl, rfl⟩) (by assumption) ?_
      simp only [Act.put, List.getElem_toArray, List.getElem_cons_zero, List.getElem_cons_succ, List.setIfInBounds_toArray, List.set_cons_zero, List.set_cons_succ]
      refine wpAnyH_take (i := 23) (v := undef) rfl (by kernel_rfl) (by kernel_rfl) (by kernel_rfl) (fun _ _ _ h => h) (Or.inr ⟨rfl, rfl⟩) (by assumption) ?_
      simp only [Act.put, List.getElem_toArray, List.getElem_cons_zero, List.getElem_cons_succ, List.setIfInBounds_toArray, List.set_cons_zero, List.set_cons_succ]
      refine wpAnyH_take (i := 24) (v := undef) rfl (by kernel_rfl) (by kernel_rfl) (by kernel_rfl) (fun _ _ _ h => h) (Or.inr ⟨rfl, rfl⟩) (by assumption) ?_
      simp only [Act.put, List.getElem_toArray, List.getElem_cons_zero, List.getElem_cons_succ, List.setIfInBounds_toArray, List.set_cons_zero, List.set_cons_succ]
      refine wpAnyH_take (i := 25) (v := ?vz78) rfl (by kernel_rfl) (by kernel_rfl) (by kernel_rfl) (fun _ _ _ h => h) (Or.inl ⟨?wz78, ?yz78⟩) (by assumption) ?rz78
      case yz78 => (intro w hSw; (try dsimp only at hSw); go_simp; try with_reducible rfl)
      case wz78 => rfl
      case' rz78 => simp only [Act.put, List.getElem_toArray, List.getElem_cons_zero, List.getElem_cons_succ, List.setIfInBounds_toArray, List.set_cons_zero, List.set_cons_succ]
      refine wpAnyH_done (by kernel_rfl) ?_ _
      go_wp2_with fail
      go_ret
      refine ⟨?_, (k1 _).drew⟩
      rw [← HR.out]
      simp
  · have t1 : decide ((0 : Int) < (n : Int)) = true := by simp; omega
    have t1' : (0 : Int) < (n : Int) := by omega
    have t1'' : 0 < n := by omega
    go_upto_region 1 with fail
    refine wp_region_held_drew (S := (fun W => (W.cell? ⟨w.heap.size, 0, none⟩ = some (.int .i64 lv) ∧ W.cell? ⟨w.heap.size, 1, none⟩ = some (.string lo) ∧ W.cell? ⟨w.heap.size, 2, none⟩ = some (.string hi) ∧ W.cell? ⟨w.heap.size, 3, none⟩ = some (.bool la) ∧ W.cell? ⟨w.heap.size, 4, none⟩ = some (.int .i64 sd) ∧ W.cell? ⟨w.heap.size, 5, none⟩ = some (.slice iA n ic) ∧ W.cell? ⟨w.heap.size, 6, none⟩ = some (.slice kA m kc)))) (by kernel_rfl) ?_ (fun hHeld => ?_)
    · exact BX.out
    refine wpAnyH_take (i := 0) (v := ?vz79) rfl (by kernel_rfl) (by kernel_rfl) (by kernel_rfl) (fun _ _ _ h => h) (Or.inl ⟨?wz79, ?yz79⟩) (by assumption) ?rz79
    case yz79 => (intro w hSw; (try dsimp only at hSw); go_simp; try with_reducible rfl)
    case wz79 => rfl
    case' rz79 => simp only [Act.put, List.getElem_toArray, List.getElem_cons_zero, List.setIfInBounds_toArray, List.set_cons_zero, List.set_cons_succ]
    refine wpAnyH_take (i := 1) (v := ?vz80) rfl (by kernel_rfl) (by kernel_rfl) (by kernel_rfl) (fun _ _ _ h => h) (Or.inl ⟨?wz80, ?yz80⟩) (by assumption) ?rz80
    case yz80 => (intro w hSw; (try dsimp only at hSw); go_simp; try with_reducible rfl)
    case wz80 => rfl
    case' rz80 => simp only [Act.put, List.getElem_toArray, List.getElem_cons_zero, List.getElem_cons_succ, List.setIfInBounds_toArray, List.set_cons_zero, List.set_cons_succ]
    refine wpAnyH_take (i := 2) (v := ?vz81) rfl (by kernel_rfl) (by kernel_rfl) (by kernel_rfl) (fun _ _ _ h => h) (Or.inl ⟨?wz81, ?yz81⟩) (by assumption) ?rz81
    case yz81 => (intro w hSw; (try dsimp only at hSw); go_simp; try with_reducible rfl)
    case wz81 => rfl
    case' rz81 => simp only [Act.put, List.getElem_toArray, List.getElem_cons_zero, List.getElem_cons_succ, List.setIfInBounds_toArray, List.set_cons_zero, List.set_cons_succ]
    refine wpAnyH_take (i := 3) (v := ?vz82) rfl (by kernel_rfl) (by kernel_rfl) (by kernel_rfl) (fun _ _ _ h => h) (Or.inl ⟨?wz82, ?yz82⟩) (by assumption) ?rz82
    case yz82 => (intro w hSw; (try dsimp only at hSw); go_simp; try with_reducible rfl)
    case wz82 => rfl
    case' rz82 => simp only [Act.put, List.getElem_toArray, List.getElem_cons_zero, List.getElem_cons_succ, List.setIfInBounds_toArray, List.set_cons_zero, List.set_cons_succ]
    refine wpAnyH_take (i := 4) (v := ?vz83) rfl (by kernel_rfl) (by kernel_rfl) (by kernel_rfl) (fun _ _ _ h => h) (Or.inl ⟨?wz83, ?yz83⟩) (by assumption) ?rz83
    case yz83 => (intro w hSw; (try dsimp only at hSw); go_simp; try with_reducible rfl)
    case wz83 => rfl
    case' rz83 => simp only [Act.put, List.getElem_toArray, List.getElem_cons_zero, List.getElem_cons_succ, List.setIfInBounds_toArray, List.set_cons_zero, List.set_cons_succ]
    refine wpAnyH_take (i := 5) (v := undef) rfl (by kernel_rfl) (by kernel_rfl) (by kernel_rfl) (fun _ _ _ h => h) (Or.inr ⟨rfl, rfl⟩) (by assumption) ?_
    simp only [Act.put, List.getElem_toArray, List.getElem_cons_zero, List.getElem_cons_succ, List.setIfInBounds_toArray, List.set_cons_zero, List.set_cons_succ]
    refine wpAnyH_take (i := 6) (v := undef) rfl (by kernel_rfl) (by kernel_rfl) (by kernel_rfl) (fun _ _ _ h => h) (Or.inr ⟨rfl, rfl⟩) (by assumption) ?_
    simp only [Act.put, List.getElem_toArray, List.getElem_cons_zero, List.getElem_cons_succ, List.setIfInBounds_toArray, List.set_cons_zero, List.set_cons_succ]
    refine wpAnyH_take (i := 7) (v := undef) rfl (by kernel_rfl) (by kernel_rfl) (by kernel_rfl) (fun _ _ _ h => h) (Or.inr ⟨rfl, rfl⟩) (by assumption) ?_
    simp only [Act.put, List.getElem_toArray, List.getElem_cons_zero, List.getElem_cons_succ, List.setIfInBounds_toArray, List.set_cons_zero, List.set_cons_succ]
    refine wpAnyH_take (i := 8) (v := undef) rfl (by kernel_rfl) (by kernel_rfl) (by kernel_rfl) (fun _ _ _ h => h) (Or.inr ⟨rfl, rfl⟩) (by assumption) ?_
    simp only [Act.put, List.getElem_toArray, List.getElem_cons_zero, List.getElem_cons_succ, List.setIfInBounds_toArray, List.set_cons_zero, List.set_cons_succ]
    refine wpAnyH_take (i := 9) (v := ?vz88) rfl (by kernel_rfl) (by kernel_rfl) (by kernel_rfl) (fun _ _ _ h => h) (Or.inl ⟨?wz88, ?yz88⟩) (by assumption) ?rz88
    case yz88 => (intro w hSw; (try dsimp only at hSw); go_simp; try with_reducible rfl)
    case wz88 => rfl
    case' rz88 => simp only [Act.put, List.getElem_toArray, List.getElem_cons_zero, List.getElem_cons_succ, List.setIfInBounds_toArray, List.set_cons_zero, List.set_cons_succ]
    refine wpAnyH_take (i := 10) (v := ?vz89) rfl (by kernel_rfl) (by kernel_rfl) (by kernel_rfl) (fun _ _ _ h => h) (Or.inl ⟨?wz89, ?yz89⟩) (by assumption) ?rz89
    case yz89 => (intro w hSw; (try dsimp only at hSw); go_simp; try with_reducible rfl)
    case wz89 => rfl
    case' rz89 => simp only [Act.put, List.getElem_toArray, List.getElem_cons_zero, List.getElem_cons_succ, List.setIfInBounds_toArray, List.set_cons_zero, List.set_cons_succ]
    refine wpAnyH_take (i := 11) (v := undef) rfl (by kernel_rfl) (by kernel_rfl) (by kernel_rfl) (fun _ _ _ h => h) (Or.inr ⟨rfl, rfl⟩) (by assumption) ?_
    simp only [Act.put, List.getElem_toArray, List.getElem_cons_zero, List.getElem_cons_succ, List.setIfInBounds_toArray, List.set_cons_zero, List.set_cons_succ]
    refine wpAnyH_take (i := 12) (v := undef) rfl (by kernel_rfl) (by kernel_rfl) (by kernel_rfl) (fun _ _ _ h => h) (Or.inr ⟨rfl, rfl⟩) (by assumption) ?_
    simp only [Act.put, List.getElem_toArray, List.getElem_cons_zero, List.getElem_cons_succ, List.setIfInBounds_toArray, List.set_cons_zero, List.set_cons_succ]
    refine wpAnyH_take (i := 13) (v := undef) rfl (by kernel_rfl) (by kernel_rfl) (by kernel_rfl) (fun _ _ _ h => h) (Or.inr ⟨rfl, rfl⟩) (by assumption) ?_
    simp only [Act.put, List.getElem_toArray, List.getElem_cons_zero, List.getElem_cons_succ, List.setIfInBounds_toArray, List.set_cons_zero, List.set_cons_succ]
    refine wpAnyH_take (i := 14) (v := undef) rfl (by kernel_rfl) (by kernel_rfl) (by kernel_rfl) (fun _ _ _ h => h) (Or.inr ⟨rfl, rfl⟩) (by assumption) ?_
    simp only [Act.put, List.getElem_toArray, List.getElem_cons_zero, List.getElem_cons_succ, List.setIfInBounds_toArray, List.set_cons_zero, List.set_cons_succ]
    refine wpAnyH_take (i := 15) (v := ?vz94) rfl (by kernel_rfl) (by kernel_rfl) (by kernel_rfl) (fun _ _ _ h => h) (Or.inl ⟨?wz94, ?yz94⟩) (by assumption) ?rz94
    case yz94 => (intro w hSw; (try dsimp only at hSw); go_simp; try with_reducible rfl)
    case wz94 => rfl
    case' rz94 => simp only [Act.put, List.getElem_toArray, List.getElem_cons_zero, List.getElem_cons_succ, List.setIfInBounds_toArray, List.set_cons_zero, List.set_cons_succ]
    refine wpAnyH_take (i := 16) (v := ?vz95) rfl (by kernel_rfl) (by kernel_rfl) (by kernel_rfl) (fun _ _ _ h => h) (Or.inl ⟨?wz95, ?yz95⟩) (by assumption) ?rz95
    case yz95 => (intro w hSw; (try dsimp only at hSw); go_simp; try with_reducible rfl)
    case wz95 => rfl
    case' rz95 => simp only [Act.put, List.getElem_toArray, List.getElem_cons_zero, List.getElem_cons_succ, List.setIfInBounds_toArray, List.set_cons_zero, List.set_cons_succ]
    refine wpAnyH_take (i := 17) (v := undef) rfl (by kernel_rfl) (by kernel_rfl) (by kernel_rfl) (fun _ _ _ h => h) (Or.inr ⟨rfl, rfl⟩) (by assumption) ?_
    simp only [Act.put, List.getElem_toArray, List.getElem_cons_zero, List.getElem_cons_succ, List.setIfInBounds_toArray, List.set_cons_zero, List.set_cons_succ]
    refine wpAnyH_take (i := 18) (v := undef) rfl (by kernel_rfl) (by kernel_rfl) (by kernel_rfl) (fun _ _ _ h => h) (Or.inr ⟨rfl, rfl⟩) (by assumption) ?_
    simp only [Act.put, List.getElem_toArray, List.getElem_cons_zero, List.getElem_cons_succ, List.setIfInBounds_toArray, List.set_cons_zero, List.set_cons_succ]
    refine wpAnyH_take (i := 19) (v := undef) rfl (by kernel_rfl) (by kernel_rfl) (by kernel_rfl) (fun _ _ _ h => h) (Or.inr ⟨rfl, rfl⟩) (by assumption) ?_
    simp only [Act.put, List.getElem_toArray, List.getElem_cons_zero, List.getElem_cons_succ, List.setIfInBounds_toArray, List.set_cons_zero, List.set_cons_succ]
    refine wpAnyH_take (i := 20) (v := undef) rfl (by kernel_rfl) (by kernel_rfl) (by kernel_rfl) (fun _ _ _ h => h) (Or.inr ⟨rfl, rfl⟩) (by assumption) ?_
    simp only [Act.put, List.getElem_toArray, List.getElem_cons_zero, List.getElem_cons_succ, List.setIfInBounds_toArray, List.set_cons_zero, List.set_cons_succ]
    refine wpAnyH_take (i := 21) (v := undef) rfl (by kernel_rfl) (by kernel_rfl) (by kernel_rfl) (fun _ _ _ h => h) (Or.inr ⟨rfl, rfl⟩) (by assumption) ?_
    simp only [Act.put, List.getElem_toArray, List.getElem_cons_zero, List.getElem_cons_succ, List.setIfInBounds_toArray, List.set_cons_zero, List.set_cons_succ]
    refine wpAnyH_take (i := 22) (v := undef) rfl (by kernel_rfl) (by kernel_rfl) (by kernel_rfl) (fun _ _ _ h => h) (Or.inr ⟨rfl, rfl⟩) (by assumption) ?_
    simp only [Act.put, List.getElem_toArray, List.getElem_cons_zero, List.getElem_cons_succ, List.setIfInBounds_toArray, List.set_cons_zero, List.set_cons_succ]
    refine wpAnyH_take (i := 23) (v := undef) rfl (by kernel_rfl) (by kernel_rfl) (by kernel_rfl) (fun _ _ _ h => h) (Or.inr ⟨rfl, rfl⟩) (by assumption) ?_
    simp only [Act.put, List.getElem_toArray, List.getElem_cons_zero, List.getElem_cons_succ, List.setIfInBounds_toArray, List.set_cons_zero, List.set_cons_succ]
    refine wpAnyH_take (i := 24) (v := undef) rfl (by kernel_rfl) (by kernel_rfl) (by kernel_rfl) (fun _ _ _ h => h) (Or.inr ⟨rfl, rfl⟩) (by assumption) ?_
    simp only [Act.put, List.getElem_toArray, List.getElem_cons_zero, List.getElem_cons_succ, List.setIfInBounds_toArray, List.set_cons_zero, List.set_cons_succ]
    refine wpAnyH_take (i := 25) (v := ?vz104) rfl (by kernel_rfl) (by kernel_rfl) (by kernel_rfl) (fun _ _ _ h => h) (Or.inl ⟨?wz104, ?yz104⟩) (by assumption) ?rz104
    case yz104 => (intro w hSw; (try dsimp only at hSw); go_simp; try with_reducible rfl)
    case wz104 => rfl
    case' rz104 => simp only [Act.put, List.getElem_toArray, List.getElem_cons_zero, List.getElem_cons_succ, List.setIfInBounds_toArray, List.set_cons_zero, List.set_cons_succ]
    refine wpAnyH_done (by kernel_rfl) ?_ _
    go_wp2_with fail
    go_ret
    refine ⟨?_, (k1 _).drew⟩
    rw [← HR.out]
    simp [h1]
end Ytfoolgojcmkdbaa
end Go.Proofs
