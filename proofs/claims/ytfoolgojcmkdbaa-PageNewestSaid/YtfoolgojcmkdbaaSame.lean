/-
  Same: are two pages the same?
-/
import Derived.Test.YtfoolgojcmkdbaaEqs
import Derived.Test.YtfoolgojcmkdbaaRise
set_option maxHeartbeats 8000000
namespace Go.Proofs
open Go.RowKit
namespace Ytfoolgojcmkdbaa
attribute [local go_sem ↓] Go.wp_at_zero Go.wp_at_succ
theorem lists_eq {α : Type} {l m : List α} (hlen : l.length = m.length) (h : ∀ (j : Nat), j < l.length → l[j]? = m[j]?) : l = m := by
  apply List.ext_getElem? fun j => ?_
  by_cases hj : j < l.length
  · exact h j hj
  · rw [List.getElem?_eq_none (by omega), List.getElem?_eq_none (by omega)]
theorem same_any (a b : Page) {iA kA jA mA : Option Addr} {ic kc jc mc : Nat} (w : World) (hai : ItR w (.slice iA a.items.length ic) a.items) (hak : KdR w (.slice kA a.kids.length kc) a.kids)
    (hbi : ItR w (.slice jA b.items.length jc) b.items) (hbk : KdR w (.slice mA b.kids.length mc) b.kids) (hn : a.items.length ≤ 1152921504606846975) (hm : a.kids.length ≤ 1152921504606846975) :
    Calls Try.prog 10 #[pv a (.slice iA a.items.length ic) (.slice kA a.kids.length kc), pv b (.slice jA b.items.length jc) (.slice mA b.kids.length mc)] w fun e w' => e = .returned (.bool (decide (a = b))) ∧ Kept (fun _ => True) w w' := by
  obtain ⟨r, hr⟩ : ∃ r, decide (a = b) = r := ⟨_, rfl⟩
  rw [hr]
  obtain ⟨lv, lo, hi, la, sd, il, kl⟩ := a
  obtain ⟨lv', lo', hi', la', sd', il', kl'⟩ := b
  unfold pv
  simp only at hai hak hbi hbk hn hm ⊢
  have HR := Lib.hid hr
  have HAI := Lib.hid hai
  have HAK := Lib.hid hak
  have HBI := Lib.hid hbi
  have HBK := Lib.hid hbk
  clear hr hai hak hbi hbk
  generalize hil : il.length = n at hn HAI ⊢
  generalize hkl : kl.length = m at hm HAK ⊢
  generalize hil' : il'.length = n' at HBI ⊢
  generalize hkl' : kl'.length = m' at HBK ⊢
  have HIL := Lib.hid hil
  have HKL := Lib.hid hkl
  have HIL' := Lib.hid hil'
  have HKL' := Lib.hid hkl'
  clear hil hkl hil' hkl'
  have hs1 : ∀ o, (w.alloc o).heap.size = w.heap.size + 1 := fun o => by simp
  have K0 : Hid (Kept (fun _ => True) w ((w.alloc (.cells #[.int .i64 lv, .string lo, .string hi, .bool la, .int .i64 sd, .slice iA n ic, .slice kA m kc] 25)).alloc (.cells #[.int .i64 lv', .string lo', .string hi', .bool la', .int .i64 sd', .slice jA n' jc, .slice mA m' mc] 25))) := Lib.hid (((Kept.refl _ w).alloc _).alloc _)
  have BA := Lib.hid ((Box.new (lv := lv) (lo := lo) (hi := hi) (la := la) (sd := sd) (iv := .slice iA n ic) (kv := .slice kA m kc) w).kept ((Kept.refl _ _).alloc (.cells #[.int .i64 lv', .string lo', .string hi', .bool la', .int .i64 sd', .slice jA n' jc, .slice mA m' mc] 25)))
  have BB := Lib.hid (Box.new (lv := lv') (lo := lo') (hi := hi') (la := la') (sd := sd') (iv := .slice jA n' jc) (kv := .slice mA m' mc) (w.alloc (.cells #[.int .i64 lv, .string lo, .string hi, .bool la, .int .i64 sd, .slice iA n ic, .slice kA m kc] 25)))
  rw [hs1] at BB
  clear hs1
  go_enter Try.func10, Try.ntmps10
  by_cases h1 : lv = lv'
  · subst h1
    by_cases h2 : lo = lo'
    · subst h2
      by_cases h3 : hi = hi'
      · subst h3
        by_cases h4 : la = la'
        · subst h4
          have t4 : (la != la) = false := bne_self_eq_false _
          by_cases h5 : sd = sd'
          · subst h5
            by_cases h6 : n = n'
            · subst h6
              have t6 : ((n : Int) != (n : Int)) = false := bne_self_eq_false _
              by_cases h7 : m = m'
              · subst h7
                have t7 : ((m : Int) != (m : Int)) = false := bne_self_eq_false _
                go_wp2_with fail
                generalize (w.alloc (.cells #[.int .i64 lv, .string lo, .string hi, .bool la, .int .i64 sd, .slice iA n ic, .slice kA m kc] 25)).alloc (.cells #[.int .i64 lv, .string lo, .string hi, .bool la, .int .i64 sd, .slice jA n jc, .slice mA m mc] 25) = W0 at K0 BA BB ⊢
                go_loopw [5] (fun s5 wr => ∃ k : Nat, k ≤ n ∧ s5 = .int .i64 k ∧ Hid (Kept (fun _ => True) W0 wr) ∧ Hid (∀ (j : Nat), j < k → il[j]? = il'[j]?)) (fun s5 _ => n - (intOf s5).toNat)
                case atStart => exact ⟨0, Nat.zero_le _, rfl, Lib.hid (Kept.refl _ _), Lib.hid fun j hj => absurd hj (Nat.not_lt_zero _)⟩
                case round =>
                  obtain ⟨k, hk, rfl, BW, PR⟩ := hrel
                  obtain ⟨p0, p1, p2, p3, p4, p5, p6⟩ := BA.out.kept BW.out
                  obtain ⟨q0, q1, q2, q3, q4, q5, q6⟩ := BB.out.kept BW.out
                  by_cases hlt : k < n
                  · have hltz : (k : Int) < (n : Int) := by omega
                    obtain ⟨x, hx⟩ : ∃ x, il[k]? = some x := ⟨_, List.getElem?_eq_getElem (by rw [HIL.out]; exact hlt)⟩
                    obtain ⟨y, hy⟩ : ∃ y, il'[k]? = some y := ⟨_, List.getElem?_eq_getElem (by rw [HIL'.out]; exact hlt)⟩
                    obtain ⟨b, off, rfl, _, hc, c0, c1, c2, c3⟩ := ItR.at_ (RdK.all (RdK.all HAI.out K0.out) BW.out) hx
                    obtain ⟨b', off', rfl, _, hc', d0, d1, d2, d3⟩ := ItR.at_ (RdK.all (RdK.all HBI.out K0.out) BW.out) hy
                    have HX := Lib.hid hx
                    have HY := Lib.hid hy
                    obtain ⟨xk, xv, xn, xg⟩ := x
                    obtain ⟨yk, yv, yn, yg⟩ := y
                    simp only at c0 c1 c2 c3 d0 d1 d2 d3
                    have hne := run_neqItem xk xv xn xg yk yv yn yg
                    clear hx hy
                    obtain ⟨bq, hbq⟩ : ∃ bq, decide ((⟨xk, xv, xn, xg⟩ : Item) = ⟨yk, yv, yn, yg⟩) = bq := ⟨_, rfl⟩
                    rw [hbq] at hne
                    have HBQ := Lib.hid hbq
                    have HS := Lib.hid (And.intro (And.intro p0 (And.intro p1 (And.intro p2 (And.intro p3 (And.intro p4 (And.intro p5 p6)))))) (And.intro (And.intro q0 (And.intro q1 (And.intro q2 (And.intro q3 (And.intro q4 (And.intro q5 q6)))))) (And.intro (And.intro c0 (And.intro c1 (And.intro c2 c3))) (And.intro d0 (And.intro d1 (And.intro d2 d3))))))
                    clear hbq c0 c1 c2 c3 d0 d1 d2 d3
                    go_upto_region 6 with fail
                    clear p0 p1 p2 p3 p4 p5 p6 q0 q1 q2 q3 q4 q5 q6
                    refine wp_region_held_drew (S := (fun W => (W.cell? ⟨w.heap.size, 0, none⟩ = some (.int .i64 lv) ∧ W.cell? ⟨w.heap.size, 1, none⟩ = some (.string lo) ∧ W.cell? ⟨w.heap.size, 2, none⟩ = some (.string hi) ∧ W.cell? ⟨w.heap.size, 3, none⟩ = some (.bool la) ∧ W.cell? ⟨w.heap.size, 4, none⟩ = some (.int .i64 sd) ∧ W.cell? ⟨w.heap.size, 5, none⟩ = some (.slice (some ⟨b, off, none⟩) n ic) ∧ W.cell? ⟨w.heap.size, 6, none⟩ = some (.slice kA m kc)) ∧ (W.cell? ⟨w.heap.size + 1, 0, none⟩ = some (.int .i64 lv) ∧ W.cell? ⟨w.heap.size + 1, 1, none⟩ = some (.string lo) ∧ W.cell? ⟨w.heap.size + 1, 2, none⟩ = some (.string hi) ∧ W.cell? ⟨w.heap.size + 1, 3, none⟩ = some (.bool la) ∧ W.cell? ⟨w.heap.size + 1, 4, none⟩ = some (.int .i64 sd) ∧ W.cell? ⟨w.heap.size + 1, 5, none⟩ = some (.slice (some ⟨b', off', none⟩) n jc) ∧ W.cell? ⟨w.heap.size + 1, 6, none⟩ = some (.slice mA m mc)) ∧ (W.cell? ⟨b, off + k * 4, none⟩ = some (.string xk) ∧ W.cell? ⟨b, off + k * 4 + 1, none⟩ = some (.string xv) ∧ W.cell? ⟨b, off + k * 4 + 2, none⟩ = some (.int .i64 xn) ∧ W.cell? ⟨b, off + k * 4 + 3, none⟩ = some (.bool xg)) ∧ (W.cell? ⟨b', off' + k * 4, none⟩ = some (.string yk) ∧ W.cell? ⟨b', off' + k * 4 + 1, none⟩ = some (.string yv) ∧ W.cell? ⟨b', off' + k * 4 + 2, none⟩ = some (.int .i64 yn) ∧ W.cell? ⟨b', off' + k * 4 + 3, none⟩ = some (.bool yg)))) (by kernel_rfl) ?_ (fun hHeld => ?_)
                    · exact HS.out
                    refine wpAnyH_take (i := 0) (v := ?vz1) rfl (by kernel_rfl) (by kernel_rfl) (by kernel_rfl) (fun _ _ _ h => h) (Or.inl ⟨?wz1, ?yz1⟩) (by assumption) ?rz1
                    case yz1 => (intro w hSw; (try dsimp only at hSw); go_simp; try with_reducible rfl)
                    case wz1 => rfl
                    case' rz1 => simp only [Act.put, List.getElem_toArray, List.getElem_cons_zero, List.setIfInBounds_toArray, List.set_cons_zero, List.set_cons_succ]
                    refine wpAnyH_take (i := 1) (v := ?vz2) rfl (by kernel_rfl) (by kernel_rfl) (by kernel_rfl) (fun _ _ _ h => h) (Or.inl ⟨?wz2, ?yz2⟩) (by assumption) ?rz2
                    case yz2 => (intro w hSw; (try dsimp only at hSw); go_simp; try with_reducible rfl)
                    case wz2 => rfl
                    case' rz2 => simp only [Act.put, List.getElem_toArray, List.getElem_cons_zero, List.getElem_cons_succ, List.setIfInBounds_toArray, List.set_cons_zero, List.set_cons_succ]
                    refine wpAnyH_take (i := 2) (v := ?vz3) rfl (by kernel_rfl) (by kernel_rfl) (by kernel_rfl) (fun _ _ _ h => h) (Or.inl ⟨?wz3, ?yz3⟩) (by assumption) ?rz3
                    case yz3 => (intro w hSw; (try dsimp only at hSw); go_simp; try with_reducible rfl)
                    case wz3 => rfl
                    case' rz3 => simp only [Act.put, List.getElem_toArray, List.getElem_cons_zero, List.getElem_cons_succ, List.setIfInBounds_toArray, List.set_cons_zero, List.set_cons_succ]
                    refine wpAnyH_take (i := 3) (v := ?vz4) rfl (by kernel_rfl) (by kernel_rfl) (by kernel_rfl) (fun _ _ _ h => h) (Or.inl ⟨?wz4, ?yz4⟩) (by assumption) ?rz4
                    case yz4 => (intro w hSw; (try dsimp only at hSw); go_simp; try with_reducible rfl)
                    case wz4 => rfl
                    case' rz4 => simp only [Act.put, List.getElem_toArray, List.getElem_cons_zero, List.getElem_cons_succ, List.setIfInBounds_toArray, List.set_cons_zero, List.set_cons_succ]
                    refine wpAnyH_take (i := 4) (v := ?vz5) rfl (by kernel_rfl) (by kernel_rfl) (by kernel_rfl) (fun _ _ _ h => h) (Or.inl ⟨?wz5, ?yz5⟩) (by assumption) ?rz5
                    case yz5 => (intro w hSw; (try dsimp only at hSw); go_simp; try with_reducible rfl)
                    case wz5 => rfl
                    case' rz5 => simp only [Act.put, List.getElem_toArray, List.getElem_cons_zero, List.getElem_cons_succ, List.setIfInBounds_toArray, List.set_cons_zero, List.set_cons_succ]
                    refine wpAnyH_take (i := 5) (v := ?vz6) rfl (by kernel_rfl) (by kernel_rfl) (by kernel_rfl) (fun _ _ _ h => h) (Or.inl ⟨?wz6, ?yz6⟩) (by assumption) ?rz6
                    case yz6 => (intro w hSw; (try dsimp only at hSw); go_simp; try with_reducible rfl)
                    case wz6 => rfl
                    case' rz6 => simp only [Act.put, List.getElem_toArray, List.getElem_cons_zero, List.getElem_cons_succ, List.setIfInBounds_toArray, List.set_cons_zero, List.set_cons_succ]
                    refine wpAnyH_take (i := 6) (v := ?vz7) rfl (by kernel_rfl) (by kernel_rfl) (by kernel_rfl) (fun _ _ _ h => h) (Or.inl ⟨?wz7, ?yz7⟩) (by assumption) ?rz7
                    case yz7 => (intro w hSw; (try dsimp only at hSw); go_simp; try with_reducible rfl)
                    case wz7 => rfl
                    case' rz7 => simp only [Act.put, List.getElem_toArray, List.getElem_cons_zero, List.getElem_cons_succ, List.setIfInBounds_toArray, List.set_cons_zero, List.set_cons_succ]
                    refine wpAnyH_take (i := 7) (v := ?vz8) rfl (by kernel_rfl) (by kernel_rfl) (by kernel_rfl) (fun _ _ _ h => h) (Or.inl ⟨?wz8, ?yz8⟩) (by assumption) ?rz8
                    case yz8 => (intro w hSw; (try dsimp only at hSw); go_simp; try with_reducible rfl)
                    case wz8 => rfl
                    case' rz8 => simp only [Act.put, List.getElem_toArray, List.getElem_cons_zero, List.getElem_cons_succ, List.setIfInBounds_toArray, List.set_cons_zero, List.set_cons_succ]
                    refine wpAnyH_take (i := 8) (v := ?vz9) rfl (by kernel_rfl) (by kernel_rfl) (by kernel_rfl) (fun _ _ _ h => h) (Or.inl ⟨?wz9, ?yz9⟩) (by assumption) ?rz9
                    case yz9 => (intro w hSw; (try dsimp only at hSw); go_simp; try with_reducible rfl)
                    case wz9 => rfl
                    case' rz9 => simp only [Act.put, List.getElem_toArray, List.getElem_cons_zero, List.getElem_cons_succ, List.setIfInBounds_toArray, List.set_cons_zero, List.set_cons_succ]
                    refine wpAnyH_take (i := 9) (v := ?vz10) rfl (by kernel_rfl) (by kernel_rfl) (by kernel_rfl) (fun _ _ _ h => h) (Or.inl ⟨?wz10, ?yz10⟩) (by assumption) ?rz10
                    case yz10 => (intro w hSw; (try dsimp only at hSw); go_simp; try with_reducible rfl)
                    case wz10 => rfl
                    case' rz10 => simp only [Act.put, List.getElem_toArray, List.getElem_cons_zero, List.getElem_cons_succ, List.setIfInBounds_toArray, List.set_cons_zero, List.set_cons_succ]
                    refine wpAnyH_take (i := 10) (v := ?vz11) rfl (by kernel_rfl) (by kernel_rfl) (by kernel_rfl) (fun _ _ _ h => h) (Or.inl ⟨?wz11, ?yz11⟩) (by assumption) ?rz11
                    case yz11 => (intro w hSw; (try dsimp only at hSw); go_simp; try with_reducible rfl)
                    case wz11 => rfl
                    case' rz11 => simp only [Act.put, List.getElem_toArray, List.getElem_cons_zero, List.getElem_cons_succ, List.setIfInBounds_toArray, List.set_cons_zero, List.set_cons_succ]
                    refine wpAnyH_done (by kernel_rfl) ?_ _
                    cases bq with
                    | false =>
                      go_wp2_with fail
                      go_ret
                      refine ⟨?_, K0.out.trans BW.out.drew⟩
                      rw [← HR.out, decide_eq_false fun e => ?_]
                      · rfl
                      · have e1 : il = il' := by injection e
                        have e2 := HX.out
                        rw [e1, HY.out] at e2
                        injection e2 with e2
                        have := HBQ.out
                        rw [decide_eq_true e2.symm] at this
                        cases this
                    | true =>
                      go_wp2_with fail
                      go_roundw
                      case measure => simp [intOf]; omega
                      case rel =>
                        refine ⟨k + 1, by omega, by simp, Lib.hid BW.out.drew, Lib.hid fun j hj => ?_⟩
                        rcases Nat.lt_succ_iff_lt_or_eq.1 hj with h | h
                        · exact PR.out j h
                        · subst h
                          rw [HX.out, HY.out, of_decide_eq_true HBQ.out]
                  · have hltz : ¬ (k : Int) < (n : Int) := by omega
                    have hke : k = n := by omega
                    subst hke
                    have HEQ : Hid (il = il') := Lib.hid (lists_eq (by rw [HIL.out, HIL'.out]) fun j hj => PR.out j (by rw [HIL.out] at hj; exact hj))
                    go_wp2_with fail
                    clear p0 p1 p2 p3 p4 p5 p6 q0 q1 q2 q3 q4 q5 q6
                    go_loopw [6] (fun s6 wx => ∃ k2 : Nat, k2 ≤ m ∧ s6 = .int .i64 k2 ∧ Hid (Kept (fun _ => True) W0 wx) ∧ Hid (∀ (j : Nat), j < k2 → kl[j]? = kl'[j]?)) (fun s6 _ => m - (intOf s6).toNat)
                    case atStart => exact ⟨0, Nat.zero_le _, rfl, BW, Lib.hid fun j hj => absurd hj (Nat.not_lt_zero _)⟩
                    case round =>
                      obtain ⟨k2, hk2, rfl, BX, PS⟩ := hrel
                      obtain ⟨p0, p1, p2, p3, p4, p5, p6⟩ := BA.out.kept BX.out
                      obtain ⟨q0, q1, q2, q3, q4, q5, q6⟩ := BB.out.kept BX.out
                      by_cases hlt2 : k2 < m
                      · have hltz2 : (k2 : Int) < (m : Int) := by omega
                        obtain ⟨x, hx⟩ : ∃ x, kl[k2]? = some x := ⟨_, List.getElem?_eq_getElem (by rw [HKL.out]; exact hlt2)⟩
                        obtain ⟨y, hy⟩ : ∃ y, kl'[k2]? = some y := ⟨_, List.getElem?_eq_getElem (by rw [HKL'.out]; exact hlt2)⟩
                        obtain ⟨b, off, rfl, _, hc, c0, c1⟩ := KdR.at_ (RdK.all (RdK.all HAK.out K0.out) BX.out) hx
                        obtain ⟨b', off', rfl, _, hc', d0, d1⟩ := KdR.at_ (RdK.all (RdK.all HBK.out K0.out) BX.out) hy
                        have HX := Lib.hid hx
                        have HY := Lib.hid hy
                        obtain ⟨xk, xn⟩ := x
                        obtain ⟨yk, yn⟩ := y
                        simp only at c0 c1 d0 d1
                        have hne := run_neqKid xk xn yk yn
                        clear hx hy
                        obtain ⟨bq, hbq⟩ : ∃ bq, decide ((⟨xk, xn⟩ : Kid) = ⟨yk, yn⟩) = bq := ⟨_, rfl⟩
                        rw [hbq] at hne
                        have HBQ := Lib.hid hbq
                        have HS := Lib.hid (And.intro (And.intro p0 (And.intro p1 (And.intro p2 (And.intro p3 (And.intro p4 (And.intro p5 p6)))))) (And.intro (And.intro q0 (And.intro q1 (And.intro q2 (And.intro q3 (And.intro q4 (And.intro q5 q6)))))) (And.intro (And.intro c0 c1) (And.intro d0 d1))))
                        clear hbq c0 c1 d0 d1
                        go_upto_region 11 with fail
                        clear p0 p1 p2 p3 p4 p5 p6 q0 q1 q2 q3 q4 q5 q6
                        refine wp_region_held_drew (S := (fun W => (W.cell? ⟨w.heap.size, 0, none⟩ = some (.int .i64 lv) ∧ W.cell? ⟨w.heap.size, 1, none⟩ = some (.string lo) ∧ W.cell? ⟨w.heap.size, 2, none⟩ = some (.string hi) ∧ W.cell? ⟨w.heap.size, 3, none⟩ = some (.bool la) ∧ W.cell? ⟨w.heap.size, 4, none⟩ = some (.int .i64 sd) ∧ W.cell? ⟨w.heap.size, 5, none⟩ = some (.slice iA k ic) ∧ W.cell? ⟨w.heap.size, 6, none⟩ = some (.slice (some ⟨b, off, none⟩) m kc)) ∧ (W.cell? ⟨w.heap.size + 1, 0, none⟩ = some (.int .i64 lv) ∧ W.cell? ⟨w.heap.size + 1, 1, none⟩ = some (.string lo) ∧ W.cell? ⟨w.heap.size + 1, 2, none⟩ = some (.string hi) ∧ W.cell? ⟨w.heap.size + 1, 3, none⟩ = some (.bool la) ∧ W.cell? ⟨w.heap.size + 1, 4, none⟩ = some (.int .i64 sd) ∧ W.cell? ⟨w.heap.size + 1, 5, none⟩ = some (.slice jA k jc) ∧ W.cell? ⟨w.heap.size + 1, 6, none⟩ = some (.slice (some ⟨b', off', none⟩) m mc)) ∧ (W.cell? ⟨b, off + k2 * 2, none⟩ = some (.string xk) ∧ W.cell? ⟨b, off + k2 * 2 + 1, none⟩ = some (.int .i64 xn)) ∧ (W.cell? ⟨b', off' + k2 * 2, none⟩ = some (.string yk) ∧ W.cell? ⟨b', off' + k2 * 2 + 1, none⟩ = some (.int .i64 yn)))) (by kernel_rfl) ?_ (fun hHeld => ?_)
                        · exact HS.out
                        refine wpAnyH_take (i := 0) (v := ?vz12) rfl (by kernel_rfl) (by kernel_rfl) (by kernel_rfl) (fun _ _ _ h => h) (Or.inl ⟨?wz12, ?yz12⟩) (by assumption) ?rz12
                        case yz12 => (intro w hSw; (try dsimp only at hSw); go_simp; try with_reducible rfl)
                        case wz12 => rfl
                        case' rz12 => simp only [Act.put, List.getElem_toArray, List.getElem_cons_zero, List.setIfInBounds_toArray, List.set_cons_zero, List.set_cons_succ]
                        refine wpAnyH_take (i := 1) (v := ?vz13) rfl (by kernel_rfl) (by kernel_rfl) (by kernel_rfl) (fun _ _ _ h => h) (Or.inl ⟨?wz13, ?yz13⟩) (by assumption) ?rz13
                        case yz13 => (intro w hSw; (try dsimp only at hSw); go_simp; try with_reducible rfl)
                        case wz13 => rfl
                        case' rz13 => simp only [Act.put, List.getElem_toArray, List.getElem_cons_zero, List.getElem_cons_succ, List.setIfInBounds_toArray, List.set_cons_zero, List.set_cons_succ]
                        refine wpAnyH_take (i := 2) (v := ?vz14) rfl (by kernel_rfl) (by kernel_rfl) (by kernel_rfl) (fun _ _ _ h => h) (Or.inl ⟨?wz14, ?yz14⟩) (by assumption) ?rz14
                        case yz14 => (intro w hSw; (try dsimp only at hSw); go_simp; try with_reducible rfl)
                        case wz14 => rfl
                        case' rz14 => simp only [Act.put, List.getElem_toArray, List.getElem_cons_zero, List.getElem_cons_succ, List.setIfInBounds_toArray, List.set_cons_zero, List.set_cons_succ]
                        refine wpAnyH_take (i := 3) (v := ?vz15) rfl (by kernel_rfl) (by kernel_rfl) (by kernel_rfl) (fun _ _ _ h => h) (Or.inl ⟨?wz15, ?yz15⟩) (by assumption) ?rz15
                        case yz15 => (intro w hSw; (try dsimp only at hSw); go_simp; try with_reducible rfl)
                        case wz15 => rfl
                        case' rz15 => simp only [Act.put, List.getElem_toArray, List.getElem_cons_zero, List.getElem_cons_succ, List.setIfInBounds_toArray, List.set_cons_zero, List.set_cons_succ]
                        refine wpAnyH_take (i := 4) (v := ?vz16) rfl (by kernel_rfl) (by kernel_rfl) (by kernel_rfl) (fun _ _ _ h => h) (Or.inl ⟨?wz16, ?yz16⟩) (by assumption) ?rz16
                        case yz16 => (intro w hSw; (try dsimp only at hSw); go_simp; try with_reducible rfl)
                        case wz16 => rfl
                        case' rz16 => simp only [Act.put, List.getElem_toArray, List.getElem_cons_zero, List.getElem_cons_succ, List.setIfInBounds_toArray, List.set_cons_zero, List.set_cons_succ]
                        refine wpAnyH_take (i := 5) (v := ?vz17) rfl (by kernel_rfl) (by kernel_rfl) (by kernel_rfl) (fun _ _ _ h => h) (Or.inl ⟨?wz17, ?yz17⟩) (by assumption) ?rz17
                        case yz17 => (intro w hSw; (try dsimp only at hSw); go_simp; try with_reducible rfl)
                        case wz17 => rfl
                        case' rz17 => simp only [Act.put, List.getElem_toArray, List.getElem_cons_zero, List.getElem_cons_succ, List.setIfInBounds_toArray, List.set_cons_zero, List.set_cons_succ]
                        refine wpAnyH_take (i := 6) (v := ?vz18) rfl (by kernel_rfl) (by kernel_rfl) (by kernel_rfl) (fun _ _ _ h => h) (Or.inl ⟨?wz18, ?yz18⟩) (by assumption) ?rz18
                        case yz18 => (intro w hSw; (try dsimp only at hSw); go_simp; try with_reducible rfl)
                        case wz18 => rfl
                        case' rz18 => simp only [Act.put, List.getElem_toArray, List.getElem_cons_zero, List.getElem_cons_succ, List.setIfInBounds_toArray, List.set_cons_zero, List.set_cons_succ]
                        refine wpAnyH_take (i := 7) (v := ?vz19) rfl (by kernel_rfl) (by kernel_rfl) (by kernel_rfl) (fun _ _ _ h => h) (Or.inl ⟨?wz19, ?yz19⟩) (by assumption) ?rz19
                        case yz19 => (intro w hSw; (try dsimp only at hSw); go_simp; try with_reducible rfl)
                        case wz19 => rfl
                        case' rz19 => simp only [Act.put, List.getElem_toArray, List.getElem_cons_zero, List.getElem_cons_succ, List.setIfInBounds_toArray, List.set_cons_zero, List.set_cons_succ]
                        refine wpAnyH_take (i := 8) (v := ?vz20) rfl (by kernel_rfl) (by kernel_rfl) (by kernel_rfl) (fun _ _ _ h => h) (Or.inl ⟨?wz20, ?yz20⟩) (by assumption) ?rz20
                        case yz20 => (intro w hSw; (try dsimp only at hSw); go_simp; try with_reducible rfl)
                        case wz20 => rfl
                        case' rz20 => simp only [Act.put, List.getElem_toArray, List.getElem_cons_zero, List.getElem_cons_succ, List.setIfInBounds_toArray, List.set_cons_zero, List.set_cons_succ]
                        refine wpAnyH_take (i := 9) (v := ?vz21) rfl (by kernel_rfl) (by kernel_rfl) (by kernel_rfl) (fun _ _ _ h => h) (Or.inl ⟨?wz21, ?yz21⟩) (by assumption) ?rz21
                        case yz21 => (intro w hSw; (try dsimp only at hSw); go_simp; try with_reducible rfl)
                        case wz21 => rfl
                        case' rz21 => simp only [Act.put, List.getElem_toArray, List.getElem_cons_zero, List.getElem_cons_succ, List.setIfInBounds_toArray, List.set_cons_zero, List.set_cons_succ]
                        refine wpAnyH_take (i := 10) (v := ?vz22) rfl (by kernel_rfl) (by kernel_rfl) (by kernel_rfl) (fun _ _ _ h => h) (Or.inl ⟨?wz22, ?yz22⟩) (by assumption) ?rz22
                        case yz22 => (intro w hSw; (try dsimp only at hSw); go_simp; try with_reducible rfl)
                        case wz22 => rfl
                        case' rz22 => simp only [Act.put, List.getElem_toArray, List.getElem_cons_zero, List.getElem_cons_succ, List.setIfInBounds_toArray, List.set_cons_zero, List.set_cons_succ]
                        refine wpAnyH_done (by kernel_rfl) ?_ _
                        cases bq with
                        | false =>
                          go_wp2_with fail
                          go_ret
                          refine ⟨?_, K0.out.trans BX.out.drew⟩
                          rw [← HR.out, decide_eq_false fun e => ?_]
                          · rfl
                          · have e1 : kl = kl' := by injection e
                            have e2 := HX.out
                            rw [e1, HY.out] at e2
                            injection e2 with e2
                            have := HBQ.out
                            rw [decide_eq_true e2.symm] at this
                            cases this
                        | true =>
                          go_wp2_with fail
                          go_roundw
                          case measure => simp [intOf]; omega
                          case rel =>
                            refine ⟨k2 + 1, by omega, by simp, Lib.hid BX.out.drew, Lib.hid fun j hj => ?_⟩
                            rcases Nat.lt_succ_iff_lt_or_eq.1 hj with h | h
                            · exact PS.out j h
                            · subst h
                              rw [HX.out, HY.out, of_decide_eq_true HBQ.out]
                      · have hltz2 : ¬ (k2 : Int) < (m : Int) := by omega
                        have hke2 : k2 = m := by omega
                        subst hke2
                        have HEQ2 : kl = kl' := lists_eq (by rw [HKL.out, HKL'.out]) fun j hj => PS.out j (by rw [HKL.out] at hj; exact hj)
                        go_wp2_with fail
                        go_ret
                        refine ⟨?_, K0.out.trans BX.out⟩
                        rw [← HR.out, decide_eq_true (by rw [HEQ.out, HEQ2])]
                        rfl
              · have t7 : ((m : Int) != (m' : Int)) = true := bne_iff_ne.2 (by omega)
                go_wp2_with fail
                go_ret
                refine ⟨?_, K0.out⟩
                rw [← HR.out, decide_eq_false fun e => h7 (by injection e with _ _ _ _ _ _ e; rw [← HKL.out, ← HKL'.out, e])]
                rfl
            · have t6 : ((n : Int) != (n' : Int)) = true := bne_iff_ne.2 (by omega)
              go_wp2_with fail
              go_ret
              refine ⟨?_, K0.out⟩
              rw [← HR.out, decide_eq_false fun e => h6 (by injection e with _ _ _ _ _ e; rw [← HIL.out, ← HIL'.out, e])]
              rfl
          · have t5 : (sd != sd') = true := by simpa using h5
            go_wp2_with fail
            go_ret
            refine ⟨?_, K0.out⟩
            rw [← HR.out, decide_eq_false fun e => h5 (by injection e)]
            rfl
        · have t4 : (la != la') = true := by simpa using h4
          go_wp2_with fail
          go_ret
          refine ⟨?_, K0.out⟩
          rw [← HR.out, decide_eq_false fun e => h4 (by injection e)]
          rfl
      · have t3 : (hi.toList == hi'.toList) = false := by rw [beq_toList]; exact decide_eq_false h3
        go_wp2_with fail
        go_ret
        refine ⟨?_, K0.out⟩
        rw [← HR.out, decide_eq_false fun e => h3 (by injection e)]
        rfl
    · have t2 : (lo.toList == lo'.toList) = false := by rw [beq_toList]; exact decide_eq_false h2
      go_wp2_with fail
      go_ret
      refine ⟨?_, K0.out⟩
      rw [← HR.out, decide_eq_false fun e => h2 (by injection e)]
      rfl
  · have t1 : (lv != lv') = true := by simpa using h1
    go_wp2_with fail
    go_ret
    refine ⟨?_, K0.out⟩
    rw [← HR.out, decide_eq_false fun e => h1 (by injection e)]
    rfl
end Ytfoolgojcmkdbaa
end Go.Proofs
