/-
  Put of what is refused.
-/
import Derived.Test.YtfoolgojcmkdbaaPutNew
set_option maxHeartbeats 8000000
set_option maxRecDepth 100000
namespace Go.Proofs
open Go.RowKit
namespace Ytfoolgojcmkdbaa
attribute [local go_sem ↓] Go.wp_at_zero Go.wp_at_succ
theorem set_stepP {W : World} {g : Nat} {b0 b1 b2 b3 b4 b5 b6 : Value} (h : Blk W g 25 #[b0, b1, b2, b3, b4, b5, b6]) (a0 a1 a2 a3 a4 a5 a6 : Value) : ∃ W', ((((((W.setCell ⟨g, 0, none⟩ a0).setCell ⟨g, 1, none⟩ a1).setCell ⟨g, 2, none⟩ a2).setCell ⟨g, 3, none⟩ a3).setCell ⟨g, 4, none⟩ a4).setCell ⟨g, 5, none⟩ a5).setCell ⟨g, 6, none⟩ a6 = W' ∧
    Blk W' g 25 #[a0, a1, a2, a3, a4, a5, a6] ∧ Kept (fun b => b ≠ g) W W' := ⟨_, rfl, set7_blk h a0 a1 a2 a3 a4 a5 a6, set7_kept W g a0 a1 a2 a3 a4 a5 a6⟩
theorem put_bad (p : Page) (x : Item) (iv kv : Value) (w : World) (hbad : badItem x = true) :
    Calls Try.prog 9 #[pv p iv kv, .agg (ics x).toArray] w fun e w' => e = .returned (.tuple #[.agg #[.int .i64 0, .string ⟨#[]⟩, .string ⟨#[]⟩, .bool false, .int .i64 0, .slice none 0 0, .slice none 0 0], .int .i64 100]) ∧ Kept (fun _ => True) w w' := by
  have h16 : ∀ W, Calls Try.prog 16 #[.agg (ics x).toArray] W fun e w' => e = .returned (.int .i64 100) ∧ Kept (fun _ => True) W w' := fun W => by
    have := checkItem_any x W
    rw [hbad] at this
    exact this
  clear hbad
  obtain ⟨lv, lo, hi, la, sd, il, kl⟩ := p
  obtain ⟨xk, xv, xn, xg⟩ := x
  unfold pv ics at *
  simp only at *
  have k0 : Kept (fun _ => True) w (((w.alloc (.cells #[.int .i64 lv, .string lo, .string hi, .bool la, .int .i64 sd, iv, kv] 25)).alloc (.cells #[.string xk, .string xv, .int .i64 xn, .bool xg] 30)).alloc (.cells #[.int .i64 0, .string ⟨#[]⟩, .string ⟨#[]⟩, .bool false, .int .i64 0, .slice none 0 0, .slice none 0 0] 25)) := (((Kept.refl _ w).alloc _).alloc _).alloc _
  have hs2 : ((w.alloc (.cells #[.int .i64 lv, .string lo, .string hi, .bool la, .int .i64 sd, iv, kv] 25)).alloc (.cells #[.string xk, .string xv, .int .i64 xn, .bool xg] 30)).heap.size = w.heap.size + 1 + 1 := by simp
  have hZ := Blk.new ((w.alloc (.cells #[.int .i64 lv, .string lo, .string hi, .bool la, .int .i64 sd, iv, kv] 25)).alloc (.cells #[.string xk, .string xv, .int .i64 xn, .bool xg] 30)) 25 #[.int .i64 0, .string ⟨#[]⟩, .string ⟨#[]⟩, .bool false, .int .i64 0, .slice none 0 0, .slice none 0 0]
  rw [hs2] at hZ
  have K0 := Lib.hid k0
  have HZ := Lib.hid hZ
  clear k0 hZ hs2
  go_enter Try.func9, Try.ntmps9
  go_wp2_with fail
  generalize ((w.alloc (.cells #[.int .i64 lv, .string lo, .string hi, .bool la, .int .i64 sd, iv, kv] 25)).alloc (.cells #[.string xk, .string xv, .int .i64 xn, .bool xg] 30)).alloc (.cells #[.int .i64 0, .string ⟨#[]⟩, .string ⟨#[]⟩, .bool false, .int .i64 0, .slice none 0 0, .slice none 0 0] 25) = W0 at K0 HZ ⊢
  refine (h16 _).mono ?_
  rintro e w1 ⟨rfl, hk1⟩
  have hZ1 := HZ.out.kept hk1 trivial
  have K1 := Lib.hid (K0.out.trans hk1)
  obtain ⟨wn, hw, hZ2, hk⟩ := set_stepP hZ1 (.int .i64 0) (.string ⟨#[]⟩) (.string ⟨#[]⟩) (.bool false) (.int .i64 0) (.slice none 0 0) (.slice none 0 0)
  have HW := Lib.hid hw
  have KN := Lib.hid ((K1.out).trans' hk fun b hb _ => by show b ≠ w.heap.size + 1 + 1; omega)
  have z0 := hZ1.cell 0
  have z1 := hZ1.cell 1
  have z2 := hZ1.cell 2
  have z3 := hZ1.cell 3
  have z4 := hZ1.cell 4
  have z5 := hZ1.cell 5
  have z6 := hZ1.cell 6
  have q0 := hZ1.frozen 0
  have q1 := hZ1.frozen 1
  have q2 := hZ1.frozen 2
  have q3 := hZ1.frozen 3
  have q4 := hZ1.frozen 4
  have q5 := hZ1.frozen 5
  have q6 := hZ1.frozen 6
  clear hw hk
  go_wp2_with fail
  rw [HW.out]
  clear z0 z1 z2 z3 z4 z5 z6 q0 q1 q2 q3 q4 q5 q6
  have v0 := hZ2.cell 0
  have v1 := hZ2.cell 1
  have v2 := hZ2.cell 2
  have v3 := hZ2.cell 3
  have v4 := hZ2.cell 4
  have v5 := hZ2.cell 5
  have v6 := hZ2.cell 6
  refine bodyPost_ret (v := .tuple #[.agg #[.int .i64 0, .string ⟨#[]⟩, .string ⟨#[]⟩, .bool false, .int .i64 0, .slice none 0 0, .slice none 0 0], .int .i64 100]) ?_ rfl ⟨rfl, KN.out⟩
  have hres : Try.f9.results = #[.cell 4 25, .tmp 5] := rfl
  unfold results
  rw [hres]
  go_simp
  try rfl
theorem put_out (p : Page) (x : Item) {iA kA : Option Addr} {ic kc : Nat} (w : World) (hi : ItR w (.slice iA p.items.length ic) p.items) (hk : KdR w (.slice kA p.kids.length kc) p.kids) (hbad : badItem x = false) (hck : check p = true) (hn0 : p.items.length ≤ 120) (hm0 : p.kids.length ≤ 120)
    {i0 : Nat} {f0 : Bool} (hat : At (p.items.map (·.key)) x.key i0 f0) (hno : p.level ≠ 0 ∨ covers p x.key = false ∨ (f0 = false ∧ 120 ≤ p.items.length)) :
    Calls Try.prog 9 #[pv p (.slice iA p.items.length ic) (.slice kA p.kids.length kc), .agg (ics x).toArray] w fun e w' => e = .returned (.tuple #[.agg #[.int .i64 0, .string ⟨#[]⟩, .string ⟨#[]⟩, .bool false, .int .i64 0, .slice none 0 0, .slice none 0 0], .int .i64 103]) ∧ Kept (fun _ => True) w w' := by
  have hlv0 : 0 ≤ p.level := by
    have := (check_iff.1 hck).1
    unfold bounds at this
    simp only [Bool.and_eq_true, decide_eq_true_eq] at this
    exact this.2.1
  have h16 : ∀ W, Calls Try.prog 16 #[.agg (ics x).toArray] W fun e w' => e = .returned (.int .i64 0) ∧ Kept (fun _ => True) W w' := fun W => by
    have := checkItem_any x W
    rw [hbad] at this
    exact this
  have h7 : ∀ W, Kept (fun _ => True) w W → Calls Try.prog 7 #[pv p (.slice iA p.items.length ic) (.slice kA p.kids.length kc)] W fun e w' => e = .returned (.int .i64 0) ∧ Kept (fun _ => True) W w' := fun W hW => by
    have := check_any p W (hi.all hW) (hk.all hW) (by omega) (by omega)
    rw [hck] at this
    exact this
  have h23 : ∀ W, Kept (fun _ => True) w W → Calls Try.prog 23 #[.slice iA p.items.length ic, .string x.key, .func (.func 24) #[] #[]] W fun e w' => e = .returned (.tuple #[.int .i64 i0, .bool f0]) ∧ Kept (fun _ => True) W w' := fun W hW =>
    (placeItem_any x.key W (hi.all hW) (check_sortedI hck) (by omega)).mono fun e w' ⟨i, f, he, ha, hk⟩ => by
      obtain ⟨rfl, rfl⟩ := At.same ha.out hat
      exact ⟨he, hk⟩
  have h12 : ∀ W, Calls Try.prog 12 #[pv p (.slice iA p.items.length ic) (.slice kA p.kids.length kc), .string x.key] W fun e w' => e = .returned (.bool (covers p x.key)) ∧ Kept (fun _ => True) W w' := covers_any p _ _ x.key
  clear hi hk hbad hck hat
  generalize covers p x.key = cv at h12 hno
  obtain ⟨lv, lo, hi, la, sd, il, kl⟩ := p
  simp only at hn0 hm0 hno hlv0
  obtain ⟨xk, xv, xn, xg⟩ := x
  unfold pv ics at *
  simp only at *
  generalize il.length = n at h7 h12 h23 hn0 hno ⊢
  generalize kl.length = m at h7 h12 hm0 ⊢
  have k0 : Kept (fun _ => True) w (((w.alloc (.cells #[.int .i64 lv, .string lo, .string hi, .bool la, .int .i64 sd, .slice iA n ic, .slice kA m kc] 25)).alloc (.cells #[.string xk, .string xv, .int .i64 xn, .bool xg] 30)).alloc (.cells #[.int .i64 0, .string ⟨#[]⟩, .string ⟨#[]⟩, .bool false, .int .i64 0, .slice none 0 0, .slice none 0 0] 25)) := (((Kept.refl _ w).alloc _).alloc _).alloc _
  have hs1 : (w.alloc (.cells #[.int .i64 lv, .string lo, .string hi, .bool la, .int .i64 sd, .slice iA n ic, .slice kA m kc] 25)).heap.size = w.heap.size + 1 := by simp
  have hs2 : ((w.alloc (.cells #[.int .i64 lv, .string lo, .string hi, .bool la, .int .i64 sd, .slice iA n ic, .slice kA m kc] 25)).alloc (.cells #[.string xk, .string xv, .int .i64 xn, .bool xg] 30)).heap.size = w.heap.size + 1 + 1 := by simp
  have hs3 : (((w.alloc (.cells #[.int .i64 lv, .string lo, .string hi, .bool la, .int .i64 sd, .slice iA n ic, .slice kA m kc] 25)).alloc (.cells #[.string xk, .string xv, .int .i64 xn, .bool xg] 30)).alloc (.cells #[.int .i64 0, .string ⟨#[]⟩, .string ⟨#[]⟩, .bool false, .int .i64 0, .slice none 0 0, .slice none 0 0] 25)).heap.size = w.heap.size + 1 + 1 + 1 := by simp
  have hB := ((Blk.new w 25 #[.int .i64 lv, .string lo, .string hi, .bool la, .int .i64 sd, .slice iA n ic, .slice kA m kc]).alloc (.cells #[.string xk, .string xv, .int .i64 xn, .bool xg] 30)).alloc (.cells #[.int .i64 0, .string ⟨#[]⟩, .string ⟨#[]⟩, .bool false, .int .i64 0, .slice none 0 0, .slice none 0 0] 25)
  have hX := (Blk.new (w.alloc (.cells #[.int .i64 lv, .string lo, .string hi, .bool la, .int .i64 sd, .slice iA n ic, .slice kA m kc] 25)) 30 #[.string xk, .string xv, .int .i64 xn, .bool xg]).alloc (.cells #[.int .i64 0, .string ⟨#[]⟩, .string ⟨#[]⟩, .bool false, .int .i64 0, .slice none 0 0, .slice none 0 0] 25)
  rw [hs1] at hX
  have hZ := Blk.new ((w.alloc (.cells #[.int .i64 lv, .string lo, .string hi, .bool la, .int .i64 sd, .slice iA n ic, .slice kA m kc] 25)).alloc (.cells #[.string xk, .string xv, .int .i64 xn, .bool xg] 30)) 25 #[.int .i64 0, .string ⟨#[]⟩, .string ⟨#[]⟩, .bool false, .int .i64 0, .slice none 0 0, .slice none 0 0]
  rw [hs2] at hZ
  have K0 := Lib.hid k0
  have HB := Lib.hid hB
  have HX := Lib.hid hX
  have HZ := Lib.hid hZ
  have HS := Lib.hid hs3
  clear k0 hB hX hZ hs1 hs2 hs3
  go_enter Try.func9, Try.ntmps9
  go_wp2_with fail
  generalize ((w.alloc (.cells #[.int .i64 lv, .string lo, .string hi, .bool la, .int .i64 sd, .slice iA n ic, .slice kA m kc] 25)).alloc (.cells #[.string xk, .string xv, .int .i64 xn, .bool xg] 30)).alloc (.cells #[.int .i64 0, .string ⟨#[]⟩, .string ⟨#[]⟩, .bool false, .int .i64 0, .slice none 0 0, .slice none 0 0] 25) = W0 at K0 HB HX HZ HS ⊢
  refine (h16 _).mono ?_
  rintro e w1 ⟨rfl, hk1⟩
  have K1 := Lib.hid (K0.out.trans hk1)
  have HB1 := HB.out.kept hk1 trivial
  have b0 := HB1.cell 0
  have b1 := HB1.cell 1
  have b2 := HB1.cell 2
  have b3 := HB1.cell 3
  have b4 := HB1.cell 4
  have b5 := HB1.cell 5
  have b6 := HB1.cell 6
  go_wp2_with fail
  clear b0 b1 b2 b3 b4 b5 b6
  refine (h7 _ K1.out).mono ?_
  rintro e w2 ⟨rfl, hk2⟩
  have K2 := Lib.hid (K1.out.trans hk2)
  have hk02 := hk1.trans hk2
  have b5 := (HB.out.kept hk02 trivial).cell 5
  have x0 := (HX.out.kept hk02 trivial).cell 0
  clear hk1 hk2 HB1
  go_wp2_with fail
  clear b5 x0
  refine (h23 _ K2.out).mono ?_
  rintro e w3 ⟨rfl, hk3⟩
  have K3 := Lib.hid (K2.out.trans hk3)
  have hk03 := hk02.trans hk3
  have HB3 := HB.out.kept hk03 trivial
  have b0 := HB3.cell 0
  have b1 := HB3.cell 1
  have b2 := HB3.cell 2
  have b3 := HB3.cell 3
  have b4 := HB3.cell 4
  have b5 := HB3.cell 5
  have b6 := HB3.cell 6
  have x0 := (HX.out.kept hk03 trivial).cell 0
  clear hk02 hk3
  by_cases hl : lv = 0
  · subst hl
    cases cv with
    | false =>
      go_wp2_with fail
      refine (h12 _).mono ?_
      rintro e w4 ⟨rfl, hk4⟩
      clear b0 b1 b2 b3 b4 b5 b6 x0 HB3
      have hZ4 := HZ.out.kept (hk03.trans hk4) trivial
      have K4 := Lib.hid (K3.out.trans hk4)
      obtain ⟨wn, hw, hZ2, hk⟩ := set_stepP hZ4 (.int .i64 0) (.string ⟨#[]⟩) (.string ⟨#[]⟩) (.bool false) (.int .i64 0) (.slice none 0 0) (.slice none 0 0)
      have HW := Lib.hid hw
      have KN := Lib.hid ((K4.out).trans' hk fun b hb _ => by show b ≠ w.heap.size + 1 + 1; omega)
      have z0 := hZ4.cell 0
      have z1 := hZ4.cell 1
      have z2 := hZ4.cell 2
      have z3 := hZ4.cell 3
      have z4 := hZ4.cell 4
      have z5 := hZ4.cell 5
      have z6 := hZ4.cell 6
      have q0 := hZ4.frozen 0
      have q1 := hZ4.frozen 1
      have q2 := hZ4.frozen 2
      have q3 := hZ4.frozen 3
      have q4 := hZ4.frozen 4
      have q5 := hZ4.frozen 5
      have q6 := hZ4.frozen 6
      clear hw hk
      go_wp2_with fail
      rw [HW.out]
      clear z0 z1 z2 z3 z4 z5 z6 q0 q1 q2 q3 q4 q5 q6
      have v0 := hZ2.cell 0
      have v1 := hZ2.cell 1
      have v2 := hZ2.cell 2
      have v3 := hZ2.cell 3
      have v4 := hZ2.cell 4
      have v5 := hZ2.cell 5
      have v6 := hZ2.cell 6
      refine bodyPost_ret (v := .tuple #[.agg #[.int .i64 0, .string ⟨#[]⟩, .string ⟨#[]⟩, .bool false, .int .i64 0, .slice none 0 0, .slice none 0 0], .int .i64 103]) ?_ rfl ⟨rfl, KN.out⟩
      have hres : Try.f9.results = #[.cell 4 25, .tmp 5] := rfl
      unfold results
      rw [hres]
      go_simp
      try rfl
    | true =>
      have hf : f0 = false ∧ 120 ≤ n := by
        rcases hno with h | h | h
        · exact absurd rfl h
        · cases h
        · exact h
      obtain ⟨rfl, hf2⟩ := hf
      have hne : n = 120 := by omega
      subst hne
      go_wp2_with fail
      refine (h12 _).mono ?_
      rintro e w4 ⟨rfl, hk4⟩
      clear b0 b1 b2 b3 b4 b5 b6 x0 HB3
      have b5 := (HB.out.kept (hk03.trans hk4) trivial).cell 5
      have hZ4 := HZ.out.kept (hk03.trans hk4) trivial
      have K4 := Lib.hid (K3.out.trans hk4)
      obtain ⟨wn, hw, hZ2, hk⟩ := set_stepP hZ4 (.int .i64 0) (.string ⟨#[]⟩) (.string ⟨#[]⟩) (.bool false) (.int .i64 0) (.slice none 0 0) (.slice none 0 0)
      have HW := Lib.hid hw
      have KN := Lib.hid ((K4.out).trans' hk fun b hb _ => by show b ≠ w.heap.size + 1 + 1; omega)
      have z0 := hZ4.cell 0
      have z1 := hZ4.cell 1
      have z2 := hZ4.cell 2
      have z3 := hZ4.cell 3
      have z4 := hZ4.cell 4
      have z5 := hZ4.cell 5
      have z6 := hZ4.cell 6
      have q0 := hZ4.frozen 0
      have q1 := hZ4.frozen 1
      have q2 := hZ4.frozen 2
      have q3 := hZ4.frozen 3
      have q4 := hZ4.frozen 4
      have q5 := hZ4.frozen 5
      have q6 := hZ4.frozen 6
      clear hw hk
      go_wp2_with fail
      rw [HW.out]
      clear z0 z1 z2 z3 z4 z5 z6 q0 q1 q2 q3 q4 q5 q6
      have v0 := hZ2.cell 0
      have v1 := hZ2.cell 1
      have v2 := hZ2.cell 2
      have v3 := hZ2.cell 3
      have v4 := hZ2.cell 4
      have v5 := hZ2.cell 5
      have v6 := hZ2.cell 6
      refine bodyPost_ret (v := .tuple #[.agg #[.int .i64 0, .string ⟨#[]⟩, .string ⟨#[]⟩, .bool false, .int .i64 0, .slice none 0 0, .slice none 0 0], .int .i64 103]) ?_ rfl ⟨rfl, KN.out⟩
      have hres : Try.f9.results = #[.cell 4 25, .tmp 5] := rfl
      unfold results
      rw [hres]
      go_simp
      try rfl
  · have hl1 : decide (0 < lv) = true := by simp; omega
    have hl2 : 0 < lv := by omega
    have hZ4 := HZ.out.kept hk03 trivial
    obtain ⟨wn, hw, hZ2, hk⟩ := set_stepP hZ4 (.int .i64 0) (.string ⟨#[]⟩) (.string ⟨#[]⟩) (.bool false) (.int .i64 0) (.slice none 0 0) (.slice none 0 0)
    have HW := Lib.hid hw
    have KN := Lib.hid ((K3.out).trans' hk fun b hb _ => by show b ≠ w.heap.size + 1 + 1; omega)
    have z0 := hZ4.cell 0
    have z1 := hZ4.cell 1
    have z2 := hZ4.cell 2
    have z3 := hZ4.cell 3
    have z4 := hZ4.cell 4
    have z5 := hZ4.cell 5
    have z6 := hZ4.cell 6
    have q0 := hZ4.frozen 0
    have q1 := hZ4.frozen 1
    have q2 := hZ4.frozen 2
    have q3 := hZ4.frozen 3
    have q4 := hZ4.frozen 4
    have q5 := hZ4.frozen 5
    have q6 := hZ4.frozen 6
    clear hw hk
    go_wp2_with fail
    rw [HW.out]
    clear z0 z1 z2 z3 z4 z5 z6 q0 q1 q2 q3 q4 q5 q6
    have v0 := hZ2.cell 0
    have v1 := hZ2.cell 1
    have v2 := hZ2.cell 2
    have v3 := hZ2.cell 3
    have v4 := hZ2.cell 4
    have v5 := hZ2.cell 5
    have v6 := hZ2.cell 6
    refine bodyPost_ret (v := .tuple #[.agg #[.int .i64 0, .string ⟨#[]⟩, .string ⟨#[]⟩, .bool false, .int .i64 0, .slice none 0 0, .slice none 0 0], .int .i64 103]) ?_ rfl ⟨rfl, KN.out⟩
    have hres : Try.f9.results = #[.cell 4 25, .tmp 5] := rfl
    unfold results
    rw [hres]
    go_simp
    try rfl
end Ytfoolgojcmkdbaa
end Go.Proofs
