/-
  CodeBack: the walk.
-/
import Derived.Test.YtglhkfiigbbpdaaAwake
import Derived.Test.YtglhkfiigbbpdaaTakeA
import Derived.Test.YtglhkfiigbbpdaaBackPure
set_option maxHeartbeats 4000000
namespace Go.Proofs
open Go.RowKit
namespace Ytglhkfiigbbpdaa
attribute [local go_sem ↓] Go.wp_at_zero Go.wp_at_succ
/-- A reader over the bytes of block g: it lies behind g. -/
theorem newRd_behind {w : World} {g : Nat} {l : List UInt8} {v : Value} {base : Nat} (h : Rd w v l) (hl : l.length ≤ 140737488355328) (hbase : base ≤ w.heap.size) (hg : g < w.heap.size) :
    Calls Try.prog 15 #[v] w fun r w' => ∃ rb lb, r = .returned (.pointer (some ⟨rb, 0, none⟩)) ∧ RRd w' base rb lb l 0 ∧ (∀ b, rfoot rb lb b → g < b) ∧ Kept (fun _ => True) w w' :=
  (newRd_any h hl hbase).mono fun _ _ ⟨rb, lb, h1, h2, h3, h4⟩ => ⟨rb, lb, h1, h2, fun b hb => Nat.lt_of_lt_of_le hg (h3 b hb), h4⟩

theorem back_any (n m : Nat) (hn : n < 18446744073709551616) (hm : m < 18446744073709551616) (a : List UInt8) (A : Option Addr) (c : Nat) (cut : Int) (w : World) (ha : Rd w (.slice A a.length c) a) (hlen : a.length ≤ 140737488351232) :
    Calls Try.prog 5 #[.int .u64 (n : Int), .slice A a.length c, .int .u64 (m : Int), .int .i64 cut] w fun e w' => e = .returned (.bool true) ∧ Kept (fun b => b < w.heap.size) w w' := by
  have HRA := Lib.hid ha
  have HAO : Hid (a ≠ [] → ∀ b, (Value.slice A a.length c).ownBlock = some b → b < w.heap.size) := Lib.hid fun hne b hb => by
    obtain ⟨b0, off, c0, hv, _, hc⟩ := ha.some_ hne
    rw [hv] at hb
    have : b0 = b := by simpa [Value.ownBlock] using hb
    subst this
    obtain ⟨x, l', rfl⟩ : ∃ x l', a = x :: l' := by
      cases a with
      | nil => exact absurd rfl hne
      | cons x l' => exact ⟨x, l', rfl⟩
    exact lt_of_cell (hc 0 x rfl)
  clear ha
  have hfn := form_len hn
  have hfm := form_len hm
  have hfa := form_len (n := a.length) (by omega)
  have hll : (laidB n a m).length = (form n).length + ((form a.length).length + (a.length + (form m).length)) := by simp [laidB]
  have HLL := Lib.hid hll
  clear hll
  go_enter Try.func5, Try.ntmps5
  go_wp2_with fail
  refine (awake_any w).mono ?_
  rintro e w1 ⟨rfl, k1⟩
  go_wp2_with fail
  refine (newW_any w1).mono ?_
  rintro e w2 ⟨rfl, hw2⟩
  have hW := WRep.new w1 w.heap.size k1.size
  have k2 : Kept (fun _ => True) w1 (w1.alloc (.cells #[.slice none 0 0] 50)) := (Kept.refl _ w1).alloc _
  rw [← hw2] at hW k2
  clear hw2
  have q2 : Kept (fun b => b < w.heap.size) w w2 := (k1.trans k2).mono fun _ _ _ => trivial
  obtain ⟨wb, hwb⟩ : ∃ wb, w1.heap.size = wb := ⟨_, rfl⟩
  rw [hwb] at hW ⊢
  clear k1 k2 hwb
  go_wp2_with fail
  refine (num_any w2 w.heap.size wb _ [] hW n hn (by simp) q2.size).mono ?_
  rintro e w3 ⟨rfl, v3, hW3, ho3, hk3⟩
  have q3 := hW.past q2 hk3
  rw [List.nil_append] at hW3
  clear ho3 hk3 hW q2
  have hra3 := HRA.out.all q3
  go_wp2_with fail
  refine (bytes_any hW3 hra3 (fun hne b hb => ?_) (by omega) q3.size).mono ?_
  · have h1 := HAO.out hne b hb
    exact ⟨fun hf => by have := hW3.foot_low b hf; omega, by have := q3.size; omega⟩
  rintro e w4 ⟨rfl, v4, hW4, ho4, hk4⟩
  have q4 := hW3.past q3 hk4
  clear ho4 hk4 hW3 q3 hra3
  go_wp2_with fail
  refine (num_any w4 w.heap.size wb _ _ hW4 m hm (by simp only [List.length_append]; omega) q4.size).mono ?_
  rintro e w5 ⟨rfl, v5, hW5, ho5, hk5⟩
  have q5 := hW4.past q4 hk5
  have e5 : form n ++ form a.length ++ a ++ form m = laidB n a m := by simp [laidB]
  rw [e5] at hW5
  clear ho5 hk5 hW4 q4 e5
  obtain ⟨bl, hbl⟩ : ∃ bl, laidB n a m = bl := ⟨_, rfl⟩
  rw [hbl] at hW5 HLL
  have HBL := Lib.hid hbl
  clear hbl
  have hbll : bl.length ≤ 140737488355328 := by have := HLL.out; omega
  go_wp2_with fail
  refine (doneW_any hW5 (by omega)).mono ?_
  rintro e w6 ⟨v6, rfl, hF⟩
  have hv6 := hF.val
  subst hv6
  have hrb6 := hF.rd
  have q6 : Kept (fun b => b < w.heap.size) w w6 := q5.trans (hF.kept.mono fun _ _ _ => trivial)
  have hg6 : w5.heap.size < w6.heap.size := hF.blk.lt
  have hbg : w.heap.size ≤ w5.heap.size := q5.size
  obtain ⟨g, hg⟩ : ∃ g, w5.heap.size = g := ⟨_, rfl⟩
  rw [hg] at hrb6 hg6 hbg ⊢
  clear hF hW5 q5 hg
  go_wp2_with fail
  refine (newRd_behind (g := g) (base := w.heap.size) hrb6 hbll q6.size hg6).mono ?_
  rintro e w7 ⟨rb, lb, rfl, hR7, hf7, hk7⟩
  have hrb7 := hrb6.kept hk7 fun _ _ _ => trivial
  have q7 : Kept (fun b => b < w.heap.size) w w7 := q6.trans (hk7.mono fun _ _ _ => trivial)
  have HD : Hid (∀ b, (Value.slice (some ⟨g, 0, none⟩) bl.length bl.length).ownBlock = some b → ¬ rfoot rb lb b) := Lib.hid fun b hb hf => by
    have e1 : g = b := by simpa [Value.ownBlock] using hb
    have := hf7 b hf
    omega
  have hg7 := Nat.lt_of_lt_of_le hg6 hk7.size
  clear hk7 hrb6 q6 hf7 hg6
  have N1 : Hid (rnum bl 0 n = (n, form a.length ++ (a ++ form m), 0)) := by rw [← HBL.out]; exact rnum_form n n _ hn (Nat.le_refl _)
  have N2 : Hid (rbytes (form a.length ++ (a ++ form m)) 0 (a.length : Int) = (a, form m, 0)) := rbytes_form a _ (by omega)
  have N3 : Hid (rnum (form m) 0 m = (m, [], 0)) := by have := rnum_form m m [] hm (Nat.le_refl _); rw [List.append_nil] at this; exact this
  go_wp2_with fail
  refine (numR_any hR7 n hn).mono ?_
  rintro e w8 ⟨he, hR8, hk8⟩
  rw [N1.out] at he hR8
  subst he
  have hrb8 := hrb7.kept hk8 fun _ b hb => HD.out b hb
  have q8 := hR7.past q7 hk8
  have hg8 := Nat.lt_of_lt_of_le hg7 hk8.size
  clear hk8 hrb7 q7 hR7 hg7
  go_wp2_with fail
  refine (bytesR_any hR8 (a.length : Int) (by omega)).mono ?_
  rintro e w9 ⟨v9, rfl, hrow9, hR9, hk9⟩
  rw [N2.out] at hrow9 hR9
  have hrb9 := hrb8.kept hk9 fun _ b hb => HD.out b hb
  have q9 := hR8.past q8 hk9
  have hrv9 := hrow9.rd
  have hlt9 : ∀ b, v9.ownBlock = some b → ¬ rfoot rb lb b := fun b hb hf => by
    have := (hrow9.lt hb).2
    have := hR8.foot_lt b hf
    omega
  obtain ⟨A9, c9, rfl⟩ := hrow9.form
  have HLT := Lib.hid hlt9
  have hg9 := Nat.lt_of_lt_of_le hg8 hk9.size
  clear hk9 hrb8 q8 hR8 hrow9 hlt9 hg8
  go_wp2_with fail
  refine (numR_any hR9 m hm).mono ?_
  rintro e w10 ⟨he, hR10, hk10⟩
  rw [N3.out] at he hR10
  subst he
  have hrb10 := hrb9.kept hk10 fun _ b hb => HD.out b hb
  have hrv10 := hrv9.kept hk10 fun _ b hb => HLT.out b hb
  have q10 := hR9.past q9 hk10
  have s1 := run_str26 hrv10
  have s2 := run_str26 (HRA.out.all q10)
  have hg10 := Nat.lt_of_lt_of_le hg9 hk10.size
  clear hk10 hrb9 q9 hR9 hrv9 hrv10 hg9
  go_wp2_with fail
  refine (doneR_any hR10).mono ?_
  rintro e w' ⟨rfl, hw'⟩
  subst hw'
  have hd0 : rdone [] 0 = 0 := rfl
  rw [hd0]
  clear s1 s2 hR10 hd0 HD HLT N1 N2 N3
  by_cases hn0 : 0 < n
  · have hd : decide (0 < (n : Int)) = true := by simp; omega
    have hn1 : ((n : Int) - 1) = ((n - 1 : Nat) : Int) := by omega
    have M1 : Hid (rnum bl 0 (n - 1) = (0, bl, 12)) := by rw [← HBL.out]; exact rnum_big n (n - 1) _ hn (by omega)
    go_wp2_with fail
    refine (newRd_behind (g := g) (base := w.heap.size) hrb10 hbll q10.size hg10).mono ?_
    rintro e w11 ⟨sb, tb, rfl, hR11, hf11, hk11⟩
    have hrb11 := hrb10.kept hk11 fun _ _ _ => trivial
    have q11 : Kept (fun b => b < w.heap.size) w w11 := q10.trans (hk11.mono fun _ _ _ => trivial)
    have HD : Hid (∀ b, (Value.slice (some ⟨g, 0, none⟩) bl.length bl.length).ownBlock = some b → ¬ rfoot sb tb b) := Lib.hid fun b hb hf => by
      have e1 : g = b := by simpa [Value.ownBlock] using hb
      have := hf11 b hf
      omega
    clear hk11 hrb10 q10 hf11
    go_wp2_with fail
    refine (numR_any hR11 (n - 1) (by omega)).mono ?_
    rintro e w12 ⟨he, hR12, hk12⟩
    rw [M1.out] at he hR12
    subst he
    have hrb12 := hrb11.kept hk12 fun _ b hb => HD.out b hb
    have q12 := hR11.past q11 hk12
    clear hk12 hrb11 q11 hR11
    go_wp2_with fail
    refine (doneR_any hR12).mono ?_
    rintro e w'' ⟨rfl, hw''⟩
    subst hw''
    have hd12 : rdone bl 12 = 12 := by unfold rdone; rw [if_neg (by simp)]
    rw [hd12]
    clear hR12 hd12 HD M1
    by_cases hc0 : cut < 0
    · have hd1 : decide (cut < 0) = true := by simp; omega
      clear hc0
      go_wp2_with fail
      go_ret
      exact ⟨rfl, q12⟩
    · have hd1 : decide (cut < 0) = false := by simp; omega
      obtain ⟨k, rfl⟩ := Int.eq_ofNat_of_zero_le (show 0 ≤ cut by omega)
      by_cases hck : bl.length ≤ k
      · have hd2 : decide ((bl.length : Int) ≤ (k : Int)) = true := by simp; omega
        clear hc0
        go_wp2_with fail
        go_ret
        exact ⟨rfl, q12⟩
      · have hd2 : decide ((bl.length : Int) ≤ (k : Int)) = false := by simp; omega
        have hkb : k ≤ bl.length := by omega
        have hk2 : 0 ≤ (k : Int) ∧ (k : Int) ≤ (bl.length : Int) := by omega
        have hk3 : (k : Int) ≤ (bl.length : Int) := by omega
        have hltk : (bl.take k).length = k := by rw [List.length_take]; omega
        have hrt := hrb12.takeA hkb hkb
        have HS : Hid ((rnum (rbytes (rnum (bl.take k) 0 n).2.1 (rnum (bl.take k) 0 n).2.2 (a.length : Int)).2.1 (rbytes (rnum (bl.take k) 0 n).2.1 (rnum (bl.take k) 0 n).2.2 (a.length : Int)).2.2 m).2.2 = 10) := by
          rw [← HBL.out] at hck ⊢
          exact back_short n m k a hn hm (by omega) (by omega)
        have HLK := Lib.hid hltk
        clear hc0 hltk
        go_wp2_with fail
        refine (newRd_any (base := w.heap.size) hrt (by rw [HLK.out]; omega) q12.size).mono ?_
        rintro e x1 ⟨tb, ub, rfl, hT1, hf1, hkx1⟩
        have p1 : Kept (fun b => b < w.heap.size) w x1 := q12.trans (hkx1.mono fun _ _ _ => trivial)
        clear hkx1 hf1 hrt
        go_wp2_with fail
        refine (numR_any hT1 n hn).mono ?_
        rintro e x2 ⟨rfl, hT2, hkx2⟩
        have p2 := hT1.past p1 hkx2
        clear hkx2 hT1 p1
        go_wp2_with fail
        refine (bytesR_any hT2 (a.length : Int) (by omega)).mono ?_
        rintro e x3 ⟨y3, rfl, hrow3, hT3, hkx3⟩
        have p3 := hT2.past p2 hkx3
        obtain ⟨B3, d3, rfl⟩ := hrow3.form
        clear hkx3 hT2 p2 hrow3
        go_wp2_with fail
        refine (numR_any hT3 m hm).mono ?_
        rintro e x4 ⟨rfl, hT4, hkx4⟩
        have p4 := hT3.past p3 hkx4
        rw [HS.out] at hT4
        obtain ⟨l4, hl4⟩ : ∃ l4, (rnum (rbytes (rnum (bl.take k) 0 n).2.1 (rnum (bl.take k) 0 n).2.2 (a.length : Int)).2.1 (rbytes (rnum (bl.take k) 0 n).2.1 (rnum (bl.take k) 0 n).2.2 (a.length : Int)).2.2 m).2.1 = l4 := ⟨_, rfl⟩
        rw [hl4] at hT4
        clear hkx4 hT3 p3 hl4
        go_wp2_with fail
        refine (doneR_any hT4).mono ?_
        rintro e w' ⟨rfl, hw'⟩
        subst hw'
        have hd10 : rdone l4 10 = 10 := by unfold rdone; rw [if_neg (by simp)]
        rw [hd10]
        go_wp2_with fail
        go_ret
        exact ⟨rfl, p4⟩
  · have hd : decide (0 < (n : Int)) = false := by simp; omega
    by_cases hc0 : cut < 0
    · have hd1 : decide (cut < 0) = true := by simp; omega
      clear hc0
      go_wp2_with fail
      go_ret
      exact ⟨rfl, q10⟩
    · have hd1 : decide (cut < 0) = false := by simp; omega
      obtain ⟨k, rfl⟩ := Int.eq_ofNat_of_zero_le (show 0 ≤ cut by omega)
      by_cases hck : bl.length ≤ k
      · have hd2 : decide ((bl.length : Int) ≤ (k : Int)) = true := by simp; omega
        clear hc0
        go_wp2_with fail
        go_ret
        exact ⟨rfl, q10⟩
      · have hd2 : decide ((bl.length : Int) ≤ (k : Int)) = false := by simp; omega
        have hkb : k ≤ bl.length := by omega
        have hk2 : 0 ≤ (k : Int) ∧ (k : Int) ≤ (bl.length : Int) := by omega
        have hk3 : (k : Int) ≤ (bl.length : Int) := by omega
        have hltk : (bl.take k).length = k := by rw [List.length_take]; omega
        have hrt := hrb10.takeA hkb hkb
        have HS : Hid ((rnum (rbytes (rnum (bl.take k) 0 n).2.1 (rnum (bl.take k) 0 n).2.2 (a.length : Int)).2.1 (rbytes (rnum (bl.take k) 0 n).2.1 (rnum (bl.take k) 0 n).2.2 (a.length : Int)).2.2 m).2.2 = 10) := by
          rw [← HBL.out] at hck ⊢
          exact back_short n m k a hn hm (by omega) (by omega)
        have HLK := Lib.hid hltk
        clear hc0 hltk
        go_wp2_with fail
        refine (newRd_any (base := w.heap.size) hrt (by rw [HLK.out]; omega) q10.size).mono ?_
        rintro e x1 ⟨tb, ub, rfl, hT1, hf1, hkx1⟩
        have p1 : Kept (fun b => b < w.heap.size) w x1 := q10.trans (hkx1.mono fun _ _ _ => trivial)
        clear hkx1 hf1 hrt
        go_wp2_with fail
        refine (numR_any hT1 n hn).mono ?_
        rintro e x2 ⟨rfl, hT2, hkx2⟩
        have p2 := hT1.past p1 hkx2
        clear hkx2 hT1 p1
        go_wp2_with fail
        refine (bytesR_any hT2 (a.length : Int) (by omega)).mono ?_
        rintro e x3 ⟨y3, rfl, hrow3, hT3, hkx3⟩
        have p3 := hT2.past p2 hkx3
        obtain ⟨B3, d3, rfl⟩ := hrow3.form
        clear hkx3 hT2 p2 hrow3
        go_wp2_with fail
        refine (numR_any hT3 m hm).mono ?_
        rintro e x4 ⟨rfl, hT4, hkx4⟩
        have p4 := hT3.past p3 hkx4
        rw [HS.out] at hT4
        obtain ⟨l4, hl4⟩ : ∃ l4, (rnum (rbytes (rnum (bl.take k) 0 n).2.1 (rnum (bl.take k) 0 n).2.2 (a.length : Int)).2.1 (rbytes (rnum (bl.take k) 0 n).2.1 (rnum (bl.take k) 0 n).2.2 (a.length : Int)).2.2 m).2.1 = l4 := ⟨_, rfl⟩
        rw [hl4] at hT4
        clear hkx4 hT3 p3 hl4
        go_wp2_with fail
        refine (doneR_any hT4).mono ?_
        rintro e w' ⟨rfl, hw'⟩
        subst hw'
        have hd10 : rdone l4 10 = 10 := by unfold rdone; rw [if_neg (by simp)]
        rw [hd10]
        go_wp2_with fail
        go_ret
        exact ⟨rfl, p4⟩
end Ytglhkfiigbbpdaa
end Go.Proofs
