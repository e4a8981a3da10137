/-
  PageDown: the walk.
-/
import Derived.Test.YtfoolgojcmkdbaaAwake
import Derived.Test.YtfoolgojcmkdbaaDown
set_option maxHeartbeats 4000000
set_option maxRecDepth 100000
namespace Go.Proofs
open Go.RowKit
namespace Ytfoolgojcmkdbaa
attribute [local go_sem ↓] Go.wp_at_zero Go.wp_at_succ
theorem gtr_lt (a b : ByteArray) : (!(Op.bytesLess a.toList b.toList || a.toList == b.toList)) = lt b a := by
  rw [beq_toList]
  show (!(lt a b || decide (a = b))) = lt b a
  cases h1 : lt a b with
  | true => rw [lt_asymm h1]; rfl
  | false =>
    by_cases h2 : a = b
    · subst h2; simp [lt_irrefl]
    · cases h3 : lt b a with
      | true => simp [h2]
      | false => exact absurd (lt_total h1 h3) h2
/-- The page of the last kid ahead of a place. -/
def pgAt (l : List Kid) : Nat → Int
  | 0 => 0
  | k + 1 => (l.getD k default).page
theorem pgAt_succ {l : List Kid} {k : Nat} {x : Kid} (h : l[k]? = some x) : pgAt l (k + 1) = x.page := by
  show (l.getD k default).page = x.page
  rw [List.getD_eq_getElem?_getD, h]
  rfl
theorem down_le {p : Page} {q : ByteArray} {k : Nat} {x : Kid} (h : DownTo p q k x) (hs : Sorted (p.kids.map (·.key))) {i : Nat} {y : Kid} (hi : i ≤ k) (hy : p.kids[i]? = some y) : lt q y.key = false := by
  rcases Nat.lt_or_ge i k with hlt | hge
  · have hyk : (p.kids.map (·.key))[i]? = some y.key := by simp [hy]
    have hxk : (p.kids.map (·.key))[k]? = some x.key := by simp [h.at_]
    have h1 := sorted_lt hs hlt hyk hxk
    cases h2 : lt q y.key with
    | false => rfl
    | true => rw [← h.le, lt_trans h2 h1]
  · have : i = k := by omega
    subst this
    rw [h.at_] at hy
    injection hy with hy
    rw [← hy]
    exact h.le
section
variable (p : Page) (q : ByteArray) {iA kA : Option Addr} {ic kc : Nat} (w : World) (hi : ItR w (.slice iA p.items.length ic) p.items) (hk : KdR w (.slice kA p.kids.length kc) p.kids) (hn : p.items.length ≤ 1152921504606846975) (hm : p.kids.length ≤ 1152921504606846975)
include hi hk hn hm
/-- Where Down refuses. -/
theorem pageDown_no (c : Int) (hc : c ≠ 0) (hdn : ∀ W, Kept (fun _ => True) w W → Calls Try.prog 11 #[pv p (.slice iA p.items.length ic) (.slice kA p.kids.length kc), .string q] W fun e w' => e = .returned (.tuple #[.int .i64 0, .int .i64 c]) ∧ Kept (fun _ => True) W w')
    (hno : check p = false ∨ p.level = 0 ∨ covers p q = false) :
    Calls Try.prog 4 #[pv p (.slice iA p.items.length ic) (.slice kA p.kids.length kc), .string q] w fun e w' => e = .returned (.bool true) ∧ Kept (fun _ => True) w w' := by
  have h7 : ∀ W, Kept (fun _ => True) w W → Calls Try.prog 7 #[pv p (.slice iA p.items.length ic) (.slice kA p.kids.length kc)] W fun e w' => e = .returned (.int .i64 (ckS (check p))) ∧ Kept (fun _ => True) W w' := fun W hW => check_any p W (hi.all hW) (hk.all hW) hn hm
  have h12 : ∀ W, Calls Try.prog 12 #[pv p (.slice iA p.items.length ic) (.slice kA p.kids.length kc), .string q] W fun e w' => e = .returned (.bool (covers p q)) ∧ Kept (fun _ => True) W w' := covers_any p _ _ q
  clear hi hk hn hm
  revert hdn h7 h12 hno
  generalize check p = cb
  generalize covers p q = cv
  obtain ⟨lv, lo, hi, la, sd, il, kl⟩ := p
  unfold pv
  simp only
  generalize il.length = n
  generalize kl.length = m
  intro hdn hno h7 h12
  have hc' : (c != 0) = true := by simpa using hc
  have k0 := (Kept.refl (fun _ => True) w).alloc (.cells #[.int .i64 lv, .string lo, .string hi, .bool la, .int .i64 sd, .slice iA n ic, .slice kA m kc] 25)
  have hb := Box.new (lv := lv) (lo := lo) (hi := hi) (la := la) (sd := sd) (iv := .slice iA n ic) (kv := .slice kA m kc) w
  go_enter Try.func4, Try.ntmps4
  go_wp2_with fail
  generalize w.alloc (.cells #[.int .i64 lv, .string lo, .string hi, .bool la, .int .i64 sd, .slice iA n ic, .slice kA m kc] 25) = w0 at k0 hb ⊢
  refine (awake_any _).mono ?_
  rintro e w1 ⟨rfl, hk1⟩
  have B1 := Lib.hid (hb.kept hk1)
  have K1 := Lib.hid (k0.trans hk1)
  clear hb k0 hk1
  obtain ⟨b0, b1, b2, b3, b4, b5, b6⟩ := B1.out
  go_wp2_with fail
  clear b0 b1 b2 b3 b4 b5 b6
  refine (hdn _ K1.out).mono ?_
  rintro e w2 ⟨rfl, hk2⟩
  have B2 := Lib.hid (B1.out.kept hk2)
  have K2 := Lib.hid (K1.out.trans hk2)
  clear hk2
  obtain ⟨b0, b1, b2, b3, b4, b5, b6⟩ := B2.out
  go_wp2_with fail
  clear b0 b1 b2 b3 b4 b5 b6
  refine (h7 _ K2.out).mono ?_
  rintro e w3 ⟨rfl, hk3⟩
  have B3 := Lib.hid (B2.out.kept hk3)
  have K3 := Lib.hid (K2.out.trans hk3)
  clear hk3
  obtain ⟨b0, b1, b2, b3, b4, b5, b6⟩ := B3.out
  go_wp2_with fail
  clear b0 b1 b2 b3 b4 b5 b6
  refine (h12 _).mono ?_
  rintro e w4 ⟨rfl, hk4⟩
  have K4 := Lib.hid (K3.out.trans hk4)
  obtain ⟨b0, b1, b2, b3, b4, b5, b6⟩ := B3.out.kept hk4
  clear hk4 hdn h7 h12
  cases cb with
  | false =>
    have h1 : ((101 : Int) != 0) = true := rfl
    unfold ckS
    go_wp2_with fail
    go_ret
    exact ⟨rfl, K4.out⟩
  | true =>
    unfold ckS
    by_cases hl : lv = 0
    · subst hl
      go_wp2_with fail
      go_ret
      exact ⟨rfl, K4.out⟩
    · have hl' : (lv == 0) = false := by simpa using hl
      have hcv : cv = false := (hno.resolve_left (by decide)).resolve_left hl
      subst hcv
      go_wp2_with fail
      go_ret
      exact ⟨rfl, K4.out⟩
/-- Where it goes down. -/
theorem pageDown_yes (hc : check p = true) (hl : p.level ≠ 0) (hcov : covers p q = true) :
    Calls Try.prog 4 #[pv p (.slice iA p.items.length ic) (.slice kA p.kids.length kc), .string q] w fun e w' => e = .returned (.bool true) ∧ Kept (fun _ => True) w w' := by
  have hin : Inner p := (check_iff.1 hc).2.2 hl
  have h7 : ∀ W, Kept (fun _ => True) w W → Calls Try.prog 7 #[pv p (.slice iA p.items.length ic) (.slice kA p.kids.length kc)] W fun e w' => e = .returned (.int .i64 0) ∧ Kept (fun _ => True) W w' := fun W hW => by
    have := check_any p W (hi.all hW) (hk.all hW) hn hm
    rw [hc] at this
    exact this
  have h12 : ∀ W, Calls Try.prog 12 #[pv p (.slice iA p.items.length ic) (.slice kA p.kids.length kc), .string q] W fun e w' => e = .returned (.bool true) ∧ Kept (fun _ => True) W w' := fun W => by
    have := covers_any p (.slice iA p.items.length ic) (.slice kA p.kids.length kc) q W
    rw [hcov] at this
    exact this
  have hdn : ∀ W, Kept (fun _ => True) w W → Calls Try.prog 11 #[pv p (.slice iA p.items.length ic) (.slice kA p.kids.length kc), .string q] W fun e w' => ∃ (k : Nat) (x : Kid), e = .returned (.tuple #[.int .i64 x.page, .int .i64 0]) ∧ Hid (DownTo p q k x) ∧ Kept (fun _ => True) W w' := fun W hW =>
    down_in p q W (hi.all hW) (hk.all hW) hn hm hc hl hcov
  have HKD := Lib.hid hk
  have HSO := Lib.hid hin.sorted
  clear hi hk hn hc hcov hin
  have hl' : (p.level == 0) = false := by simpa using hl
  have HLEN : Hid (p.kids.length = p.kids.length) := Lib.hid rfl
  unfold pv at h7 h12 hdn ⊢
  generalize p.level = lv at h7 h12 hdn hl' ⊢
  generalize p.low = lo at h7 h12 hdn ⊢
  generalize p.high = hi at h7 h12 hdn ⊢
  generalize p.last = la at h7 h12 hdn ⊢
  generalize p.side = sd at h7 h12 hdn ⊢
  generalize p.items.length = n at h7 h12 hdn ⊢
  generalize hmm : p.kids.length = m at h7 h12 hdn hm HKD ⊢
  have HM := Lib.hid hmm
  clear hmm HLEN hl
  have k0 := (Kept.refl (fun _ => True) w).alloc (.cells #[.int .i64 lv, .string lo, .string hi, .bool la, .int .i64 sd, .slice iA n ic, .slice kA m kc] 25)
  have hb := Box.new (lv := lv) (lo := lo) (hi := hi) (la := la) (sd := sd) (iv := .slice iA n ic) (kv := .slice kA m kc) w
  go_enter Try.func4, Try.ntmps4
  go_wp2_with fail
  generalize w.alloc (.cells #[.int .i64 lv, .string lo, .string hi, .bool la, .int .i64 sd, .slice iA n ic, .slice kA m kc] 25) = w0 at k0 hb ⊢
  refine (awake_any _).mono ?_
  rintro e w1 ⟨rfl, hk1⟩
  have B1 := Lib.hid (hb.kept hk1)
  have K1 := Lib.hid (k0.trans hk1)
  clear hb k0 hk1
  obtain ⟨b0, b1, b2, b3, b4, b5, b6⟩ := B1.out
  go_wp2_with fail
  clear b0 b1 b2 b3 b4 b5 b6
  refine (hdn _ K1.out).mono ?_
  rintro e w2 ⟨kk, x, rfl, HD, hk2⟩
  have B2 := Lib.hid (B1.out.kept hk2)
  have K2 := Lib.hid (K1.out.trans hk2)
  clear hk2
  obtain ⟨b0, b1, b2, b3, b4, b5, b6⟩ := B2.out
  go_wp2_with fail
  clear b0 b1 b2 b3 b4 b5 b6
  refine (h7 _ K2.out).mono ?_
  rintro e w3 ⟨rfl, hk3⟩
  have B3 := Lib.hid (B2.out.kept hk3)
  have K3 := Lib.hid (K2.out.trans hk3)
  clear hk3
  obtain ⟨b0, b1, b2, b3, b4, b5, b6⟩ := B3.out
  go_wp2_with fail
  clear b0 b1 b2 b3 b4 b5 b6
  refine (h12 _).mono ?_
  rintro e w4 ⟨rfl, hk4⟩
  have K4 := Lib.hid (K3.out.trans hk4)
  obtain ⟨b0, b1, b2, b3, b4, b5, b6⟩ := B3.out.kept hk4
  have HK4 := Lib.hid (RdK.all HKD.out K4.out)
  clear hk4 hdn h7 h12 HKD
  have hkm : kk < m := by
    have := (List.getElem?_eq_some_iff.1 HD.out.at_).1
    have := HM.out
    omega
  obtain ⟨pg, hpg⟩ : ∃ pg, x.page = pg := ⟨_, rfl⟩
  have HPG := Lib.hid hpg
  rw [hpg]
  clear hpg
  go_wp2_with fail
  go_loopw [10, 11] (fun s10 s11 wr => ∃ i : Nat, i ≤ kk + 1 ∧ s11 = .int .i64 i ∧ s10 = .int .i64 (pgAt p.kids i) ∧ w4 = wr) (fun _ s11 _ => m - (intOf s11).toNat)
  case atStart => exact ⟨0, Nat.zero_le _, rfl, rfl, rfl⟩
  case round =>
    obtain ⟨i, hik, rfl, rfl, rfl⟩ := hrel
    by_cases hlt : i < m
    · have hltz : (i : Int) < (m : Int) := by omega
      obtain ⟨y, hy⟩ : ∃ y, p.kids[i]? = some y := ⟨_, List.getElem?_eq_getElem (by rw [HM.out]; exact hlt)⟩
      obtain ⟨b, off, rfl, _, hmc, c0, c1⟩ := KdR.at_ HK4.out hy
      have hg := gtr_lt y.key q
      have HY := Lib.hid hy
      clear hy
      by_cases hile : i ≤ kk
      · rw [down_le HD.out HSO.out hile HY.out] at hg
        go_wp2_with fail
        go_roundw
        case measure => simp [intOf]; omega
        case rel => exact ⟨i + 1, by omega, by simp, by rw [pgAt_succ HY.out], trivial⟩
      · have hie : i = kk + 1 := by omega
        subst hie
        rw [HD.out.next y HY.out] at hg
        have hpp : pgAt p.kids (kk + 1) = pg := by rw [pgAt_succ HD.out.at_, HPG.out]
        rw [hpp]
        clear hpp
        go_wp2_with fail
        go_ret
        exact ⟨rfl, K4.out⟩
    · have hltz : ¬ (i : Int) < (m : Int) := by omega
      have hie : i = kk + 1 := by omega
      subst hie
      have hpp : pgAt p.kids (kk + 1) = pg := by rw [pgAt_succ HD.out.at_, HPG.out]
      rw [hpp]
      clear hpp
      go_wp2_with fail
      go_ret
      exact ⟨rfl, K4.out⟩
theorem pageDown_any : Calls Try.prog 4 #[pv p (.slice iA p.items.length ic) (.slice kA p.kids.length kc), .string q] w fun e w' => e = .returned (.bool true) ∧ Kept (fun _ => True) w w' := by
  cases hc : check p with
  | false => exact pageDown_no p q w hi hk hn hm 101 (by decide) (fun W hW => down_bad p q W (hi.all hW) (hk.all hW) hn hm hc) (.inl hc)
  | true =>
    by_cases hl : p.level = 0
    · exact pageDown_no p q w hi hk hn hm 103 (by decide) (fun W hW => down_out p q W (hi.all hW) (hk.all hW) hn hm hc (.inl hl)) (.inr (.inl hl))
    · cases hcv : covers p q with
      | false => exact pageDown_no p q w hi hk hn hm 103 (by decide) (fun W hW => down_out p q W (hi.all hW) (hk.all hW) hn hm hc (.inr hcv)) (.inr (.inr hcv))
      | true => exact pageDown_yes p q w hi hk hn hm hc hl hcv
end
end Ytfoolgojcmkdbaa
end Go.Proofs
