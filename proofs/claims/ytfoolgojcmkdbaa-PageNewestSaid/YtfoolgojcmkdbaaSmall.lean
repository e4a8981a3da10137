/-
  isKey, isPage, CheckItem, Covers.
-/
import Derived.Test.YtfoolgojcmkdbaaPg
import Derived.Lib.Bytealg
set_option maxHeartbeats 1000000
namespace Go.Proofs
open Go.RowKit
namespace Ytfoolgojcmkdbaa
attribute [local go_sem ↓] Go.wp_at_zero Go.wp_at_succ
theorem isKey_any (s : ByteArray) (w : World) : Calls Try.prog 17 #[.string s] w fun e w' => e = .returned (.bool (isKey s)) ∧ w' = w := by
  unfold isKey
  go_enter Try.func17, Try.ntmps17
  by_cases h : 1 ≤ (s.size : Int)
  · have h1 : decide (1 ≤ (s.size : Int)) = true := by simpa using h
    go_wp2_with fail
    go_ret
    refine ⟨?_, rfl⟩
    simp [h]
  · have h1 : decide (1 ≤ (s.size : Int)) = false := by simpa using h
    go_wp2_with fail
    go_ret
    refine ⟨?_, rfl⟩
    simp
theorem isPage_any (n : Int) (w : World) : Calls Try.prog 18 #[.int .i64 n] w fun e w' => e = .returned (.bool (isPage n)) ∧ w' = w := by
  unfold isPage
  go_enter Try.func18, Try.ntmps18
  by_cases h : 1 ≤ n
  · have h1 : decide (1 ≤ n) = true := by simpa using h
    go_wp2_with fail
    go_ret
    refine ⟨?_, rfl⟩
    simp [h]
  · have h1 : decide (1 ≤ n) = false := by simpa using h
    go_wp2_with fail
    go_ret
    refine ⟨?_, rfl⟩
    simp
theorem covers_any (p : Page) (iv kv : Value) (k : ByteArray) (w : World) : Calls Try.prog 12 #[pv p iv kv, .string k] w fun e w' => e = .returned (.bool (covers p k)) ∧ Kept (fun _ => True) w w' := by
  obtain ⟨lv, lo, hi, la, sd, il, kl⟩ := p
  unfold pv covers lt
  go_enter Try.func12, Try.ntmps12
  cases h : Op.bytesLess k.toList lo.toList
  · cases la
    · go_wp2_with fail
      go_ret
      exact ⟨by simp, (Kept.refl _ _).alloc _⟩
    · go_wp2_with fail
      go_ret
      exact ⟨by simp, (Kept.refl _ _).alloc _⟩
  · go_wp2_with fail
    go_ret
    exact ⟨by simp, (Kept.refl _ _).alloc _⟩
/-- CheckItem's answer. -/
def ckI (bad : Bool) : Int := if bad then 100 else 0
theorem checkItem_any (x : Item) (w : World) : Calls Try.prog 16 #[.agg (ics x).toArray] w fun e w' => e = .returned (.int .i64 (ckI (badItem x))) ∧ Kept (fun _ => True) w w' := by
  obtain ⟨r, hr⟩ : ∃ r, ckI (badItem x) = r := ⟨_, rfl⟩
  rw [hr]
  unfold badItem nonEmpty at hr
  obtain ⟨k, v, n, g⟩ := x
  unfold ics
  have HR := Lib.hid hr
  clear hr
  simp only at HR
  go_enter Try.func16, Try.ntmps16
  have hk : ∀ w, Calls Try.prog 17 #[.string k] w fun e w' => e = .returned (.bool (isKey k)) ∧ w' = w := fun w => isKey_any k w
  cases h1 : isKey k with
  | false =>
    rw [h1] at hk HR
    clear h1
    go_wp2_with (go_at_call 17; refine (hk _).mono ?_; rintro e w' ⟨rfl, rfl⟩)
    go_ret
    exact ⟨by rw [← HR.out]; simp [ckI], (Kept.refl _ _).alloc _⟩
  | true =>
    rw [h1] at hk HR
    clear h1
    by_cases h2 : (48 : Int) < (v.size : Int)
    · have t2 : decide ((48 : Int) < (v.size : Int)) = true := by simpa using h2
      rw [t2] at HR
      go_wp2_with (go_at_call 17; refine (hk _).mono ?_; rintro e w' ⟨rfl, rfl⟩)
      go_ret
      exact ⟨by rw [← HR.out]; simp [ckI], (Kept.refl _ _).alloc _⟩
    · have t2 : decide ((48 : Int) < (v.size : Int)) = false := by simpa using h2
      rw [t2] at HR
      by_cases h3 : n < 1
      · have t3 : decide (n < 1) = true := by simpa using h3
        rw [t3] at HR
        go_wp2_with (go_at_call 17; refine (hk _).mono ?_; rintro e w' ⟨rfl, rfl⟩)
        go_ret
        exact ⟨by rw [← HR.out]; simp [ckI], (Kept.refl _ _).alloc _⟩
      · have t3 : decide (n < 1) = false := by simpa using h3
        rw [t3] at HR
        by_cases h4 : 1099511627776 < n
        · have t4 : decide (1099511627776 < n) = true := by simpa using h4
          rw [t4] at HR
          go_wp2_with (go_at_call 17; refine (hk _).mono ?_; rintro e w' ⟨rfl, rfl⟩)
          go_ret
          exact ⟨by rw [← HR.out]; simp [ckI], (Kept.refl _ _).alloc _⟩
        · have t4 : decide (1099511627776 < n) = false := by simpa using h4
          rw [t4] at HR
          cases g with
          | false =>
            go_wp2_with (go_at_call 17; refine (hk _).mono ?_; rintro e w' ⟨rfl, rfl⟩)
            go_ret
            exact ⟨by rw [← HR.out]; simp [ckI], (Kept.refl _ _).alloc _⟩
          | true =>
            cases h5 : v.toList.isEmpty with
            | false =>
              rw [h5] at HR
              go_wp2_with (go_at_call 17; refine (hk _).mono ?_; rintro e w' ⟨rfl, rfl⟩)
              go_ret
              exact ⟨by rw [← HR.out]; simp [ckI], (Kept.refl _ _).alloc _⟩
            | true =>
              rw [h5] at HR
              go_wp2_with (go_at_call 17; refine (hk _).mono ?_; rintro e w' ⟨rfl, rfl⟩)
              go_ret
              exact ⟨by rw [← HR.out]; simp [ckI], (Kept.refl _ _).alloc _⟩
theorem leaf1_any (x : Item) (w : World) : Calls Try.prog 32 #[.agg (ics x).toArray] w fun e w' => e = .returned (.bool (badItem x)) ∧ Kept (fun _ => True) w w' := by
  have hc := fun w => checkItem_any x w
  revert hc
  generalize badItem x = b
  obtain ⟨k, v, n, g⟩ := x
  unfold ics
  intro hc
  go_enter Try.func32, Try.ntmps32
  cases b
  · have hc0 : ∀ w, Calls Try.prog 16 #[.agg #[.string k, .string v, .int .i64 n, .bool g]] w fun e w' => e = .returned (.int .i64 0) ∧ Kept (fun _ => True) w w' := hc
    go_wp2_with (go_at_call 16; refine (hc0 _).mono ?_; rintro e w' ⟨rfl, hk⟩)
    go_ret
    exact ⟨rfl, ((Kept.refl _ _).alloc _).trans hk⟩
  · have hc0 : ∀ w, Calls Try.prog 16 #[.agg #[.string k, .string v, .int .i64 n, .bool g]] w fun e w' => e = .returned (.int .i64 100) ∧ Kept (fun _ => True) w w' := hc
    go_wp2_with (go_at_call 16; refine (hc0 _).mono ?_; rintro e w' ⟨rfl, hk⟩)
    go_ret
    exact ⟨rfl, ((Kept.refl _ _).alloc _).trans hk⟩
theorem inner1_any (x : Kid) (w : World) : Calls Try.prog 35 #[.agg (kcs x).toArray] w fun e w' => e = .returned (.bool (badKid x)) ∧ Kept (fun _ => True) w w' := by
  obtain ⟨k, n⟩ := x
  unfold badKid kcs
  have hc : ∀ w, Calls Try.prog 18 #[.int .i64 n] w fun e w' => e = .returned (.bool (isPage n)) ∧ w' = w := fun w => isPage_any n w
  revert hc
  generalize isPage n = b
  intro hc
  go_enter Try.func35, Try.ntmps35
  cases b <;> go_wp2_with (go_at_call 18; refine (hc _).mono ?_; rintro e w' ⟨rfl, rfl⟩)
  · go_ret
    exact ⟨by simp, (Kept.refl _ _).alloc _⟩
  · go_ret
    exact ⟨by simp, (Kept.refl _ _).alloc _⟩
theorem itemKey_any (x : Item) (w : World) : Calls Try.prog 24 #[.agg (ics x).toArray] w fun e w' => e = .returned (.string x.key) ∧ Kept (fun _ => True) w w' := by
  obtain ⟨k, v, n, g⟩ := x
  unfold ics
  go_enter Try.func24, Try.ntmps24
  go_wp2_with fail
  go_ret
  exact ⟨rfl, (Kept.refl _ _).alloc _⟩
theorem kidKey_any (x : Kid) (w : World) : Calls Try.prog 28 #[.agg (kcs x).toArray] w fun e w' => e = .returned (.string x.key) ∧ Kept (fun _ => True) w w' := by
  obtain ⟨k, n⟩ := x
  unfold kcs
  go_enter Try.func28, Try.ntmps28
  go_wp2_with fail
  go_ret
  exact ⟨rfl, (Kept.refl _ _).alloc _⟩
/-- The closure of Find: it has captured the key's box. -/
theorem find1_any (x : Item) (q : ByteArray) (b : Nat) (w : World) (hb : w.cell? ⟨b, 0, none⟩ = some (.string q)) :
    Calls Try.prog 22 #[.agg (ics x).toArray, .pointer (some ⟨b, 0, none⟩)] w fun e w' => e = .returned (.bool (x.key.toList == q.toList)) ∧ Kept (fun _ => True) w w' := by
  obtain ⟨k, v, n, g⟩ := x
  unfold ics
  have hbw : ∀ o, (w.alloc o).cell? ⟨b, 0, none⟩ = some (.string q) := fun o => by
    have := ((Kept.refl (fun _ => True) w).alloc o).cell (p := ⟨b, 0, none⟩) (by
      rcases Nat.lt_or_ge b w.heap.size with h1 | h1
      · exact h1
      · simp [World.cell?, Array.getElem?_eq_none h1] at hb) trivial
    rw [this, hb]
  go_enter Try.func22, Try.ntmps22
  go_wp2_with fail
  go_ret
  exact ⟨rfl, (Kept.refl _ _).alloc _⟩
theorem cmp_any (a b : ByteArray) (w : World) : Calls Try.prog 40 #[.string a, .string b] w fun e w' => e = .returned (.int .i64 (Lib.compareBytes a.data.toList b.data.toList)) ∧ w' = w := by
  have h52 : ∀ w, Calls Try.prog 52 #[.string a, .string b] w fun e w' => e = .returned (.int .i64 (Lib.compareBytes a.data.toList b.data.toList)) ∧ w' = w := fun w => by
    go_enter Try.func52, Try.ntmps52
    go_wp2
    rw [run_callFunc_extern Try.func54 (by kernel_rfl) (by kernel_rfl) (by kernel_rfl) (e := Extern.BytealgCompare.compare) (by kernel_rfl), Lib.run_compareString]
    simp only [Result.andThen]
    rw [Oper.upon_value]
    go_wp2
    go_ret
    exact ⟨rfl, rfl⟩
  go_enter Try.func40, Try.ntmps40
  go_wp2_with (go_at_call 52; refine (h52 _).mono ?_; rintro e w' ⟨rfl, rfl⟩)
  go_ret
  exact ⟨rfl, rfl⟩
end Ytfoolgojcmkdbaa
end Go.Proofs
