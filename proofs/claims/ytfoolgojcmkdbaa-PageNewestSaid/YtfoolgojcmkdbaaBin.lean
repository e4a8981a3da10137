/-
  place: slices.BinarySearchFunc at items and at kids that rise by their keys.
-/
import Derived.Test.YtfoolgojcmkdbaaSmall
import Derived.Test.YtfoolgojcmkdbaaKeys
import Derived.Laws.Bits64b
set_option maxHeartbeats 1000000
namespace Go.Proofs
open Go.RowKit
namespace Ytfoolgojcmkdbaa
attribute [local go_sem ↓] Go.wp_at_zero Go.wp_at_succ
/-- How q and x lie: as strings.Compare says it. -/
def cmpI (a b : ByteArray) : Int := Lib.compareBytes a.data.toList b.data.toList
theorem cell_alloc {w : World} {b o : Nat} {v : Value} (h : w.cell? ⟨b, o, none⟩ = some v) (ob : Obj) : (w.alloc ob).cell? ⟨b, o, none⟩ = some v := by
  have hlt : b < w.heap.size := by
    rcases Nat.lt_or_ge b w.heap.size with h1 | h1
    · exact h1
    · simp [World.cell?, Array.getElem?_eq_none h1] at h
  rw [((Kept.refl (fun _ => True) w).alloc ob).cell (p := ⟨b, o, none⟩) hlt trivial, h]
theorem cell_lt {w : World} {b o : Nat} {v : Value} (h : w.cell? ⟨b, o, none⟩ = some v) : b < w.heap.size := by
  rcases Nat.lt_or_ge b w.heap.size with h1 | h1
  · exact h1
  · simp [World.cell?, Array.getElem?_eq_none h1] at h
theorem placeItem1_any (x : Item) (q : ByteArray) (b : Nat) (w : World) (hb : w.cell? ⟨b, 0, none⟩ = some (.func (.func 24) #[] #[])) :
    Calls Try.prog 39 #[.agg (ics x).toArray, .string q, .pointer (some ⟨b, 0, none⟩)] w fun e w' => e = .returned (.int .i64 (cmpI x.key q)) ∧ Kept (fun _ => True) w w' := by
  have hbw := cell_alloc hb
  have hk := itemKey_any x
  have hc : ∀ w, Calls Try.prog 40 #[.string x.key, .string q] w fun e w' => e = .returned (.int .i64 (cmpI x.key q)) ∧ w' = w := fun w => cmp_any x.key q w
  revert hc hk
  obtain ⟨k, v, n, g⟩ := x
  unfold ics
  generalize cmpI k q = r
  intro hk hc
  simp only at hk hc
  go_enter Try.func39, Try.ntmps39
  go_wp2_with (first | (go_at_call 24; refine (hk _).mono ?_; rintro e w' ⟨rfl, hb'⟩) | (go_at_call 40; refine (hc _).mono ?_; rintro e w' ⟨rfl, rfl⟩))
  go_ret
  exact ⟨rfl, ((Kept.refl _ _).alloc _).trans hb'⟩
/-- What place hands back. -/
def PlaceOut (ks : List ByteArray) (q : ByteArray) (e : Ending) : Prop := ∃ (i : Nat) (f : Bool), e = .returned (.tuple #[.int .i64 i, .bool f]) ∧ At ks q i f
theorem sorted_lt {l : List ByteArray} (h : Sorted l) {i j : Nat} (hij : i < j) {a b : ByteArray} (ha : l[i]? = some a) (hb : l[j]? = some b) : lt a b = true := by
  obtain ⟨h1, rfl⟩ := List.getElem?_eq_some_iff.1 ha
  obtain ⟨h2, rfl⟩ := List.getElem?_eq_some_iff.1 hb
  exact (List.pairwise_iff_getElem.1 h) i j h1 h2 hij
theorem cmpI_lt (a b : ByteArray) : decide (cmpI a b < 0) = lt a b := cmp_lt a b
theorem cmpI_zero (a b : ByteArray) : decide (cmpI a b = 0) = decide (a = b) := cmp_zero a b
theorem binItem_any (b : Nat) {A : Option Addr} {n c : Nat} {l : List Item} (q : ByteArray) (w : World) (h : ItR w (.slice A n c) l) (hb : w.cell? ⟨b, 0, none⟩ = some (.func (.func 24) #[] #[])) (hs : Sorted (l.map (·.key))) (hn : n ≤ 1152921504606846975) :
    Calls Try.prog 38 #[.slice A n c, .string q, .func (.func 39) #[] #[.pointer (some ⟨b, 0, none⟩)]] w fun e w' => PlaceOut (l.map (·.key)) q e ∧ Kept (fun _ => True) w w' := by
  have hlen := h.len
  subst hlen
  have hblt := cell_lt hb
  have HH := Lib.hid h
  have HB := Lib.hid hb
  have HS := Lib.hid hs
  clear h hb hs
  go_enter Try.func38, Try.ntmps38
  go_wp2_with fail
  go_loopw [9, 10, 11] (fun s9 s10 _ wr => ∃ i j : Nat, i ≤ j ∧ j ≤ l.length ∧ s9 = .int .i64 i ∧ s10 = .int .i64 j ∧ Hid (Kept (fun _ => True) w wr) ∧ Hid (∀ (m : Nat) (x : Item), m < i → l[m]? = some x → lt x.key q = true) ∧ Hid (∀ (m : Nat) (x : Item), j ≤ m → l[m]? = some x → lt x.key q = false)) (fun s9 s10 _ _ => (intOf s10).toNat - (intOf s9).toNat)
  case atStart => exact ⟨0, l.length, Nat.zero_le _, Nat.le_refl _, rfl, rfl, Lib.hid (Kept.refl _ _), Lib.hid fun m x hm => absurd hm (Nat.not_lt_zero _), Lib.hid fun m x hm hx => absurd (List.getElem?_eq_some_iff.1 hx).1 (by omega)⟩
  case round =>
    obtain ⟨i, j, hij, hj, rfl, rfl, BW, LO, HI⟩ := hrel
    by_cases hlt : i < j
    · have hltz : (i : Int) < (j : Int) := by omega
      obtain ⟨m, hm⟩ : ∃ m : Nat, ((i : Int) + (j : Int)) / 2 = (m : Int) := ⟨(i + j) / 2, by omega⟩
      have him : i ≤ m := by omega
      have hmj : m < j := by omega
      have hmz : (m : Int) < (l.length : Int) := by omega
      obtain ⟨x, hx⟩ : ∃ x, l[m]? = some x := ⟨_, List.getElem?_eq_getElem (by omega)⟩
      obtain ⟨bb, off, rfl, _, hc, c0, c1, c2, c3⟩ := ItR.at_ (RdK.all HH.out BW.out) hx
      have hcall := placeItem1_any x q b wr ((BW.out.cell (p := ⟨b, 0, none⟩) hblt trivial).trans HB.out)
      have hcl := cmpI_lt x.key q
      have HX := Lib.hid hx
      obtain ⟨xk, xv, xn, xg⟩ := x
      unfold ics at hcall
      simp only at hcall hcl
      clear hx
      generalize cmpI xk q = r at hcall hcl
      cases hq : lt xk q with
      | true =>
        rw [hq] at hcl
        have hr : r < 0 := by simpa using hcl
        have HQ := Lib.hid hq
        clear hq
        go_wp2_with (go_at_call 39; refine hcall.mono ?_; rintro e w' ⟨rfl, hb'⟩)
        go_roundw
        case measure => simp [intOf]; omega
        case rel =>
          refine ⟨m + 1, j, by omega, hj, by simp, rfl, Lib.hid (BW.out.trans hb'), Lib.hid fun k y hk hy => ?_, HI⟩
          have hky : (l.map (·.key))[k]? = some y.key := by simp [hy]
          have hkx : (l.map (·.key))[m]? = some xk := by simp [HX.out]
          by_cases e : k = m
          · subst e
            rw [hkx] at hky
            injection hky with hky
            rw [← hky]
            exact HQ.out
          · exact lt_trans (sorted_lt HS.out (show k < m by omega) hky hkx) HQ.out
      | false =>
        rw [hq] at hcl
        have hr : ¬ r < 0 := by simpa using hcl
        have HQ := Lib.hid hq
        clear hq
        go_wp2_with (go_at_call 39; refine hcall.mono ?_; rintro e w' ⟨rfl, hb'⟩)
        go_roundw
        case measure => simp [intOf]; omega
        case rel =>
          refine ⟨i, m, him, by omega, rfl, rfl, Lib.hid (BW.out.trans hb'), LO, Lib.hid fun k y hk hy => ?_⟩
          have hky : (l.map (·.key))[k]? = some y.key := by simp [hy]
          have hkx : (l.map (·.key))[m]? = some xk := by simp [HX.out]
          by_cases e : k = m
          · subst e
            rw [hkx] at hky
            injection hky with hky
            rw [← hky]
            exact HQ.out
          · cases h2 : lt y.key q with
            | false => rfl
            | true =>
              have := lt_trans (sorted_lt HS.out (show m < k by omega) hkx hky) h2
              rw [HQ.out] at this
              cases this
    · have hltz : ¬ (i : Int) < (j : Int) := by omega
      have : i = j := by omega
      subst this
      have hat : ∀ f, f = decide ((l.map (·.key))[i]? = some q) → At (l.map (·.key)) q i f := fun f hf => by
        refine ⟨by simpa using hj, fun m k hm hk => ?_, fun m k hm hk => ?_, hf⟩
        · obtain ⟨x, hx, rfl⟩ : ∃ x, l[m]? = some x ∧ x.key = k := by simpa [Option.map_eq_some_iff] using hk
          exact LO.out m x hm hx
        · obtain ⟨x, hx, rfl⟩ : ∃ x, l[m]? = some x ∧ x.key = k := by simpa [Option.map_eq_some_iff] using hk
          exact HI.out m x hm hx
      have HAT := Lib.hid hat
      clear hat
      by_cases hin : i < l.length
      · have hinz : (i : Int) < (l.length : Int) := by omega
        obtain ⟨x, hx⟩ : ∃ x, l[i]? = some x := ⟨_, List.getElem?_eq_getElem hin⟩
        obtain ⟨bb, off, rfl, _, hc, c0, c1, c2, c3⟩ := ItR.at_ (RdK.all HH.out BW.out) hx
        have hcall := placeItem1_any x q b wr ((BW.out.cell (p := ⟨b, 0, none⟩) hblt trivial).trans HB.out)
        have hcl := cmpI_zero x.key q
        have HX := Lib.hid hx
        obtain ⟨xk, xv, xn, xg⟩ := x
        unfold ics at hcall
        simp only at hcall hcl
        clear hx
        generalize cmpI xk q = r at hcall hcl
        have HCL := Lib.hid hcl
        clear hcl
        go_wp2_with (go_at_call 39; refine hcall.mono ?_; rintro e w' ⟨rfl, hb'⟩)
        go_ret2
        refine ⟨⟨i, (r == 0), by simp, HAT.out _ ?_⟩, BW.out.trans hb'⟩
        rw [show (r == 0) = decide (r = 0) from by by_cases h : r = 0 <;> simp [h], HCL.out]
        simp [HX.out]
      · have hinz : ¬ (i : Int) < (l.length : Int) := by omega
        go_wp2_with fail
        go_ret2
        refine ⟨⟨i, false, by simp, HAT.out _ ?_⟩, BW.out⟩
        rw [List.getElem?_eq_none (by simp; omega)]
        rfl
theorem placeItem_any {A : Option Addr} {n c : Nat} {l : List Item} (q : ByteArray) (w : World) (h : ItR w (.slice A n c) l) (hs : Sorted (l.map (·.key))) (hn : n ≤ 1152921504606846975) :
    Calls Try.prog 23 #[.slice A n c, .string q, .func (.func 24) #[] #[]] w fun e w' => ∃ i f, e = .returned (.tuple #[.int .i64 (i : Nat), .bool f]) ∧ Hid (At (l.map (·.key)) q i f) ∧ Kept (fun _ => True) w w' := by
  have k1 : Kept (fun _ => True) w (w.alloc (.cells #[.func (.func 24) #[] #[]] 57)) := (Kept.refl _ w).alloc _
  have hb : (w.alloc (.cells #[.func (.func 24) #[] #[]] 57)).cell? ⟨w.heap.size, 0, none⟩ = some (.func (.func 24) #[] #[]) := (Blk.new w 57 #[.func (.func 24) #[] #[]]).cell 0
  have hc := binItem_any w.heap.size q _ (h.all k1) hb hs hn
  clear hb
  go_enter Try.func23, Try.ntmps23
  go_wp2_with (go_at_call 38; refine hc.mono ?_; rintro e w' ⟨⟨i, f, rfl, ha⟩, hb'⟩)
  go_ret2
  exact ⟨i, f, rfl, Lib.hid ha, k1.trans hb'⟩
end Ytfoolgojcmkdbaa
end Go.Proofs
