/-
  'same' of the law; the tally of a count.
-/
import Derived.Test.YtbefknaffopeaaaRefD
set_option maxHeartbeats 1000000
namespace Go.Proofs
open Go.RowKit
namespace Ytbefknaffopeaaa
attribute [local go_sem ↓] Go.wp_at_zero Go.wp_at_succ
section
variable {w w' : World}
/-- A row that is written: its cells from k on are l's. -/
structure Wiped (w : World) (base g cap n : Nat) (l : List Int) (k : Nat) : Prop where
  ex : ∃ cur, Blk w g 3 cur ∧ cur.size = cap ∧ ∀ i : Nat, k ≤ i → i < n → cur[i]? = (l[i]?).map (Value.int .i64)
  low : base ≤ g
  cap1 : n ≤ cap
  cap2 : cap ≤ maxLen
theorem Wiped.own {base g cap n k : Nat} {l : List Int} (h : Wiped w base g cap n l k) : ∃ xs, w.ownsRow base 3 1 (.slice (some ⟨g, 0, none⟩) n cap) n xs := by
  obtain ⟨cur, hb, hs, _⟩ := h.ex
  have h1 := h.cap1
  refine ⟨cur.toList.take n, by simp; omega, .inr ⟨g, cap, cur, rfl, h.low, hb, h.cap1, h.cap2, by omega, by simp⟩⟩
theorem Wiped.of {base n : Nat} {v : Value} {l : List Int} (h : w.ownsRow base 3 1 v n (l.map (Value.int .i64))) (hn : 0 < n) : ∃ g cap, v = .slice (some ⟨g, 0, none⟩) n cap ∧ Wiped w base g cap n l 0 := by
  obtain ⟨hl, h2⟩ := h
  rcases h2 with ⟨_, h0⟩ | ⟨g, cap, cur, hv, hb, hh, hnc, hcm, hcs, ht⟩
  · omega
  · refine ⟨g, cap, hv, ⟨cur, hh, by omega, fun i _ hi => ?_⟩, hb, hnc, hcm⟩
    rw [Nat.mul_one] at ht
    have : (cur.toList.take n)[i]? = (l.map (Value.int .i64))[i]? := by rw [ht]
    rw [List.getElem?_take, if_pos hi, List.getElem?_map] at this
    simpa using this
theorem Wiped.step {base g cap n k : Nat} {l : List Int} (h : Wiped w base g cap n l k) (u : Value) : Wiped (w.setCell ⟨g, k, none⟩ u) base g cap n l (k + 1) := by
  obtain ⟨cur, hb, hs, hi⟩ := h.ex
  refine ⟨⟨cur.setIfInBounds k u, hb.set_ k u, by simp [hs], fun i h1 h2 => ?_⟩, h.low, h.cap1, h.cap2⟩
  rw [Array.getElem?_setIfInBounds_ne (by omega)]
  exact hi i (by omega) h2

theorem same_any {b1 b2 : Nat} {A B : Option Addr} {c1 c2 : Nat} {l : List Int} (ha : w.ownsRow b1 3 1 (.slice A l.length c1) l.length (l.map (Value.int .i64))) (hb : w.ownsRow b2 3 1 (.slice B l.length c2) l.length (l.map (Value.int .i64)))
    (hne : ∀ g, (Value.slice A l.length c1).ownBlock = some g → (Value.slice B l.length c2).ownBlock ≠ some g) (hm : (l.length + 1) * 8 ≤ 140737488355328) (hb1 : b1 ≤ w.heap.size) :
    Calls Try.prog 23 #[.slice A l.length c1, .slice B l.length c2] w fun e w' => e = .returned (.bool true) ∧ Kept (fun b => (Value.slice A l.length c1).ownBlock ≠ some b) w w' := by
  obtain ⟨i3, hi3, hz30, hz31, hz32⟩ := info_parts Try.info3'
  have hlen : ((l.length : Int) != (l.length : Int)) = false := by simp
  obtain ⟨ob, hob⟩ : ∃ ob, (Value.slice A l.length c1).ownBlock = ob := ⟨_, rfl⟩
  rw [hob]
  have HOB := Lib.hid hob
  clear hob
  by_cases h0 : l.length = 0
  · go_enter Try.func23, Try.ntmps23
    go_wp2_with fail
    go_loopw [5, 6] (fun o i wr => o = .bool true ∧ i = .int .i64 0 ∧ w = wr) (fun _ _ _ => 0)
    case atStart => exact ⟨rfl, rfl, rfl⟩
    case round =>
      obtain ⟨rfl, rfl, rfl⟩ := hrel
      have hd3 : ¬ 0 < l.length := by omega
      go_wp2_with (at_builtin; refine wpList_append_own _ (by rfl) (.tmp 33) (.tmp 34) 34 (by rfl) b1 3 i3 (.int .i64 0) 1 8 Try.underlying34 hi3 hz30 hz31 hz32 (by rfl) (by decide) _ _ _ (by rfl) (ha.alloc _) ⟨w.heap.size, 0, none⟩ 1 1 [.int .i64 (-8)] (by rfl) (by rfl) (World.news_of_block (heap_alloc_new _ _)) (by simp [Value.oneCell']) (by unfold maxLen; omega) hm (by rw [World.size_alloc]; omega) ?_; intro v' w2 hown2 hgrow _; rw [HOB.out] at hgrow; obtain ⟨A2, c3, hv2⟩ := own_form hown2; subst hv2)
      go_ret
      exact ⟨rfl, ((Kept.refl _ w).alloc _).grown hgrow fun k hk _ hn => hn hk⟩
  · obtain ⟨g, cap, hv, hW⟩ := Wiped.of ha (by omega)
    injection hv with hA _ hc
    subst hA hc
    have hobg : ob = some g := HOB.out.symm
    obtain ⟨g2, cap2, hv2, hW2⟩ := Wiped.of hb (by omega)
    injection hv2 with hA2 _ hc2
    subst hA2 hc2
    have hgg : g2 ≠ g := fun e => hne g rfl (by rw [← e]; rfl)
    obtain ⟨cur2, hb2, _, hat2⟩ := hW2.ex
    have HB2 := Lib.hid hat2
    have HOG := Lib.hid hobg
    have hlen2 : l.length ≤ 17592186044416 := by omega
    clear hat2 hW2 ha hb hne hobg
    go_enter Try.func23, Try.ntmps23
    go_wp2_with fail
    go_loopw [5, 6] (fun o i wr => ∃ k : Nat, k ≤ l.length ∧ o = .bool true ∧ i = .int .i64 k ∧ Wiped wr b1 g c1 l.length l k ∧ Blk wr g2 3 cur2 ∧ Kept (fun b => ob ≠ some b) w wr) (fun _ i _ => l.length - (intOf i).toNat)
    case atStart => exact ⟨0, Nat.zero_le _, rfl, rfl, hW, hb2, Kept.refl _ _⟩
    case round =>
      clear hW hb2
      obtain ⟨k, hk, rfl, rfl, hW, hb2, kp⟩ := hrel
      by_cases hlt : k < l.length
      · obtain ⟨x, hx⟩ : ∃ x, l[k]? = some x := ⟨_, List.getElem?_eq_getElem hlt⟩
        obtain ⟨cur, hbc, hcs, hat⟩ := hW.ex
        have a1 : wr.cell? ⟨g, k, none⟩ = some (.int .i64 x) := by
          rw [hbc.cell, hat k (Nat.le_refl _) hlt, hx]
          rfl
        have a2 : wr.cell? ⟨g2, k, none⟩ = some (.int .i64 x) := by
          rw [hb2.cell, HB2.out k (Nat.zero_le _) hlt, hx]
          rfl
        have a1f : wr.frozen? ⟨g, k, none⟩ = false := hbc.frozen k
        have hli : (k : Int) < (l.length : Int) := by omega
        have HW2 := Lib.hid (hW.step (.int .i64 (-9)))
        have HK2 := Lib.hid (kp.setCell (p := ⟨g, k, none⟩) (fun _ hn => hn HOG.out) (.int .i64 (-9)))
        have HB3 := Lib.hid (hb2.far (p := ⟨g, k, none⟩) hgg (.int .i64 (-9)))
        clear hx hbc hcs hat hW hb2 kp
        go_wp2_with fail
        go_region
        all_goals go_wp2_with fail
        all_goals go_roundw
        case rel => exact ⟨k + 1, by omega, rfl, by go_num, ⟨HW2.out.ex, HW2.out.low, HW2.out.cap1, HW2.out.cap2⟩, HB3.out, HK2.out.drew⟩
        case measure => simp [intOf]; omega
      · obtain ⟨xs, hown⟩ := hW.own
        have hsz := kp.size
        clear hW hb2
        go_wp2_with (at_builtin; refine wpList_append_own _ (by rfl) (.tmp 33) (.tmp 34) 34 (by rfl) b1 3 i3 (.int .i64 0) 1 8 Try.underlying34 hi3 hz30 hz31 hz32 (by rfl) (by decide) _ _ _ (by rfl) (hown.alloc _) ⟨wr.heap.size, 0, none⟩ 1 1 [.int .i64 (-8)] (by rfl) (by rfl) (World.news_of_block (heap_alloc_new _ _)) (by simp [Value.oneCell']) (by unfold maxLen; omega) hm (by rw [World.size_alloc]; omega) ?_; intro v' w2 hown2 hgrow _; obtain ⟨A2, c3, hv2⟩ := own_form hown2; subst hv2)
        go_ret
        exact ⟨by simp, (kp.alloc _).grown hgrow fun b hb _ hn => hn (by rw [HOG.out]; exact hb)⟩
end
end Ytbefknaffopeaaa
end Go.Proofs
