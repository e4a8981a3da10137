/-
  clock.New; Index.
-/
import Derived.Test.YtghcojaggplkkaaRep
import Derived.Deep.RegionWith
import Derived.Deep.DeepCutAuto
import Derived.Deep.DrawnRows
set_option maxHeartbeats 400000
namespace Go.Proofs
open Go.RowKit
namespace Ytghcojaggplkkaa
attribute [local go_sem ↓] Go.wp_at_zero Go.wp_at_succ
/-- By whom the cell is counted: nobody, or block k. -/
def Gho.val (g : Gho) : Value := match g with | none => .pointer none | some p => .pointer (some ⟨p.1, 0, none⟩)

theorem newint_any (g : Gho) (n : Int) (w : World) (hg : ∀ p, g = some p → CntAt w p.1 p.2) :
    Calls Try.prog 20 #[g.val, .int .i64 n] w fun e w' => ∃ b k, e = .returned (.pointer (some ⟨b, 0, none⟩)) ∧ w.heap.size ≤ b ∧ IntAt w' b k n ∧ CntOk w' k g ∧ (g = none → w.heap.size ≤ k) ∧ Kept (fun _ => True) w w' := by
  cases g with
  | none =>
    refine (newint_none n w).mono ?_
    rintro e w' ⟨rfl, rfl⟩
    refine ⟨w.heap.size + 1, w.heap.size, rfl, by omega, ?_, ⟨Tal.zero, (Blk.new _ _ _).alloc _⟩, fun _ => Nat.le_refl _, ((Kept.refl _ w).alloc _).alloc _⟩
    have := Blk.new (w.alloc (.cells Tal.zero.arr 67)) 72 #[.int .i64 n, .pointer (some ⟨w.heap.size, 0, none⟩)]
    rw [World.size_alloc] at this
    exact this
  | some p =>
    refine (newint_some p.1 n w).mono ?_
    rintro e w' ⟨rfl, rfl⟩
    exact ⟨w.heap.size, p.1, rfl, Nat.le_refl _, Blk.new _ _ _, ⟨rfl, Blk.alloc (hg p rfl) _⟩, (fun h => nomatch h), (Kept.refl _ w).alloc _⟩

theorem MapIs.new (w : World) : MapIs (w.alloc (.map #[] 0)) w.heap.size [] := ⟨#[], 0, heap_alloc_new w _, rfl⟩

theorem new_bad (g : Value) (n : Int) (w : World) (h : n < 0 ∨ 1099511627776 < n) :
    Calls Try.prog 7 #[g, .int .i64 n] w fun e w' => e = .returned (.tuple #[.pointer none, .int .i64 1]) ∧ w = w' := by
  rcases h with h | h
  · have hd : decide (n < 0) = true := by simp; omega
    go_enter Try.func7, Try.ntmps7
    go_wp2
    go_ret2
    exact ⟨rfl, rfl⟩
  · have hd : decide (n < 0) = false := by simp; omega
    have hd2 : decide (1099511627776 < n) = true := by simp; omega
    go_enter Try.func7, Try.ntmps7
    go_wp2
    go_ret2
    exact ⟨rfl, rfl⟩

theorem new_close {w w2 : World} {base b k mb : Nat} {n : Int} {g : Gho} (hbase : base ≤ w.heap.size) (hg : ∀ p, g = some p → CntAt w p.1 p.2 ∧ base ≤ p.1) (hI : IntAt w2 b k 0) (hC : CntOk w2 k g) (hb : w.heap.size ≤ b) (hk : g = none → w.heap.size ≤ k)
    (hmap : MapIs w2 mb []) (hmb : w.heap.size ≤ mb) (hK : Kept (fun _ => True) w w2) :
    ∃ L : Lay, Ending.returned (Value.tuple #[.pointer (some ⟨w2.heap.size, 0, none⟩), .int .i64 0]) = .returned (.tuple #[.pointer (some ⟨L.kb, 0, none⟩), .int .i64 0]) ∧
      Rep (w2.alloc (.cells #[.int .i64 n, .pointer (some ⟨b, 0, none⟩), .slice none 0 0, .map (some mb), .int .i64 0] 55)) base L ⟨n, 0, [], 0, g⟩ ∧
      (∀ b, L.foot b → w.heap.size ≤ b ∨ ∃ p, g = some p ∧ b = p.1) ∧ Kept (fun _ => True) w (w2.alloc (.cells #[.int .i64 n, .pointer (some ⟨b, 0, none⟩), .slice none 0 0, .map (some mb), .int .i64 0] 55)) := by
  have hfoot : ∀ c, (Lay.mk w2.heap.size b k (.slice none 0 0) mb []).foot c → w.heap.size ≤ c ∨ ∃ p, g = some p ∧ c = p.1 := by
    intro c hc
    rcases hc with rfl | rfl | rfl | hc | rfl | hc
    · exact .inl hK.size
    · exact .inl hb
    · cases g with
      | none => exact .inl (hk rfl)
      | some p => exact .inr ⟨p, rfl, hC.1⟩
    · simp [Value.ownBlock] at hc
    · exact .inl hmb
    · cases hc
  refine ⟨⟨w2.heap.size, b, k, .slice none 0 0, mb, []⟩, rfl, ?_, hfoot, hK.alloc _⟩
  exact {
    kblk := Blk.new _ _ _
    res := Blk.alloc hI _
    ring := Row1.nil _ _ _
    map := hmap.kept ((Kept.refl (fun _ => True) w2).alloc _) trivial
    pages := fun i p b hp => by simp at hp
    nd := by simp
    lp := rfl
    cnt := by
      revert hC
      cases g with
      | none => rintro ⟨t, ht⟩; exact ⟨t, Blk.alloc ht _⟩
      | some p => rintro ⟨h1, h2⟩; exact ⟨h1, Blk.alloc h2 _⟩
    low := fun c hc => by
      rcases hfoot c hc with h | ⟨p, hp, rfl⟩
      · omega
      · exact (hg p hp).2 }

theorem new_good (g : Gho) (n : Int) (w : World) (base : Nat) (h0 : 0 ≤ n) (h1 : n ≤ 1099511627776) (hbase : base ≤ w.heap.size) (hg : ∀ p, g = some p → CntAt w p.1 p.2 ∧ base ≤ p.1) :
    Calls Try.prog 7 #[g.val, .int .i64 n] w fun e w' => ∃ L, e = .returned (.tuple #[.pointer (some ⟨L.kb, 0, none⟩), .int .i64 0]) ∧ Rep w' base L ⟨n, 0, [], 0, g⟩ ∧
      (∀ b, L.foot b → w.heap.size ≤ b ∨ ∃ p, g = some p ∧ b = p.1) ∧ Kept (fun _ => True) w w' := by
  have hmm := @run_makeMap Try.prog
  have hd : decide (n < 0) = false := by simp; omega
  have hd2 : decide (1099511627776 < n) = false := by simp; omega
  have HG := Lib.hid hg
  clear hg
  go_enter Try.func7, Try.ntmps7
  go_wp2_with fail
  refine (newint_any g 0 _ fun p hp => (HG.out p hp).1).mono ?_
  rintro e w' ⟨b, k, rfl, hb, hI, hC, hk, hK⟩
  go_wp2_with fail
  go_ret2
  rw [← World.size_alloc w' (.map #[] 0)]
  exact new_close hbase HG.out (Blk.alloc hI _) (by
      revert hC
      cases g with
      | none => rintro ⟨t, ht⟩; exact ⟨t, Blk.alloc ht _⟩
      | some p => rintro ⟨h1, h2⟩; exact ⟨h1, Blk.alloc h2 _⟩) hb hk (MapIs.new w') hK.size (hK.alloc _)

/-- slices.Index, the number there. -/
theorem index_hit (w : World) {base : Nat} {v : Value} {xs : List Int} (h : Row1 w base 3 v (xs.map (.int .i64 ·))) (n : Int) (hl : xs.length ≤ 512) {m : Nat} (hm : xs.findIdx? (fun x => n == x) = some m) :
    Calls Try.prog 27 #[v, .int .i64 n] w fun e w' => e = .returned (.int .i64 m) ∧ w = w' := by
  obtain ⟨A, c, hv⟩ := h.form
  rw [List.length_map] at hv
  subst hv
  have HR := Lib.hid h
  clear h
  have hmx : m < xs.length ∧ xs[m]? = some n := by
    obtain ⟨h1, h2, _⟩ := List.findIdx?_eq_some_iff_getElem.1 hm
    exact ⟨h1, by rw [List.getElem?_eq_getElem h1, ← beq_iff_eq.1 h2]⟩
  have hmn : ∀ j, j < m → ∀ x, xs[j]? = some x → (n == x) = false := by
    obtain ⟨h1, h2, h3⟩ := List.findIdx?_eq_some_iff_getElem.1 hm
    intro j hj x hx
    have := h3 j hj
    rw [List.getElem?_eq_getElem (by omega)] at hx
    injection hx with hx
    rw [← hx]
    simpa using this
  have HM := Lib.hid hmx
  have HN := Lib.hid hmn
  have hml : m < xs.length := hmx.1
  clear hm hmx hmn
  go_enter Try.func27, Try.ntmps27
  go_wp2_with fail
  go_loopw [8] (fun i wr => ∃ k, k ≤ m ∧ i = .int .i64 k ∧ w = wr)
    (fun i _ => xs.length - (intOf i).toNat)
  case atStart => exact ⟨0, Nat.zero_le _, rfl, rfl⟩
  case round =>
    obtain ⟨k, hk, rfl, rfl⟩ := hrel
    have hlt : k < xs.length := Nat.lt_of_le_of_lt hk hml
    have hd : decide ((k : Int) < (xs.length : Int)) = true := by simp; omega
    obtain ⟨x, hx⟩ : ∃ x, xs[k]? = some x := ⟨_, List.getElem?_eq_getElem hlt⟩
    obtain ⟨g, cap, hv, hc⟩ := HR.out.at_ (i := k) (x := .int .i64 x) (by rw [List.getElem?_map, hx]; rfl)
    rw [List.length_map] at hv
    injection hv with hA hn hcp
    subst hA hcp
    have HX := Lib.hid hx
    clear hx hn
    by_cases hkm : k = m
    · subst hkm
      have : n = x := by
        have := HX.out.symm.trans HM.out.2
        exact (Option.some.inj this).symm
      subst this
      go_wp2_with fail
      go_ret
      exact ⟨rfl, rfl⟩
    · have hxn : (n == x) = false := HN.out k (by omega) x HX.out
      go_wp2_with fail
      go_roundw
      case rel => exact ⟨k + 1, by omega, by simp, trivial⟩
      case measure => simp [intOf]; omega
end Ytghcojaggplkkaa
end Go.Proofs
