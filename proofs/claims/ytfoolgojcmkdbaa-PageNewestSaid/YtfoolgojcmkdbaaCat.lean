/-
  slices.Grow of nothing, slices.Concat of two, at items.
-/
import Derived.Test.YtfoolgojcmkdbaaEnc
import Derived.Lib.AppendZeros
set_option maxHeartbeats 4000000
namespace Go.Proofs
open Go.RowKit
namespace Ytfoolgojcmkdbaa
attribute [local go_sem ↓] Go.wp_at_zero Go.wp_at_succ
theorem RdK.low {α : Type} {k : Nat} {enc : α → List Value} {w w' : World} {v : Value} {l : List α} (h : RdK k enc w v l) (hk : Kept (fun b => b < w.heap.size) w w') : RdK k enc w' v l :=
  h.kept hk fun hne g hg => by
    obtain ⟨b, off, c, rfl, _, hb, _⟩ := h.some_ hne
    have : b = g := by simpa [Value.ownBlock] using hg
    omega
theorem growItem_any (n : Nat) (w : World) (hn : n ≤ 1000000) : Calls Try.prog 47 #[.slice none 0 0, .int .i64 n] w fun e w' => ∃ A c, e = .returned (.slice A 0 c) ∧ Hid (ItO w' w.heap.size (.slice A 0 c) []) ∧ Kept (fun _ => True) w w' := by
  by_cases h0 : n = 0
  · subst h0
    go_enter Try.func47, Try.ntmps47
    go_wp2_with fail
    go_ret
    exact ⟨none, 0, rfl, Lib.hid (RowN.nil _ _ _), Kept.refl _ _⟩
  · obtain ⟨i, hi0, hz, hs1, hb1⟩ := info_parts Try.info30
    have hr := fun ty => Lib.run_append_nil_zeros (P := Try.prog) w 22 3 ty 30 i _ .i64 .i64 Try.underlying22 Try.underlying3 hi0 hz n (by omega) (by omega) (by omega) (by rw [hb1]; omega)
    have hge := grownCap_ge w n 0 30
    have hml := grownCap_le_maxLen w n 0 30 (by simp [maxLen]; omega)
    have ho : Hid (ItO (w.drew.alloc (.cells (Builtin.zeroCells (Value.agg #[.string ⟨#[]⟩, .string ⟨#[]⟩, .int .i64 0, .bool false]).cells n ++ Builtin.zeroCells (Value.agg #[.string ⟨#[]⟩, .string ⟨#[]⟩, .int .i64 0, .bool false]).cells (grownCap w n 0 30 - n)) 30)) w.heap.size (.slice (some ⟨w.heap.size, 0, none⟩) 0 (grownCap w n 0 30)) []) :=
      Lib.hid (.inr ⟨w.heap.size, _, _, rfl, Nat.le_refl _, heap_alloc_new w.drew _, Nat.zero_le _, by
        simp only [Array.size_append, size_zeroCells]
        show _ ≤ n * 4 + (grownCap w n 0 30 - n) * 4
        omega, hml, by simp⟩)
    have hk : Hid (Kept (fun _ => True) w (w.drew.alloc (.cells (Builtin.zeroCells (Value.agg #[.string ⟨#[]⟩, .string ⟨#[]⟩, .int .i64 0, .bool false]).cells n ++ Builtin.zeroCells (Value.agg #[.string ⟨#[]⟩, .string ⟨#[]⟩, .int .i64 0, .bool false]).cells (grownCap w n 0 30 - n)) 30))) := Lib.hid ((Kept.refl _ w).drew.alloc _)
    generalize w.drew.alloc (.cells (Builtin.zeroCells (Value.agg #[.string ⟨#[]⟩, .string ⟨#[]⟩, .int .i64 0, .bool false]).cells n ++ Builtin.zeroCells (Value.agg #[.string ⟨#[]⟩, .string ⟨#[]⟩, .int .i64 0, .bool false]).cells (grownCap w n 0 30 - n)) 30) = w1 at hr ho hk
    generalize grownCap w n 0 30 = cap at hr ho hge hml
    have hr2 := hr 22
    clear hr hi0 hz hs1 hb1
    have hw1 : IntKind.i64.wrap (n : Int) = (n : Int) := wrap_small (by omega)
    have h1 : ¬ ((n : Int) < 0) := by omega
    have h2 : (0 : Int) < (n : Int) := by omega
    have h3 : 0 < n := by omega
    go_enter Try.func47, Try.ntmps47
    go_wp2_with (at_builtin; refine wpList_append_run2 rfl (.tmp 20) (.tmp 21) 22 3 rfl rfl rfl hr2 ?_)
    go_ret
    exact ⟨_, _, rfl, ho, hk.out⟩
theorem catI_step {w wx : World} {B A : Option Addr} {d n m c : Nat} {l l' : List Item} (ho : ItO wx w.heap.size (.slice B n d) l) (hr : ItR wx (.slice A m c) l') (hm : m = l'.length) (hn : n = l.length) (hk : Kept (fun b => b < w.heap.size) w wx) (hb : n + m ≤ 100000) :
    ∃ E f w', (Builtin.append_ #[22, 22] 22 #[.slice B n d, .slice A m c]).run Try.prog wx = .ok (.slice E (n + m) f) w' ∧ Hid (ItO w' w.heap.size (.slice E (n + m) f) (l ++ l')) ∧ Hid (Kept (fun b => b < w.heap.size) w w') := by
  subst hm hn
  obtain ⟨v', w', hrun, hro, hkk, _, _⟩ := run_append_rowN (P := Try.prog) (t := 22) (ty := 22) encI (by omega) Try.underlying22 Try.info30 rfl ho hr (by simp [maxLen]; omega) (by omega) hk.size
  obtain ⟨E, f, rfl⟩ := hro.form
  rw [List.length_append] at hrun hro
  exact ⟨E, f, w', hrun, Lib.hid hro, Lib.hid (hk.trans' hkk fun b _ hb e => by
    have := (ho.lt e).2
    omega)⟩
theorem catItem_any {A1 A2 : Option Addr} {n1 n2 c1 c2 pb : Nat} {l1 l2 : List Item} (w : World) (h1 : ItR w (.slice A1 n1 c1) l1) (h2 : ItR w (.slice A2 n2 c2) l2) (hp0 : w.cell? ⟨pb, 0, none⟩ = some (.slice A1 n1 c1)) (hp1 : w.cell? ⟨pb, 1, none⟩ = some (.slice A2 n2 c2)) (hn1 : n1 ≤ 1000) (hn2 : n2 ≤ 1000) :
    Calls Try.prog 29 #[.slice (some ⟨pb, 0, none⟩) 2 2] w fun e w' => ∃ A c, e = .returned (.slice A (n1 + n2) c) ∧ Hid (ItO w' w.heap.size (.slice A (n1 + n2) c) (l1 ++ l2)) ∧ Kept (fun _ => True) w w' := by
  have hl1 := h1.len
  have hl2 := h2.len
  have H1 := Lib.hid h1
  have H2 := Lib.hid h2
  have HL1 := Lib.hid hl1
  have HL2 := Lib.hid hl2
  clear h1 h2 hl1 hl2
  go_enter Try.func29, Try.ntmps29
  go_wp2_with fail
  go_loopw [3, 5, 11] (fun s3 _ s11 wr => ∃ k : Nat, k ≤ 2 ∧ s11 = .int .i64 k ∧ s3 = .int .i64 ((if k = 0 then 0 else if k = 1 then n1 else n1 + n2 : Nat) : Int) ∧ w = wr) (fun _ _ s11 _ => 2 - (intOf s11).toNat)
  case atStart => exact ⟨0, by omega, rfl, rfl, rfl⟩
  case round =>
    obtain ⟨k, hk, rfl, rfl, rfl⟩ := hrel
    have hcase : k = 0 ∨ k = 1 ∨ k = 2 := by omega
    rcases hcase with rfl | rfl | rfl
    · have hw1 : IntKind.i64.wrap (n1 : Int) = (n1 : Int) := wrap_small (by omega)
      have hz1 : ¬ ((n1 : Int) < 0) := by omega
      go_wp2_with fail
      go_roundw
      case measure => simp [intOf]
      case rel => exact ⟨1, by omega, by simp, rfl, trivial⟩
    · have hw1 : IntKind.i64.wrap ((n1 : Int) + (n2 : Int)) = (n1 : Int) + (n2 : Int) := by rw [IntKind.wrap_i64]; omega
      have hz1 : ¬ ((n1 : Int) + (n2 : Int) < 0) := by omega
      go_wp2_with fail
      go_roundw
      case measure => simp [intOf]
      case rel => exact ⟨2, by omega, by simp, by simp, trivial⟩
    · have hg := growItem_any (n1 + n2) w (by omega)
      go_wp2_with fail
      refine hg.mono ?_
      rintro e w1 ⟨A, c, rfl, HO, hk1⟩
      have HK1 := Lib.hid hk1
      have p0 := hk1.cellv hp0
      have p1 := hk1.cellv hp1
      clear hg hk1
      go_wp2_with fail
      go_loopw [6, 8, 27] (fun s6 _ s27 wx => ∃ (j : Nat) (B : Option Addr) (d : Nat), j ≤ 2 ∧ s27 = .int .i64 j ∧ s6 = .slice B (if j = 0 then 0 else if j = 1 then n1 else n1 + n2) d ∧ Hid (ItO wx w.heap.size (.slice B (if j = 0 then 0 else if j = 1 then n1 else n1 + n2) d) (if j = 0 then [] else if j = 1 then l1 else l1 ++ l2)) ∧ Hid (Kept (fun b => b < w.heap.size) w wx)) (fun _ _ s27 _ => 2 - (intOf s27).toNat)
      case atStart => exact ⟨0, A, c, by omega, rfl, rfl, HO, Lib.hid (HK1.out.mono fun _ _ _ => trivial)⟩
      case round =>
        obtain ⟨j, B, d, hj, rfl, rfl, HB, BX⟩ := hrel
        have hcase : j = 0 ∨ j = 1 ∨ j = 2 := by omega
        rcases hcase with rfl | rfl | rfl
        · have hrd := RdK.low H1.out BX.out
          have p := (BX.out.cell (p := ⟨pb, 0, none⟩) (cell_lt' hp0) (cell_lt' hp0)).trans hp0
          obtain ⟨E, f, w', hr, HRO, HKK⟩ := catI_step HB.out hrd HL1.out (by simp) BX.out (by simp; omega)
          simp only [if_pos, Nat.zero_add, List.nil_append] at hr HRO
          go_wp2_with (at_builtin; refine wpList_append_run rfl (.tmp 31) (.tmp 32) 22 rfl rfl rfl hr ?_)
          go_roundw
          case measure => simp [intOf]
          case rel => exact ⟨1, E, f, by omega, by simp, rfl, HRO, HKK⟩
        · have hrd := RdK.low H2.out BX.out
          have p := (BX.out.cell (p := ⟨pb, 1, none⟩) (cell_lt' hp1) (cell_lt' hp1)).trans hp1
          obtain ⟨E, f, w', hr, HRO, HKK⟩ := catI_step HB.out hrd HL2.out (by simp [HL1.out]) BX.out (by simp; omega)
          simp only [Nat.one_ne_zero, if_false, if_true] at hr HRO
          go_wp2_with (at_builtin; refine wpList_append_run rfl (.tmp 31) (.tmp 32) 22 rfl rfl rfl hr ?_)
          go_roundw
          case measure => simp [intOf]
          case rel => exact ⟨2, E, f, by omega, by simp, by simp, by simpa using HRO, HKK⟩
        · go_wp2_with fail
          go_ret
          exact ⟨B, d, rfl, by simpa using HB, ⟨BX.out.os, BX.out.tape, BX.out.output, BX.out.size, fun b hb _ => BX.out.block b hb hb⟩⟩
end Ytfoolgojcmkdbaa
end Go.Proofs
