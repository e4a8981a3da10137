/-
  slices.IndexFunc, slices.ContainsFunc at calls, at rules, at no items; once.
-/
import Derived.Test.YthmijlchonbjnaaMap
set_option maxHeartbeats 1000000
set_option maxRecDepth 100000
namespace Go.Proofs
open Go.RowKit
namespace Ythmijlchonbjnaa
attribute [local go_sem ↓] Go.wp_at_zero Go.wp_at_succ
/-- The first place at which p holds, or -1. -/
def idx {α : Type} (p : α → Bool) (l : List α) : Int := if l.any p then (l.findIdx p : Int) else -1
theorem idx_hit {α : Type} {p : α → Bool} {l : List α} {k : Nat} {x : α} (hx : l[k]? = some x) (hp : p x = true) (ha : ∀ j y, j < k → l[j]? = some y → p y = false) : idx p l = (k : Int) := by
  have hany : l.any p = true := List.any_eq_true.2 ⟨x, List.mem_of_getElem? hx, hp⟩
  obtain ⟨hk, hxe⟩ := List.getElem?_eq_some_iff.1 hx
  have h1 : l.findIdx p = k := by
    refine (List.findIdx_eq hk).2 ⟨by rw [hxe]; exact hp, fun j hj => ?_⟩
    exact ha j _ hj (List.getElem?_eq_getElem (by omega))
  unfold idx
  rw [hany, h1]
  rfl
theorem any_miss {α : Type} {p : α → Bool} {l : List α} (ha : ∀ (j : Nat) y, l[j]? = some y → p y = false) : l.any p = false := by
  rw [List.any_eq_false]
  intro x hx
  obtain ⟨j, hj⟩ := List.getElem?_of_mem hx
  rw [ha j x hj]
  exact Bool.false_ne_true
theorem idx_miss {α : Type} {p : α → Bool} {l : List α} (ha : ∀ (j : Nat) y, l[j]? = some y → p y = false) : idx p l = -1 := by
  unfold idx
  rw [any_miss ha]
  rfl
theorem idx_ge {α : Type} (p : α → Bool) (l : List α) : decide (0 ≤ idx p l) = l.any p := by
  unfold idx
  cases l.any p with
  | false => rfl
  | true =>
    simp
/-- What is asked of a predicate. -/
def Pred (g : Nat) (lb : Array Value) {α : Type} (cs : α → List Value) (p : α → Bool) (w : World) : Prop :=
  ∀ (W : World) (x : α), Kept (fun _ => True) w W → Calls Try.prog g (#[.agg (cs x).toArray] ++ lb) W fun e w' => e = .returned (.bool (p x)) ∧ Kept (fun _ => True) W w'
theorem indexCall_any (g : Nat) (lb : Array Value) (eg : ∀ args w, (callFunc g args).run Try.prog w = .ok (.enter g args) w) (p : PC → Bool) {A : Option Addr} {n c : Nat} {l : List PC} (w : World) (h : PcR w (.slice A n c) l) (hp : Pred g lb pcs p w) (hn : n ≤ 1000) :
    Calls Try.prog 59 #[.slice A n c, .func (.func g) #[] lb] w fun e w' => e = .returned (.int .i64 (idx p l)) ∧ Kept (fun _ => True) w w' := by
  have HL := Lib.hid h.len
  have HH := Lib.hid h
  have HP := Lib.hid hp
  clear h hp
  obtain ⟨r, hr⟩ : ∃ r, idx p l = r := ⟨_, rfl⟩
  rw [hr]
  have HR := Lib.hid hr
  clear hr
  go_enter Try.func59, Try.ntmps59
  go_wp2_with fail
  go_loopw [5, 8] (fun _ s8 wr => ∃ k : Nat, k ≤ n ∧ s8 = .int .i64 k ∧ Hid (Kept (fun _ => True) w wr) ∧ Hid (∀ j y, j < k → l[j]? = some y → p y = false)) (fun _ s8 _ => n - (intOf s8).toNat)
  case atStart => exact ⟨0, Nat.zero_le _, rfl, Lib.hid (Kept.refl _ _), Lib.hid fun j _ hj => absurd hj (Nat.not_lt_zero _)⟩
  case round =>
    obtain ⟨k, hk, rfl, BW, A1⟩ := hrel
    by_cases hlt : k < n
    · have hltz : (k : Int) < (n : Int) := by omega
      obtain ⟨x, hx⟩ : ∃ x, l[k]? = some x := ⟨_, List.getElem?_eq_getElem (by have := HL.out; omega)⟩
      obtain ⟨b, off, rfl, hb, hc, hcell⟩ := (HH.out.all BW.out).at_ hx
      have c0 : wr.cell? ⟨b, off + k * 9, none⟩ = _ := hcell 0 _ rfl
      have c1 := hcell 1 _ rfl
      have c2 := hcell 2 _ rfl
      have c3 := hcell 3 _ rfl
      have c4 := hcell 4 _ rfl
      have c5 := hcell 5 _ rfl
      have c6 := hcell 6 _ rfl
      have c7 := hcell 7 _ rfl
      have c8 := hcell 8 _ rfl
      have hcall := HP.out wr x BW.out
      have HX := Lib.hid hx
      unfold pcs at hcall
      clear hx hcell
      cases hq : p x with
      | true =>
        rw [hq] at hcall
        have HQ := Lib.hid hq
        clear hq
        go_wp2_with (go_at_fn g; refine hcall.mono ?_; rintro e w' ⟨rfl, hb'⟩)
        go_ret
        refine ⟨?_, BW.out.trans hb'⟩
        rw [← HR.out, idx_hit HX.out HQ.out A1.out]
        rfl
      | false =>
        rw [hq] at hcall
        have HQ := Lib.hid hq
        clear hq
        go_wp2_with (go_at_fn g; refine hcall.mono ?_; rintro e w' ⟨rfl, hb'⟩)
        go_roundw
        case measure => simp [intOf]; omega
        case rel =>
          refine ⟨k + 1, by omega, by simp, Lib.hid (BW.out.trans hb'), Lib.hid fun j y hj hy => ?_⟩
          by_cases e : j = k
          · subst e
            have := HX.out
            rw [hy] at this
            injection this with this
            rw [this]
            exact HQ.out
          · exact A1.out j y (by omega) hy
    · have hltz : ¬ (k : Int) < (n : Int) := by omega
      have hkn : n ≤ k := by omega
      have HK := Lib.hid hkn
      clear hkn
      go_wp2_with fail
      go_ret
      refine ⟨?_, BW.out⟩
      rw [← HR.out, idx_miss fun j y hy => A1.out j y (by have := (List.getElem?_eq_some_iff.1 hy).1; have := HL.out; have := HK.out; omega) hy]
      rfl
theorem anyCall_any (g : Nat) (lb : Array Value) (eg : ∀ args w, (callFunc g args).run Try.prog w = .ok (.enter g args) w) (p : PC → Bool) {A : Option Addr} {n c : Nat} {l : List PC} (w : World) (h : PcR w (.slice A n c) l) (hp : Pred g lb pcs p w) (hn : n ≤ 1000) :
    Calls Try.prog 42 #[.slice A n c, .func (.func g) #[] lb] w fun e w' => e = .returned (.bool (l.any p)) ∧ Kept (fun _ => True) w w' := by
  have hc := indexCall_any g lb eg p w h hp hn
  have HG := Lib.hid (idx_ge p l)
  clear h hp eg
  revert hc HG
  generalize idx p l = r
  intro hc HG
  go_enter Try.func42, Try.ntmps42
  go_wp2_with (go_at_call 59; refine hc.mono ?_; rintro e w' ⟨rfl, hb'⟩)
  go_ret
  exact ⟨by rw [← HG.out]; rfl, hb'⟩
/-- Of no items none is. -/
theorem anyNone_any (f : Value) (w : World) : Calls Try.prog 44 #[.slice none 0 0, f] w fun e w' => e = .returned (.bool false) ∧ w' = w := by
  have h60 : ∀ W, Calls Try.prog 60 #[.slice none 0 0, f] W fun e w' => e = .returned (.int .i64 (-1)) ∧ w' = W := fun W => by
    go_enter Try.func60, Try.ntmps60
    go_wp2_with fail
    go_loopw [5, 8] (fun _ s8 wr => s8 = .int .i64 0 ∧ wr = W) (fun _ _ _ => 0)
    case atStart => exact ⟨rfl, rfl⟩
    case round =>
      obtain ⟨rfl, rfl⟩ := hrel
      go_wp2_with fail
      go_ret
      exact ⟨rfl, rfl⟩
  go_enter Try.func44, Try.ntmps44
  go_wp2_with (go_at_call 60; refine (h60 _).mono ?_; rintro e w' ⟨rfl, rfl⟩)
  go_ret
  exact ⟨rfl, rfl⟩
theorem once1_any (x : PC) (n : Int) (b : Nat) (w : World) (hb : w.cell? ⟨b, 0, none⟩ = some (.int .i64 n)) :
    Calls Try.prog 43 #[.agg (pcs x).toArray, .pointer (some ⟨b, 0, none⟩)] w fun e w' => e = .returned (.bool (x.eff == n)) ∧ Kept (fun _ => True) w w' := by
  have hb1 : (w.alloc (.cells (pcs x).toArray 52)).cell? ⟨b, 0, none⟩ = some (.int .i64 n) := ((Kept.refl _ w).alloc _).cellv hb
  unfold pcs at hb1 ⊢
  go_enter Try.func43, Try.ntmps43
  go_wp2_with fail
  go_ret
  exact ⟨rfl, (Kept.refl _ _).alloc _⟩
def onceF (l : List PC) (i : Nat) (n : Int) : Bool := !((l.take i).any fun y => y.eff == n)
theorem once_any {w : World} {base g c rb : Nat} {A : Option Addr} {l : List PC} {now : Int} (h : HRep w base g A c rb l now) {i : Nat} {x : PC} (hi : l[i]? = some x) (hn : l.length ≤ 1000) :
    Calls Try.prog 33 #[.pointer (some ⟨g, 0, none⟩), .int .i64 i] w fun e w' => e = .returned (.bool (onceF l i x.eff)) ∧ Kept (fun _ => True) w w' := by
  obtain ⟨q, cs, rfl, _, hq, _, hlc, hcell⟩ := h.row.at_ encP hi
  have r7 := hcell 7 _ rfl
  have hil := (List.getElem?_eq_some_iff.1 hi).1
  obtain ⟨n, hln⟩ : ∃ n, l.length = n := ⟨_, rfl⟩
  have hb1 := h.blk.cell 1
  have HLN := Lib.hid hln
  rw [hln] at hb1 hil hlc hn
  have hin : (i : Int) < (n : Int) := by omega
  have hic : (i : Int) ≤ (c : Int) := by omega
  have hrd : PcR w (.slice (some ⟨q, 0, none⟩) i c) (l.take i) := by
    obtain ⟨A0, c0, hv, _, hA⟩ := h.row.rd encP
    injection hv with e1 _ e3
    subst e1 e3
    have hl : (l.take i).length = i := by rw [List.length_take]; omega
    refine ⟨_, c, by rw [hl], by rw [hl]; omega, fun j u hu => ?_⟩
    rw [List.getElem?_take] at hu
    split at hu
    · exact hA j u hu
    · cases hu
  have HRD := Lib.hid hrd
  have HH := Lib.hid h
  clear h hcell hi hrd hln
  obtain ⟨r, hr⟩ : ∃ r, ((l.take i).any fun y => y.eff == x.eff) = r := ⟨_, rfl⟩
  have hon : onceF l i x.eff = !r := by unfold onceF; rw [hr]
  rw [hon]
  have HR := Lib.hid hr
  clear hr hon
  obtain ⟨w1, hw1⟩ : ∃ w1, w.alloc (.cells #[.int .i64 x.eff] 3) = w1 := ⟨_, rfl⟩
  have k1 : Kept (fun _ => True) w w1 := hw1 ▸ (Kept.refl _ w).alloc _
  have b1 : w1.cell? ⟨w.heap.size, 0, none⟩ = some (.int .i64 x.eff) := hw1 ▸ (Blk.new w 3 #[.int .i64 x.eff]).cell 0
  have hany : Calls Try.prog 42 #[.slice (some ⟨q, 0, none⟩) i c, .func (.func 43) #[] #[.pointer (some ⟨w.heap.size, 0, none⟩)]] w1 fun e w' => e = .returned (.bool r) ∧ Kept (fun _ => True) w1 w' := by
    have := anyCall_any 43 #[.pointer (some ⟨w.heap.size, 0, none⟩)] (enters_of Try.func43 (by kernel_rfl) rfl) (fun y => y.eff == x.eff) w1 (HRD.out.all k1) (fun W y hW => once1_any y x.eff w.heap.size W (hW.cellv b1)) (by omega)
    rwa [HR.out] at this
  have c1 := (HH.out.blk.kept k1 trivial).cell 1
  rw [HLN.out] at c1
  have K1 := Lib.hid k1
  have HANY := Lib.hid hany
  clear k1 hany
  go_enter Try.func33, Try.ntmps33
  go_wp2_with fail
  refine HANY.out.mono ?_
  rintro e w2 ⟨rfl, k2⟩
  have c0 := ((HH.out.all K1.out).all k2).blk.cell 0
  have K2 := Lib.hid (K1.out.trans k2)
  clear k2 HANY
  cases r with
  | true =>
    go_wp2_with fail
    go_ret
    exact ⟨rfl, K2.out⟩
  | false =>
    go_wp2_with (go_at_call 44; refine (anyNone_any _ _).mono ?_; rintro e w' ⟨rfl, rfl⟩)
    go_ret
    exact ⟨rfl, K2.out⟩
end Ythmijlchonbjnaa
end Go.Proofs
