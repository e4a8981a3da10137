/-
  slices.Clone at items and at kids; own.
-/
import Derived.Test.YtfoolgojcmkdbaaRowN
import Derived.Test.YtfoolgojcmkdbaaRise
set_option maxHeartbeats 4000000
namespace Go.Proofs
open Go.RowKit
theorem Try.info30 : (Try.prog.info? 30).map (fun i => (i.zero, i.size, i.bytes)) = some (some (.agg #[.string ⟨#[]⟩, .string ⟨#[]⟩, .int .i64 0, .bool false]), 4, 48) := by kernel_rfl
theorem Try.info41 : (Try.prog.info? 41).map (fun i => (i.zero, i.size, i.bytes)) = some (some (.agg #[.string ⟨#[]⟩, .int .i64 0]), 2, 24) := by kernel_rfl
namespace Ytfoolgojcmkdbaa
attribute [local go_sem ↓] Go.wp_at_zero Go.wp_at_succ
abbrev ItO (w : World) (base : Nat) (v : Value) (l : List Item) : Prop := RowN 4 ics w base 30 v l
abbrev KdO (w : World) (base : Nat) (v : Value) (l : List Kid) : Prop := RowN 2 kcs w base 41 v l
theorem cloneItem_any {A : Option Addr} {n c : Nat} {l : List Item} (w : World) (h : ItR w (.slice A n c) l) (hn : n ≤ 1000000000) :
    Calls Try.prog 41 #[.slice A n c] w fun e w' => ∃ v, e = .returned v ∧ Hid (ItO w' w.heap.size v l) ∧ Kept (fun _ => True) w w' := by
  have hlen := h.len
  subst hlen
  cases A with
  | none =>
    have hl : l = [] := by
      cases l with
      | nil => rfl
      | cons x l =>
        obtain ⟨b, off, h1, _⟩ := ItR.at_ h (i := 0) (x := x) rfl
        cases h1
    subst hl
    have q22 : ∀ w, (binOp .eql 22 (.slice none 0 c) (.slice none 0 0)).run Try.prog w = .ok (.bool true) w := fun _ => rfl
    go_enter Try.func41, Try.ntmps41
    go_wp2_with fail
    go_ret
    exact ⟨_, rfl, Lib.hid (RowN.nil _ _ _), Kept.refl _ _⟩
  | some a =>
    have q22 : ∀ w, (binOp .eql 22 (.slice (some a) l.length c) (.slice none 0 0)).run Try.prog w = .ok (.bool false) w := fun _ => rfl
    have k1 : Kept (fun _ => True) w (w.alloc (.cells #[] 30)) := (Kept.refl _ w).alloc _
    have r0 : ItO (w.alloc (.cells #[] 30)) w.heap.size (.slice (some ⟨w.heap.size, 0, none⟩) 0 0) [] := .inr ⟨w.heap.size, 0, #[], rfl, Nat.le_refl _, Blk.new w 30 #[], Nat.le_refl _, by simp, by simp [maxLen], by simp⟩
    obtain ⟨v', w', hr, hro, hkk, _, _⟩ := run_append_rowN (P := Try.prog) (t := 22) (ty := 22) encI (by omega) Try.underlying22 Try.info30 rfl r0 (h.all k1) (by simp [maxLen]; omega) (by simp; omega) (by simp)
    have HRO := Lib.hid hro
    have HK := Lib.hid (k1.trans' hkk fun b hb _ e => by
      have : w.heap.size = b := by simpa [Value.ownBlock] using e
      omega)
    clear hro hkk r0 k1
    go_enter Try.func41, Try.ntmps41
    go_wp2_with (at_builtin; refine wpList_append_run rfl (.tmp 5) (.tmp 6) 22 rfl rfl rfl hr ?_)
    go_ret
    exact ⟨_, rfl, HRO, HK.out⟩
theorem cloneKid_any {A : Option Addr} {n c : Nat} {l : List Kid} (w : World) (h : KdR w (.slice A n c) l) (hn : n ≤ 1000000000) :
    Calls Try.prog 42 #[.slice A n c] w fun e w' => ∃ v, e = .returned v ∧ Hid (KdO w' w.heap.size v l) ∧ Kept (fun _ => True) w w' := by
  have hlen := h.len
  subst hlen
  cases A with
  | none =>
    have hl : l = [] := by
      cases l with
      | nil => rfl
      | cons x l =>
        obtain ⟨b, off, h1, _⟩ := KdR.at_ h (i := 0) (x := x) rfl
        cases h1
    subst hl
    have q22 : ∀ w, (binOp .eql 23 (.slice none 0 c) (.slice none 0 0)).run Try.prog w = .ok (.bool true) w := fun _ => rfl
    go_enter Try.func42, Try.ntmps42
    go_wp2_with fail
    go_ret
    exact ⟨_, rfl, Lib.hid (RowN.nil _ _ _), Kept.refl _ _⟩
  | some a =>
    have q22 : ∀ w, (binOp .eql 23 (.slice (some a) l.length c) (.slice none 0 0)).run Try.prog w = .ok (.bool false) w := fun _ => rfl
    have k1 : Kept (fun _ => True) w (w.alloc (.cells #[] 41)) := (Kept.refl _ w).alloc _
    have r0 : KdO (w.alloc (.cells #[] 41)) w.heap.size (.slice (some ⟨w.heap.size, 0, none⟩) 0 0) [] := .inr ⟨w.heap.size, 0, #[], rfl, Nat.le_refl _, Blk.new w 41 #[], Nat.le_refl _, by simp, by simp [maxLen], by simp⟩
    obtain ⟨v', w', hr, hro, hkk, _, _⟩ := run_append_rowN (P := Try.prog) (t := 23) (ty := 23) encK (by omega) Try.underlying23 Try.info41 rfl r0 (h.all k1) (by simp [maxLen]; omega) (by simp; omega) (by simp)
    have HRO := Lib.hid hro
    have HK := Lib.hid (k1.trans' hkk fun b hb _ e => by
      have : w.heap.size = b := by simpa [Value.ownBlock] using e
      omega)
    clear hro hkk r0 k1
    go_enter Try.func42, Try.ntmps42
    go_wp2_with (at_builtin; refine wpList_append_run rfl (.tmp 5) (.tmp 6) 23 rfl rfl rfl hr ?_)
    go_ret
    exact ⟨_, rfl, HRO, HK.out⟩
/-- A page's seven cells, stored. -/
def set7 (W : World) (g : Nat) (a0 a1 a2 a3 a4 a5 a6 : Value) : World :=
  ((((((W.setCell ⟨g, 0, none⟩ a0).setCell ⟨g, 1, none⟩ a1).setCell ⟨g, 2, none⟩ a2).setCell ⟨g, 3, none⟩ a3).setCell ⟨g, 4, none⟩ a4).setCell ⟨g, 5, none⟩ a5).setCell ⟨g, 6, none⟩ a6
theorem set7_blk {W : World} {g : Nat} {t : TypeId} {b0 b1 b2 b3 b4 b5 b6 : Value} (h : Blk W g t #[b0, b1, b2, b3, b4, b5, b6]) (a0 a1 a2 a3 a4 a5 a6 : Value) : Blk (set7 W g a0 a1 a2 a3 a4 a5 a6) g t #[a0, a1, a2, a3, a4, a5, a6] :=
  ((((((h.set_ 0 a0).set_ 1 a1).set_ 2 a2).set_ 3 a3).set_ 4 a4).set_ 5 a5).set_ 6 a6
theorem set7_kept (W : World) (g : Nat) (a0 a1 a2 a3 a4 a5 a6 : Value) : Kept (fun b => b ≠ g) W (set7 W g a0 a1 a2 a3 a4 a5 a6) :=
  (((((((Kept.refl _ W).setCell (fun _ h => h rfl) _).setCell (fun _ h => h rfl) _).setCell (fun _ h => h rfl) _).setCell (fun _ h => h rfl) _).setCell (fun _ h => h rfl) _).setCell (fun _ h => h rfl) _).setCell (fun _ h => h rfl) _
/-- A page in memory of its own. -/
theorem own_any (p : Page) {iA kA : Option Addr} {ic kc : Nat} (w : World) (hi : ItR w (.slice iA p.items.length ic) p.items) (hk : KdR w (.slice kA p.kids.length kc) p.kids) (hn : p.items.length ≤ 1000000000) (hm : p.kids.length ≤ 1000000000) :
    Calls Try.prog 25 #[pv p (.slice iA p.items.length ic) (.slice kA p.kids.length kc)] w fun e w' => ∃ iv kv, e = .returned (pv p iv kv) ∧ Hid (ItO w' w.heap.size iv p.items) ∧ Hid (KdO w' w.heap.size kv p.kids) ∧ Kept (fun _ => True) w w' := by
  have h41 : ∀ W, Kept (fun _ => True) w W → Calls Try.prog 41 #[.slice iA p.items.length ic] W fun e w' => ∃ A c, e = .returned (.slice A p.items.length c) ∧ Hid (ItO w' W.heap.size (.slice A p.items.length c) p.items) ∧ Kept (fun _ => True) W w' := fun W hW => (cloneItem_any W (hi.all hW) hn).mono fun e w' ⟨v, he, ho, hk⟩ => by
    obtain ⟨A, c, rfl⟩ := ho.out.form
    exact ⟨A, c, he, ho, hk⟩
  have h42 : ∀ W, Kept (fun _ => True) w W → Calls Try.prog 42 #[.slice kA p.kids.length kc] W fun e w' => ∃ A c, e = .returned (.slice A p.kids.length c) ∧ Hid (KdO w' W.heap.size (.slice A p.kids.length c) p.kids) ∧ Kept (fun _ => True) W w' := fun W hW => (cloneKid_any W (hk.all hW) hm).mono fun e w' ⟨v, he, ho, hk⟩ => by
    obtain ⟨A, c, rfl⟩ := ho.out.form
    exact ⟨A, c, he, ho, hk⟩
  clear hi hk
  unfold pv
  revert h41 h42
  generalize hil : p.items.length = n
  generalize hkl : p.kids.length = m
  intro h41 h42
  generalize p.level = lv
  generalize p.low = lo
  generalize p.high = hi
  generalize p.last = la
  generalize p.side = sd
  clear hil hkl hn hm
  go_enter Try.func25, Try.ntmps25
  have hB := (Blk.new w 25 #[.int .i64 lv, .string lo, .string hi, .bool la, .int .i64 sd, .slice iA n ic, .slice kA m kc]).alloc (.cells #[.int .i64 0, .string ⟨#[]⟩, .string ⟨#[]⟩, .bool false, .int .i64 0, .slice none 0 0, .slice none 0 0] 25)
  have hR : Blk ((w.alloc (.cells #[.int .i64 lv, .string lo, .string hi, .bool la, .int .i64 sd, .slice iA n ic, .slice kA m kc] 25)).alloc (.cells #[.int .i64 0, .string ⟨#[]⟩, .string ⟨#[]⟩, .bool false, .int .i64 0, .slice none 0 0, .slice none 0 0] 25)) (w.heap.size + 1) 25 #[.int .i64 0, .string ⟨#[]⟩, .string ⟨#[]⟩, .bool false, .int .i64 0, .slice none 0 0, .slice none 0 0] := by
    have := Blk.new (w.alloc (.cells #[.int .i64 lv, .string lo, .string hi, .bool la, .int .i64 sd, .slice iA n ic, .slice kA m kc] 25)) 25 #[.int .i64 0, .string ⟨#[]⟩, .string ⟨#[]⟩, .bool false, .int .i64 0, .slice none 0 0, .slice none 0 0]
    simpa using this
  have k0 : Kept (fun _ => True) w ((w.alloc (.cells #[.int .i64 lv, .string lo, .string hi, .bool la, .int .i64 sd, .slice iA n ic, .slice kA m kc] 25)).alloc (.cells #[.int .i64 0, .string ⟨#[]⟩, .string ⟨#[]⟩, .bool false, .int .i64 0, .slice none 0 0, .slice none 0 0] 25)) := ((Kept.refl _ w).alloc _).alloc _
  have hs0 : ((w.alloc (.cells #[.int .i64 lv, .string lo, .string hi, .bool la, .int .i64 sd, .slice iA n ic, .slice kA m kc] 25)).alloc (.cells #[.int .i64 0, .string ⟨#[]⟩, .string ⟨#[]⟩, .bool false, .int .i64 0, .slice none 0 0, .slice none 0 0] 25)).heap.size = w.heap.size + 2 := by simp
  go_upto_region 1 with fail
  generalize (w.alloc (.cells #[.int .i64 lv, .string lo, .string hi, .bool la, .int .i64 sd, .slice iA n ic, .slice kA m kc] 25)).alloc (.cells #[.int .i64 0, .string ⟨#[]⟩, .string ⟨#[]⟩, .bool false, .int .i64 0, .slice none 0 0, .slice none 0 0] 25) = W0 at hB hR k0 hs0 ⊢
  have b5 := hB.cell 5
  have b6 := hB.cell 6
  have HB := Lib.hid hB
  have HR := Lib.hid hR
  have K0 := Lib.hid k0
  have HS := Lib.hid hs0
  clear hB hR k0 hs0
  have d5 : W0.drew.cell? ⟨w.heap.size, 5, none⟩ = some (.slice iA n ic) := b5
  have d6 : W0.drew.cell? ⟨w.heap.size, 6, none⟩ = some (.slice kA m kc) := b6
  clear b5 b6
  go_region_law (first
    | ((try go_simp); go_at_call 41; refine (h41 _ K0.out.drew).mono ?_; rintro e w1 ⟨A1, c1, rfl, HI, hk1⟩; have c5 := hk1.cellv d5; have c6 := hk1.cellv d6; have HK1 := Lib.hid hk1; clear hk1)
    | ((try go_simp); go_at_call 42; refine (h42 _ (K0.out.drew.trans HK1.out)).mono ?_; rintro e w2 ⟨A2, c2, rfl, HK, hk2⟩; have HK2 := Lib.hid (HK1.out.trans hk2); have hB2 := HB.out.drew.kept HK2.out trivial; have f5 := hB2.frozen 5; have f6 := hB2.frozen 6; have e5 := hB2.cell 5; have e6 := hB2.cell 6; have HB2 := Lib.hid hB2; have HK3 := Lib.hid hk2; clear hk2 hB2))
  all_goals
    have hB3 := (HB2.out.set_ 5 (.slice A1 n c1)).set_ 6 (.slice A2 m c2)
    have hR2 : Blk w2 (w.heap.size + 1) 25 _ := HR.out.drew.kept HK2.out trivial
    have hR3 := (hR2.far (p := ⟨w.heap.size, 5, none⟩) (by show w.heap.size + 1 ≠ w.heap.size; omega) (.slice A1 n c1)).far (p := ⟨w.heap.size, 6, none⟩) (by show w.heap.size + 1 ≠ w.heap.size; omega) (.slice A2 m c2)
    have kW : Kept (fun b => b ≠ w.heap.size) w2 ((w2.setCell ⟨w.heap.size, 5, none⟩ (.slice A1 n c1)).setCell ⟨w.heap.size, 6, none⟩ (.slice A2 m c2)) := ((Kept.refl _ w2).setCell (fun _ h => h rfl) _).setCell (fun _ h => h rfl) _
    generalize (w2.setCell ⟨w.heap.size, 5, none⟩ (.slice A1 n c1)).setCell ⟨w.heap.size, 6, none⟩ (.slice A2 m c2) = W3 at hB3 hR3 kW ⊢
    have hW0 : w.heap.size + 2 ≤ W0.drew.heap.size := Nat.le_of_eq HS.out.symm
    have hW1 : w.heap.size + 2 ≤ w1.heap.size := Nat.le_trans hW0 HK1.out.size
    have HI3 := Lib.hid ((HI.out.all HK3.out).kept kW fun g hg => by
      have := HI.out.lt hg
      omega)
    have HK3' := Lib.hid (HK.out.kept kW fun g hg => by
      have := HK.out.lt hg
      omega)
    have KW := Lib.hid ((K0.out.drew.trans HK2.out).trans' kW fun b hb _ => by omega)
    have r0 : W3.cell? ⟨w.heap.size, 0, none⟩ = some (.int .i64 lv) := hB3.cell 0
    have r1 : W3.cell? ⟨w.heap.size, 1, none⟩ = some (.string lo) := hB3.cell 1
    have r2 : W3.cell? ⟨w.heap.size, 2, none⟩ = some (.string hi) := hB3.cell 2
    have r3 : W3.cell? ⟨w.heap.size, 3, none⟩ = some (.bool la) := hB3.cell 3
    have r4 : W3.cell? ⟨w.heap.size, 4, none⟩ = some (.int .i64 sd) := hB3.cell 4
    have r5 : W3.cell? ⟨w.heap.size, 5, none⟩ = some (.slice A1 n c1) := hB3.cell 5
    have r6 : W3.cell? ⟨w.heap.size, 6, none⟩ = some (.slice A2 m c2) := hB3.cell 6
    have z0 := hR3.cell 0
    have z1 := hR3.cell 1
    have z2 := hR3.cell 2
    have z3 := hR3.cell 3
    have z4 := hR3.cell 4
    have z5 := hR3.cell 5
    have z6 := hR3.cell 6
    have y0 := hR3.frozen 0
    have y1 := hR3.frozen 1
    have y2 := hR3.frozen 2
    have y3 := hR3.frozen 3
    have y4 := hR3.frozen 4
    have y5 := hR3.frozen 5
    have y6 := hR3.frozen 6
    have hV := set7_blk hR3 (.int .i64 lv) (.string lo) (.string hi) (.bool la) (.int .i64 sd) (.slice A1 n c1) (.slice A2 m c2)
    have kV := set7_kept W3 (w.heap.size + 1) (.int .i64 lv) (.string lo) (.string hi) (.bool la) (.int .i64 sd) (.slice A1 n c1) (.slice A2 m c2)
    unfold set7 at hV kV
    have HV := Lib.hid hV
    have KV := Lib.hid kV
    clear hV kV hB3 hR3 hR2 kW h41 h42 c5 c6 d5 d6 e5 e6 f5 f6
    go_wp2_with fail
    generalize ((((((W3.setCell ⟨w.heap.size + 1, 0, none⟩ (.int .i64 lv)).setCell ⟨w.heap.size + 1, 1, none⟩ (.string lo)).setCell ⟨w.heap.size + 1, 2, none⟩ (.string hi)).setCell ⟨w.heap.size + 1, 3, none⟩ (.bool la)).setCell ⟨w.heap.size + 1, 4, none⟩ (.int .i64 sd)).setCell ⟨w.heap.size + 1, 5, none⟩ (.slice A1 n c1)).setCell ⟨w.heap.size + 1, 6, none⟩ (.slice A2 m c2) = V at HV KV ⊢
    have v0 := HV.out.cell 0
    have v1 := HV.out.cell 1
    have v2 := HV.out.cell 2
    have v3 := HV.out.cell 3
    have v4 := HV.out.cell 4
    have v5 := HV.out.cell 5
    have v6 := HV.out.cell 6
    clear r0 r1 r2 r3 r4 r5 r6 z0 z1 z2 z3 z4 z5 z6 y0 y1 y2 y3 y4 y5 y6
    refine bodyPost_ret (v := .agg #[.int .i64 lv, .string lo, .string hi, .bool la, .int .i64 sd, .slice A1 n c1, .slice A2 m c2]) ?_ rfl ⟨.slice A1 n c1, .slice A2 m c2, rfl, Lib.hid ((HI3.out.kept KV.out fun g hg => ?_).low (by omega)), Lib.hid ((HK3'.out.kept KV.out fun g hg => ?_).low (by omega)), KW.out.trans' KV.out fun b hb _ => by omega⟩
    · have hres : Try.f25.results = #[.cell 2 25] := rfl
      unfold results
      rw [hres]
      go_simp
      try rfl
    · have := HI3.out.lt hg
      omega
    · have := HK3'.out.lt hg
      omega
end Ytfoolgojcmkdbaa
end Go.Proofs
