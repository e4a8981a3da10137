/-
  Enter, Exit, Bump.
-/
import Derived.Test.YtbefknaffopeaaaSteps
import Derived.Test.YtbefknaffopeaaaIs
import Derived.Deep.RegionHeld3
import Derived.Deep.DrawnRows
set_option maxHeartbeats 400000
namespace Go.Proofs
open Go.RowKit
namespace Ytbefknaffopeaaa
attribute [local go_sem ↓] Go.wp_at_zero Go.wp_at_succ
section
variable {w : World} {base : Nat} {L : Lay} {S : St}
theorem enter_no (c : Int) (hi : Calls Try.prog 27 #[.pointer (some ⟨L.eb, 0, none⟩), .int .i64 c, .bool false] w fun e w' => e = .returned (.bool false) ∧ w = w') :
    Calls Try.prog 9 #[.pointer (some ⟨L.eb, 0, none⟩), .int .i64 c] w fun e w' => e = .returned (.int .i64 1) ∧ w = w' := by
  have HI := Lib.hid hi
  clear hi
  go_enter Try.func9, Try.ntmps9
  go_wp2_with fail
  refine HI.out.mono ?_
  rintro e w' ⟨rfl, rfl⟩
  go_wp2_with fail
  go_ret
  exact ⟨rfl, rfl⟩

/-- The cells that Enter and Exit load. -/
theorem Rep.loads (h : Rep w base L S) {c cg cap : Nat} {p : Nat × Nat} (hcv : L.cv = .slice (some ⟨cg, 0, none⟩) L.ints.length cap) (hp : L.ints[c]? = some p) :
    w.cell? ⟨L.eb, 0, none⟩ = some (.pointer (some ⟨L.nb, 0, none⟩)) ∧ w.cell? ⟨L.eb, 1, none⟩ = some (.slice (some ⟨cg, 0, none⟩) L.ints.length cap) ∧ w.cell? ⟨cg, c, none⟩ = some (.pointer (some ⟨p.1, 0, none⟩)) := by
  have hlt : c < L.ints.length := (List.getElem?_eq_some_iff.1 hp).1
  refine ⟨by rw [Blk.cell h.eblk]; rfl, by rw [Blk.cell h.eblk, ← hcv]; rfl, ?_⟩
  have := h.cv
  rw [hcv] at this
  rw [this.cellAt c (by omega)]
  simp [hp, ptrOf]

theorem keep_cnt {w : World} {L : Lay} {k i : Nat} {u : Value} (hk : k ∈ L.ks) {w0 : World} (h : Kept (fun b => ¬ L.foot b) w0 w) : Kept (fun b => ¬ L.foot b) w0 (w.setCell ⟨k, i, none⟩ u) :=
  h.setCell (fun _ hn => hn (.inr (.inr (.inr (.inl hk))))) u
theorem keep_int {w : World} {L : Lay} {i : Nat} {u : Value} {j : Nat} {p : Nat × Nat} (hp : L.ints[j]? = some p) {w0 : World} (h : Kept (fun b => ¬ L.foot b) w0 w) : Kept (fun b => ¬ L.foot b) w0 (w.setCell ⟨p.1, i, none⟩ u) :=
  h.setCell (fun _ hn => hn (.inr (.inr (.inl ⟨p, List.mem_of_getElem? hp, rfl⟩)))) u
theorem keep_in {w : World} {L : Lay} {i : Nat} {u : Value} {w0 : World} (h : Kept (fun b => ¬ L.foot b) w0 w) : Kept (fun b => ¬ L.foot b) w0 (w.setCell ⟨L.inb, i, none⟩ u) :=
  h.setCell (fun _ hn => hn (.inr (.inr (.inr (.inr (.inr (.inl rfl))))))) u
theorem keep_now {w : World} {L : Lay} {i : Nat} {u : Value} {w0 : World} (h : Kept (fun b => ¬ L.foot b) w0 w) : Kept (fun b => ¬ L.foot b) w0 (w.setCell ⟨L.nb, i, none⟩ u) :=
  h.setCell (fun _ hn => hn (.inr (.inl rfl))) u

/-- A client that is out goes in. -/
theorem enter_yes (h : Rep w base L S) (c : Nat) (hb : S.ins[c]? = some false) :
    Calls Try.prog 9 #[.pointer (some ⟨L.eb, 0, none⟩), .int .i64 c] w fun e w' => e = .returned (.int .i64 0) ∧
      Rep w' base L { S with cells := S.cells.set c S.now, ins := S.ins.set c true, g := (S.g.on Tal.load).on Tal.store } ∧ Kept (fun b => ¬ L.foot b) w w' := by
  have hlt : c < L.ints.length := by
    rw [← h.li]
    exact (List.getElem?_eq_some_iff.1 hb).1
  have hlt' : (c : Int) < (L.ints.length : Int) := by omega
  obtain ⟨cg, cap, hcv⟩ := h.pos hlt
  have hp : L.ints[c]? = some L.ints[c] := List.getElem?_eq_getElem hlt
  obtain ⟨p, hpp⟩ : ∃ p, L.ints[c]? = some p := ⟨_, hp⟩
  clear hp
  obtain ⟨t, ht, hg⟩ := h.getNow
  have HI := Lib.hid (is_at h c false false hb)
  have h1 := h.count Tal.load ht hg (i := 0) (u := .int .i64 t.load.l) rfl
  obtain ⟨t2, ht2, hg2⟩ := h1.getInt hpp
  have hcl : c < S.cells.length := by rw [h.lc]; exact hlt
  have hI2 := h1.int c p _ hpp (List.getElem?_eq_getElem hcl)
  have h2 := h1.count Tal.store ht2 hg2 (i := 1) (u := .int .i64 t2.store.s) rfl
  have h3 := h2.setInt hpp S.now
  have h4 := h3.setIn c true
  have K0 := Lib.hid (h.loads hcv hpp)
  have K1 := Lib.hid (h1.loads hcv hpp)
  have K3 := Lib.hid (h3.loads hcv hpp)
  have B2 := Blk.cell h3.eblk 2
  have B3 := Blk.cell h3.inblk c
  have B3f := Blk.frozen h3.inblk c
  have KP := keep_in (i := c) (u := .bool true) (keep_int (i := 0) (u := .int .i64 S.now) hpp (keep_cnt (i := 1) (u := .int .i64 t2.store.s) (h1.ks_int hpp) (keep_cnt (i := 0) (u := .int .i64 t.load.l) h.ks_now (Kept.refl _ w))))
  have hbi : (S.ins.map Value.bool)[c]? = some (.bool false) := by simp [hb]
  simp only [List.getElem?_toArray, hbi] at B3
  have HB := Lib.hid hb
  have HBI := Lib.hid hbi
  have HCV := Lib.hid hcv
  have HPP := Lib.hid hpp
  clear hb hbi hcv hpp
  simp only [List.getElem?_toArray, List.getElem?_cons_succ, List.getElem?_cons_zero] at B2
  obtain ⟨w3, hw3⟩ : ∃ w3, ((w.setCell ⟨L.nk, 0, none⟩ (.int .i64 t.load.l)).setCell ⟨p.2, 1, none⟩ (.int .i64 t2.store.s)).setCell ⟨p.1, 0, none⟩ (.int .i64 S.now) = w3 := ⟨_, rfl⟩
  rw [hw3] at B2 B3 B3f K3 h4 KP
  have HW3 := Lib.hid hw3
  clear hw3
  go_enter Try.func9, Try.ntmps9
  go_wp2_with fail
  refine (HI.out).mono ?_
  rintro e w' ⟨rfl, rfl⟩
  go_wp2_with fail
  go_region_held3 (fun w' => w'.cell? ⟨L.eb, 0, none⟩ = some (.pointer (some ⟨L.nb, 0, none⟩)) ∧ w'.cell? ⟨L.eb, 1, none⟩ = some (.slice (some ⟨cg, 0, none⟩) L.ints.length cap) ∧ w'.cell? ⟨cg, c, none⟩ = some (.pointer (some ⟨p.1, 0, none⟩))) (first | exact K0.out | exact K1.out | exact K3.out)
    (first
      | (go_at_call 29; refine (iload_any L.nb L.nk _ S.now t (by exact h.now) (by exact ht)).mono ?_; rintro e w' ⟨rfl, rfl⟩)
      | (go_at_call 28; refine (istore_any p.1 p.2 _ _ S.now t2 (by exact hI2) (by exact ht2)).mono ?_; rintro e w' ⟨rfl, hw'⟩; replace hw' := hw'.trans (congrArg World.drew HW3.out); subst hw'))
  go_wp2_with fail
  go_ret
  exact ⟨rfl, h4.drew, KP.drew⟩

theorem exit_no (c : Int) (hi : Calls Try.prog 27 #[.pointer (some ⟨L.eb, 0, none⟩), .int .i64 c, .bool true] w fun e w' => e = .returned (.bool false) ∧ w = w') :
    Calls Try.prog 10 #[.pointer (some ⟨L.eb, 0, none⟩), .int .i64 c] w fun e w' => e = .returned (.int .i64 1) ∧ w = w' := by
  have HI := Lib.hid hi
  clear hi
  go_enter Try.func10, Try.ntmps10
  go_wp2_with fail
  refine HI.out.mono ?_
  rintro e w' ⟨rfl, rfl⟩
  go_wp2_with fail
  go_ret
  exact ⟨rfl, rfl⟩

/-- A client that is in goes out. -/
theorem exit_yes (h : Rep w base L S) (c : Nat) (hb : S.ins[c]? = some true) :
    Calls Try.prog 10 #[.pointer (some ⟨L.eb, 0, none⟩), .int .i64 c] w fun e w' => e = .returned (.int .i64 0) ∧
      Rep w' base L { S with cells := S.cells.set c 0, ins := S.ins.set c false, g := S.g.on Tal.store } ∧ Kept (fun b => ¬ L.foot b) w w' := by
  have hlt : c < L.ints.length := by
    rw [← h.li]
    exact (List.getElem?_eq_some_iff.1 hb).1
  have hlt' : (c : Int) < (L.ints.length : Int) := by omega
  obtain ⟨cg, cap, hcv⟩ := h.pos hlt
  have hp : L.ints[c]? = some L.ints[c] := List.getElem?_eq_getElem hlt
  obtain ⟨p, hpp⟩ : ∃ p, L.ints[c]? = some p := ⟨_, hp⟩
  clear hp
  have HI := Lib.hid (is_at h c true true hb)
  obtain ⟨t2, ht2, hg2⟩ := h.getInt hpp
  have hcl : c < S.cells.length := by rw [h.lc]; exact hlt
  have hI2 := h.int c p _ hpp (List.getElem?_eq_getElem hcl)
  have h2 := h.count Tal.store ht2 hg2 (i := 1) (u := .int .i64 t2.store.s) rfl
  have h3 := h2.setInt hpp 0
  have h4 := h3.setIn c false
  obtain ⟨_, K01, K02⟩ := h.loads hcv hpp
  have B2 := Blk.cell h3.eblk 2
  have B3 := Blk.cell h3.inblk c
  have B3f := Blk.frozen h3.inblk c
  have KP := keep_in (i := c) (u := .bool false) (keep_int (i := 0) (u := .int .i64 0) hpp (keep_cnt (i := 1) (u := .int .i64 t2.store.s) (h.ks_int hpp) (Kept.refl _ w)))
  have hbi : (S.ins.map Value.bool)[c]? = some (.bool true) := by simp [hb]
  simp only [List.getElem?_toArray, hbi] at B3
  have HB := Lib.hid hb
  have HBI := Lib.hid hbi
  have HCV := Lib.hid hcv
  have HPP := Lib.hid hpp
  clear hb hbi hcv hpp
  simp only [List.getElem?_toArray, List.getElem?_cons_succ, List.getElem?_cons_zero] at B2
  obtain ⟨w3, hw3⟩ : ∃ w3, (w.setCell ⟨p.2, 1, none⟩ (.int .i64 t2.store.s)).setCell ⟨p.1, 0, none⟩ (.int .i64 0) = w3 := ⟨_, rfl⟩
  rw [hw3] at B2 B3 B3f h4 KP
  have HW3 := Lib.hid hw3
  clear hw3
  go_enter Try.func10, Try.ntmps10
  go_wp2_with fail
  refine (HI.out).mono ?_
  rintro e w' ⟨rfl, rfl⟩
  go_wp2_with fail
  refine (istore_any p.1 p.2 _ _ 0 t2 (by exact hI2) (by exact ht2)).mono ?_
  rintro e w' ⟨rfl, hw'⟩
  replace hw' := hw'.trans HW3.out
  subst hw'
  go_wp2_with fail
  go_ret
  exact ⟨rfl, h4, KP⟩

/-- On to the next epoch. -/
theorem bump_any (h : Rep w base L S) :
    Calls Try.prog 12 #[.pointer (some ⟨L.eb, 0, none⟩)] w fun e w' => e = .returned (.int .i64 (wrap64 (S.now + 1))) ∧
      Rep w' base L { S with now := wrap64 (S.now + 1), g := S.g.on Tal.add } ∧ Kept (fun b => ¬ L.foot b) w w' := by
  obtain ⟨t, ht, hg⟩ := h.getNow
  have hN := h.now
  have h2 := h.count Tal.add ht hg (i := 4) (u := .int .i64 t.add.a) rfl
  have h3 := h2.setNow (wrap64 (S.now + 1))
  have e0 : w.cell? ⟨L.eb, 0, none⟩ = some (.pointer (some ⟨L.nb, 0, none⟩)) := by rw [Blk.cell h.eblk]; rfl
  have KP := keep_now (i := 0) (u := .int .i64 (wrap64 (S.now + 1))) (keep_cnt (i := 4) (u := .int .i64 t.add.a) h.ks_now (Kept.refl _ w))
  go_enter Try.func12, Try.ntmps12
  go_wp2_with fail
  refine (iadd_any L.nb L.nk _ S.now _ t (by exact hN) (by exact ht)).mono ?_
  rintro e w' ⟨rfl, rfl⟩
  go_wp2_with fail
  go_ret
  exact ⟨rfl, h3, KP⟩
end
end Ytbefknaffopeaaa
end Go.Proofs
