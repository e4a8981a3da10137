/-
  Safe.
-/
import Derived.Test.YtbefknaffopeaaaEnter
set_option maxHeartbeats 400000
namespace Go.Proofs
open Go.RowKit
namespace Ytbefknaffopeaaa
def Gho.ons (g : Gho) : Nat → Gho
  | 0 => g
  | n + 1 => (Gho.ons g n).on Tal.load
def safeStep (out n : Int) : Int := if n = 0 then out else if n < out then n else out
def safeTo (now : Int) (cells : List Int) (k : Nat) : Int := (cells.take k).foldl safeStep now
def safeOf (S : St) : Int := S.cells.foldl safeStep S.now
theorem safeTo_succ (now : Int) (cells : List Int) (k : Nat) (n : Int) (h : cells[k]? = some n) : safeTo now cells (k + 1) = safeStep (safeTo now cells k) n := by
  obtain ⟨hk, e⟩ := List.getElem?_eq_some_iff.1 h
  unfold safeTo
  rw [List.take_succ_eq_append_getElem hk, List.foldl_append, e]
  rfl
section
variable {w : World} {base : Nat} {L : Lay} {S : St}
theorem safe_any (h : Rep w base L S) :
    Calls Try.prog 15 #[.pointer (some ⟨L.eb, 0, none⟩)] w fun e w' => e = .returned (.int .i64 (safeOf S)) ∧
      Rep w' base L { S with g := (S.g.on Tal.load).ons L.ints.length } ∧ Kept (fun b => ¬ L.foot b) w w' := by
  obtain ⟨t, ht, hg⟩ := h.getNow
  have h1 := h.count Tal.load ht hg (i := 0) (u := .int .i64 t.load.l) rfl
  have e0 : w.cell? ⟨L.eb, 0, none⟩ = some (.pointer (some ⟨L.nb, 0, none⟩)) := by rw [Blk.cell h.eblk]; rfl
  have KP := keep_cnt (i := 0) (u := .int .i64 t.load.l) h.ks_now (Kept.refl _ w)
  obtain ⟨w1, hw1⟩ : ∃ w1, w.setCell ⟨L.nk, 0, none⟩ (.int .i64 t.load.l) = w1 := ⟨_, rfl⟩
  rw [hw1] at h1 KP
  have HW1 := Lib.hid hw1
  clear hw1
  have e1 : w1.cell? ⟨L.eb, 1, none⟩ = some L.cv := by rw [Blk.cell h1.eblk]; rfl
  have hle := h.le
  have hlc := Lib.hid h.lc
  have hpos := h.one
  obtain ⟨cg, cap, hcv⟩ := h.pos hpos
  have HCV := Lib.hid hcv
  have hcvw := h1.cv
  rw [hcv] at e1 hcvw
  clear hcv
  go_enter Try.func15, Try.ntmps15
  go_wp2_with fail
  refine (iload_any L.nb L.nk _ S.now t (by exact h.now) (by exact ht)).mono ?_
  rintro e w' ⟨rfl, hw'⟩
  replace hw' := hw'.trans HW1.out
  subst hw'
  go_wp2_with fail
  go_loopw [3, 17] (fun o i wr => ∃ k : Nat, k ≤ L.ints.length ∧ i = .int .i64 k ∧ o = .int .i64 (safeTo S.now S.cells k) ∧ Rep wr base L { S with g := (S.g.on Tal.load).ons k } ∧ Kept (fun b => ¬ L.foot b) w wr)
    (fun _ i _ => L.ints.length - (intOf i).toNat)
  case atStart => exact ⟨0, Nat.zero_le _, rfl, rfl, h1, KP⟩
  case round =>
    obtain ⟨k, hk, rfl, rfl, hr, hkp⟩ := hrel
    by_cases hlt : k < L.ints.length
    · have hp : L.ints[k]? = some L.ints[k] := List.getElem?_eq_getElem hlt
      obtain ⟨p, hpp⟩ : ∃ p, L.ints[k]? = some p := ⟨_, hp⟩
      clear hp
      obtain ⟨tk, htk, hgk⟩ := hr.getInt hpp
      obtain ⟨c, hc⟩ : ∃ c, S.cells[k]? = some c := ⟨_, List.getElem?_eq_getElem (by rw [hlc.out]; exact hlt)⟩
      have hI := hr.int k p c hpp hc
      have hS := Lib.hid (safeTo_succ S.now S.cells k c hc)
      have hr1 := hr.count Tal.load htk hgk (i := 0) (u := .int .i64 tk.load.l) rfl
      have KP1 := keep_cnt (i := 0) (u := .int .i64 tk.load.l) (hr.ks_int hpp) hkp
      obtain ⟨_, _, K2⟩ := hr.loads HCV.out hpp
      have HP := Lib.hid hpp
      have HC := Lib.hid hc
      clear hpp hc
      by_cases hcz : c = 0
      · have hnz : (c != 0) = false := by rw [hcz]; rfl
        have HZ := Lib.hid hcz
        clear hcz
        go_wp2_with fail
        refine (iload_any p.1 p.2 _ c tk (by exact hI) (by exact htk)).mono ?_
        rintro e w' ⟨rfl, rfl⟩
        go_wp2_with fail
        go_roundw
        case rel => exact ⟨k + 1, by omega, by go_num, by rw [hS.out, HZ.out]; simp [safeStep], hr1, KP1⟩
        case measure => simp [intOf]; omega
      · have hnz : (c != 0) = true := by rw [bne_iff_ne]; exact hcz
        go_wp2_with fail
        refine (iload_any p.1 p.2 _ c tk (by exact hI) (by exact htk)).mono ?_
        rintro e w' ⟨rfl, rfl⟩
        go_wp2_with fail
        go_roundw
        case rel => exact ⟨k + 1, by omega, by go_num, by rw [hS.out]; simp [safeStep, hcz], hr1, KP1⟩
        case measure => simp [intOf]; omega
    · obtain rfl : k = L.ints.length := by omega
      go_wp2_with fail
      go_ret
      refine ⟨?_, hr, hkp⟩
      rw [safeTo, List.take_of_length_le (by rw [hlc.out]; exact Nat.le_refl _)]
      rfl
end
end Ytbefknaffopeaaa
end Go.Proofs
