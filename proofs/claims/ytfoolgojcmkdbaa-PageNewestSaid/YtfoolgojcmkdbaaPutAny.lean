/-
  Put, of whatever page that may be, and whatever item.
-/
import Derived.Test.YtfoolgojcmkdbaaPuts
import Derived.Test.YtfoolgojcmkdbaaPutNo
import Derived.Test.YtfoolgojcmkdbaaPutOld
import Derived.Test.YtfoolgojcmkdbaaPutUpd
import Derived.Test.YtfoolgojcmkdbaaInsGrow
import Derived.Test.YtfoolgojcmkdbaaHalvesWalk
set_option maxHeartbeats 4000000
namespace Go.Proofs
open Go.RowKit
namespace Ytfoolgojcmkdbaa
def zero : Page := ⟨0, ⟨#[]⟩, ⟨#[]⟩, false, 0, [], []⟩
/-- What comes of a Put: the page and the error. -/
def PutIs (p : Page) (x : Item) (q : Page) (er : Int) : Prop :=
  (er = 0 ∧ takes p x = true ∧ q = { p with items := putF p.items x } ∧ check q = true) ∨ (er ≠ 0 ∧ (takes p x = true → 120 ≤ p.items.length))
theorem check_put {p : Page} {x : Item} (hck : check p = true) (ht : takes p x = true) (hl : (putF p.items x).length ≤ 120) : check { p with items := putF p.items x } = true := by
  have h0 := check_iff.1 hck
  unfold takes at ht
  simp only [Bool.and_eq_true, Bool.not_eq_true', decide_eq_true_eq] at ht
  have hL := h0.2.1 ht.2.1
  refine check_iff.2 ⟨h0.1, fun _ => ⟨hL.kids, hl, ?_, sorted_put hL.sorted, ?_⟩, fun h => absurd ht.2.1 h⟩
  · rw [List.any_eq_false]
    intro z hz
    rcases mem_put hz with hz | rfl
    · exact List.any_eq_false.1 hL.good z hz
    · rw [ht.1]
      exact Bool.false_ne_true
  · intro k hk
    obtain ⟨z, hz, rfl⟩ := List.mem_map.1 hk
    rcases mem_put hz with hz | rfl
    · exact hL.cov _ (List.mem_map_of_mem hz)
    · exact ht.2.2
theorem put_any (p : Page) (x : Item) {iA kA : Option Addr} {ic kc : Nat} (w : World) (hi : ItR w (.slice iA p.items.length ic) p.items) (hk : KdR w (.slice kA p.kids.length kc) p.kids) (hck : check p = true) :
    Calls Try.prog 9 #[pv p (.slice iA p.items.length ic) (.slice kA p.kids.length kc), .agg (ics x).toArray] w fun e w' => ∃ q er A c A' c', e = .returned (.tuple #[pv q (.slice A q.items.length c) (.slice A' q.kids.length c'), .int .i64 er]) ∧
      Hid (PutIs p x q er) ∧ Hid (ItO w' 0 (.slice A q.items.length c) q.items) ∧ Hid (KdO w' 0 (.slice A' q.kids.length c') q.kids) ∧ Kept (fun _ => True) w w' := by
  have hc := check_iff.1 hck
  have hn : p.items.length ≤ 120 := by
    by_cases h : p.level = 0
    · exact (hc.2.1 h).len
    · rw [(hc.2.2 h).items]; simp
  have hm : p.kids.length ≤ 120 := by
    by_cases h : p.level = 0
    · rw [(hc.2.1 h).kids]; simp
    · exact (hc.2.2 h).len.2
  by_cases hbad : badItem x = true
  · refine (put_bad p x _ _ w hbad).mono ?_
    rintro e w' ⟨rfl, hk'⟩
    exact ⟨zero, 100, none, 0, none, 0, rfl, Lib.hid (.inr ⟨by decide, fun h => by unfold takes at h; rw [hbad] at h; cases h⟩), Lib.hid (RowN.nil _ _ _), Lib.hid (RowN.nil _ _ _), hk'⟩
  rw [Bool.not_eq_true] at hbad
  obtain ⟨i0, f0, hat⟩ : ∃ i0 f0, At (p.items.map (·.key)) x.key i0 f0 := at_ex (check_sortedI hck) x.key
  by_cases hno : p.level ≠ 0 ∨ covers p x.key = false ∨ (f0 = false ∧ 120 ≤ p.items.length)
  · refine (put_out p x w hi hk hbad hck hn hm hat hno).mono ?_
    rintro e w' ⟨rfl, hk'⟩
    refine ⟨zero, 103, none, 0, none, 0, rfl, Lib.hid (.inr ⟨by decide, fun h => ?_⟩), Lib.hid (RowN.nil _ _ _), Lib.hid (RowN.nil _ _ _), hk'⟩
    unfold takes at h
    simp only [Bool.and_eq_true, Bool.not_eq_true', decide_eq_true_eq] at h
    rcases hno with h1 | h1 | h1
    · exact absurd h.2.1 h1
    · rw [h.2.2] at h1; cases h1
    · exact h1.2
  have hlv : p.level = 0 := Classical.byContradiction fun h => hno (.inl h)
  have hcov : covers p x.key = true := by
    cases h : covers p x.key with
    | true => rfl
    | false => exact absurd (.inr (.inl h)) hno
  have ht : takes p x = true := by
    unfold takes
    rw [hbad, hcov, hlv]
    rfl
  cases f0 with
  | false =>
    have hlen : p.items.length < 120 := by
      rcases Nat.lt_or_ge p.items.length 120 with h | h
      · exact h
      · exact absurd (.inr (.inr ⟨rfl, h⟩)) hno
    have he := putF_new hat
    have hl : (putF p.items x).length = p.items.length + 1 := by
      rw [he]
      have := hat.le
      simp at this ⊢
      omega
    refine (put_new p x w hi hk hbad hck hlv hcov hlen hat (insert_any p.items x i0 (by simpa using hat.le) (by omega))).mono ?_
    rintro e w' ⟨A, c, A', c', rfl, hI, hK, hk'⟩
    refine ⟨{ p with items := putF p.items x }, 0, A, c, A', c', by rw [← hl]; rfl, Lib.hid (.inl ⟨rfl, ht, rfl, check_put hck ht (by omega)⟩), ?_, Lib.hid (hK.out.low (Nat.zero_le _)), hk'⟩
    · have := hI.out.low (Nat.zero_le _)
      rw [← he, ← hl] at this
      exact Lib.hid this
  | true =>
    obtain ⟨y, hy⟩ : ∃ y, p.items[i0]? = some y := by
      have := hat.is
      have h2 : (p.items.map (·.key))[i0]? = some x.key := by simpa using this
      rw [List.getElem?_map] at h2
      cases h3 : p.items[i0]? with
      | none => rw [h3] at h2; cases h2
      | some y => exact ⟨y, rfl⟩
    have he := putF_old hat hy
    have hl : (putF p.items x).length = p.items.length := by rw [he, List.length_set]
    by_cases hno' : x.no ≤ y.no
    · refine (put_old p x w hi hk hbad hck hlv hcov hat hy hno').mono ?_
      rintro e w' ⟨A, c, A', c', rfl, hI, hK, hk'⟩
      have he2 : putF p.items x = p.items := by
        rw [he]
        unfold up
        rw [if_pos hno']
        obtain ⟨h, rfl⟩ := List.getElem?_eq_some_iff.1 hy
        exact List.set_getElem_self h
      refine ⟨{ p with items := putF p.items x }, 0, A, c, A', c', by rw [he2], Lib.hid (.inl ⟨rfl, ht, rfl, check_put hck ht (by omega)⟩), ?_, Lib.hid (hK.out.low (Nat.zero_le _)), hk'⟩
      · have := hI.out.low (Nat.zero_le _)
        show Hid (ItO w' 0 (.slice A (putF p.items x).length c) (putF p.items x))
        rw [he2]
        exact Lib.hid this
    · refine (put_upd p x w hi hk hbad hck hlv hcov hat hy (by omega)).mono ?_
      rintro e w' ⟨A, c, A', c', rfl, hI, hK, hk'⟩
      have he2 : putF p.items x = p.items.set i0 x := by
        rw [he]
        unfold up
        rw [if_neg hno']
      refine ⟨{ p with items := putF p.items x }, 0, A, c, A', c', by rw [← hl]; rfl, Lib.hid (.inl ⟨rfl, ht, rfl, check_put hck ht (by omega)⟩), ?_, Lib.hid (hK.out.low (Nat.zero_le _)), hk'⟩
      · have := hI.out.low (Nat.zero_le _)
        rw [← he2, ← hl] at this
        exact Lib.hid this
end Ytfoolgojcmkdbaa
end Go.Proofs
