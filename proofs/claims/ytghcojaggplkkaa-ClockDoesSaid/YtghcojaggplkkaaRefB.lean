/-
  The reference's clock: frames; New, at, Touch, Resident.
-/
import Derived.Test.YtghcojaggplkkaaRowS
import Derived.Test.YtghcojaggplkkaaTurnsPure
set_option maxHeartbeats 1000000
namespace Go.Proofs
open Go.RowKit
theorem Try.cells49 : Try.prog.cellsOf 49 = 8 := by kernel_rfl
theorem Try.cells69 : Try.prog.cellsOf 69 = 3 := by kernel_rfl
namespace Ytghcojaggplkkaa
attribute [local go_sem ↓] Go.wp_at_zero Go.wp_at_succ
section
variable {w w' : World} {base : Nat} {R : RLay} {S : Ck}
theorem ck_tal_on {S S' : Ck} (h : S.g ≠ none) (f : Tal → Tal) (h' : S'.g = S.g.on f) : S'.tal = f S.tal := by
  unfold Ck.tal
  rw [h']
  cases hg : S.g with
  | none => exact absurd hg h
  | some p => rfl
theorem on_some {g : Gho} (h : g ≠ none) (f : Tal → Tal) : g.on f ≠ none := by
  cases g with
  | none => exact absurd rfl h
  | some p => exact fun h => nomatch h
theorem RRep.kept (h : RRep w base R S) (hk : Kept R.foot w w') : RRep w' base R S where
  rblk := h.rblk.kept hk (.inl rfl)
  lv := h.lv.kept hk fun _ hg => .inr hg
  some_ := h.some_
  low := h.low
theorem RRep.past {w0 wi wj : World} (h : RRep wi base R S) (q : Kept (fun b => b < base) w0 wi) (hk : Kept (fun b => ¬ R.foot b) wi wj) : Kept (fun b => b < base) w0 wj :=
  q.trans' hk fun i _ hi hf => Nat.not_lt_of_le (h.low i hf) hi
theorem RRep.drew (h : RRep w base R S) : RRep w.drew base R S := h.kept (Kept.refl _ w).drew
theorem RRep.foot_lt (h : RRep w base R S) : ∀ b, R.foot b → b < w.heap.size := by
  rintro b (rfl | hb)
  · exact h.rblk.lt
  · obtain ⟨cs, hcs, _⟩ := h.lv.blk hb
    exact hcs.lt
/-- The struct is turned. -/
theorem RRep.struct (h : RRep w base R S) {S' : Ck} (i : Nat) (u : Value) (hc : (refCells S R.lv).setIfInBounds i u = refCells S' R.lv) (h1 : S'.ring = S.ring) (h3 : S'.g ≠ none) : RRep (w.setCell ⟨R.rb, i, none⟩ u) base R S' where
  rblk := by
    have := h.rblk.set_ i u
    rw [hc] at this
    exact this
  lv := by rw [h1]; exact h.lv.far h.rblk (by decide) _ _
  some_ := h3
  low := h.low
theorem ring_at (r : List Pg) (i : Nat) (p : Pg) (h : r[i]? = some p) : (ringCells r)[i * 3]? = some (.int .i64 p.n) ∧ (ringCells r)[i * 3 + 1]? = some (.int .i64 p.b) ∧ (ringCells r)[i * 3 + 2]? = some (.bool p.m) := by
  induction r generalizing i with
  | nil => simp at h
  | cons x r ih =>
    cases i with
    | zero =>
      simp at h
      subst h
      exact ⟨rfl, rfl, rfl⟩
    | succ i =>
      have := ih i (by simpa using h)
      have e1 : (i + 1) * 3 = i * 3 + 3 := by omega
      rw [e1]
      exact this
theorem RRep.page (h : RRep w base R S) {i : Nat} {p : Pg} (hp : S.ring[i]? = some p) : ∃ g cap, R.lv = .slice (some ⟨g, 0, none⟩) S.ring.length cap ∧ w.cell? ⟨g, i * 3, none⟩ = some (.int .i64 p.n) ∧ w.cell? ⟨g, i * 3 + 1, none⟩ = some (.int .i64 p.b) ∧ w.cell? ⟨g, i * 3 + 2, none⟩ = some (.bool p.m) := by
  obtain ⟨h1, h2, h3⟩ := ring_at _ _ _ hp
  obtain ⟨g, cap, hv, c1⟩ := h.lv.at_ h1
  obtain ⟨g2, cap2, hv2, c2⟩ := h.lv.at_ h2
  obtain ⟨g3, cap3, hv3, c3⟩ := h.lv.at_ h3
  rw [hv] at hv2 hv3
  injection hv2 with hA2
  injection hA2 with hA2
  injection hA2 with hA2
  injection hv3 with hA3
  injection hA3 with hA3
  injection hA3 with hA3
  subst hA2 hA3
  exact ⟨g, cap, hv, c1, c2, c3⟩

/-- The place of a page; -1: it is not there. -/
theorem atR (h : RRep w base R S) (hl : S.ring.length ≤ 512) (n : Int) :
    Calls Try.prog 24 #[.pointer (some ⟨R.rb, 0, none⟩), .int .i64 n] w fun e w' => ∃ x : Int, e = .returned (.int .i64 x) ∧ w = w' ∧ (x = -1 ∧ idx S.ring n = none ∨ ∃ m : Nat, x = m ∧ idx S.ring n = some m) := by
  obtain ⟨A, c, hv⟩ := h.lv.form
  have q1 : w.cell? ⟨R.rb, 1, none⟩ = some (.slice A S.ring.length c) := (h.rblk.cell 1).trans (congrArg some hv)
  have HH := Lib.hid h
  have HV := Lib.hid hv
  clear h hv
  go_enter Try.func24, Try.ntmps24
  go_wp2_with fail
  go_loopw [5] (fun i wr => ∃ k : Nat, k ≤ S.ring.length ∧ i = .int .i64 k ∧ w = wr ∧ Hid (∀ j, j < k → ∀ p, S.ring[j]? = some p → p.n ≠ n)) (fun i _ => S.ring.length - (intOf i).toNat)
  case atStart => exact ⟨0, Nat.zero_le _, rfl, rfl, Lib.hid (fun j hj => (nomatch hj))⟩
  case round =>
    obtain ⟨k, hk, rfl, rfl, HJ⟩ := hrel
    by_cases hlt : k < S.ring.length
    · obtain ⟨p, hp⟩ : ∃ p, S.ring[k]? = some p := ⟨_, List.getElem?_eq_getElem hlt⟩
      obtain ⟨g, cap, hv2, c0, c1, c2⟩ := HH.out.page hp
      have hA := HV.out.symm.trans hv2
      injection hA with hA _ hc
      subst hA hc
      have HP := Lib.hid hp
      have hli : (k : Int) < (S.ring.length : Int) := by omega
      clear hp hv2
      by_cases hpn : p.n = n
      · have hd : (p.n == n) = true := beq_iff_eq.2 hpn
        have HPN := Lib.hid hpn
        clear hpn
        go_wp2_with fail
        go_ret
        refine ⟨k, rfl, rfl, .inr ⟨k, rfl, ?_⟩⟩
        unfold idx
        rw [List.findIdx?_eq_some_iff_getElem]
        obtain ⟨hl2, he⟩ := List.getElem?_eq_some_iff.1 HP.out
        refine ⟨hl2, by rw [he, HPN.out]; simp, fun j hj => ?_⟩
        have := HJ.out j hj _ (List.getElem?_eq_getElem (by omega))
        simpa using fun e => this e.symm
      · have hd : (p.n == n) = false := beq_eq_false_iff_ne.2 hpn
        have HPN := Lib.hid hpn
        clear hpn
        go_wp2_with fail
        go_roundw
        case rel =>
          refine ⟨k + 1, by omega, by go_num, trivial, Lib.hid (fun j hj q hq => ?_)⟩
          rcases Nat.lt_or_ge j k with h1 | h1
          · exact HJ.out j h1 q hq
          · have e : j = k := by omega
            subst e
            rw [HP.out] at hq
            cases hq
            exact HPN.out
        case measure => simp [intOf]; omega
    · have hkl : k = S.ring.length := by omega
      go_wp2_with fail
      go_ret
      refine ⟨-1, rfl, rfl, .inl ⟨rfl, ?_⟩⟩
      rw [idxp_none]
      intro p hp
      obtain ⟨j, hj⟩ := List.getElem?_of_mem hp
      have := (List.getElem?_eq_some_iff.1 hj).1
      exact HJ.out j (by omega) p hj
end
end Ytghcojaggplkkaa
end Go.Proofs
