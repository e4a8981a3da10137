/-
  leaves.
-/
import Derived.Test.YtghcojaggplkkaaNew
import Derived.Deep.RegionLaw
set_option maxHeartbeats 1600000
namespace Go.Proofs
open Go.RowKit
theorem Try.info3 : (Try.prog.info? 3).map (fun i => (i.zero, i.size, i.bytes)) = some (some (.int .i64 0), 1, 8) := by kernel_rfl
theorem info_parts {P : Program} {e : TypeId} {z : Option Value} {s b : Nat} (h : (P.info? e).map (fun i => (i.zero, i.size, i.bytes)) = some (z, s, b)) : ∃ i, P.info? e = some i ∧ i.zero = z ∧ i.size = s ∧ i.bytes = b := by
  cases hi : P.info? e with
  | none => rw [hi] at h; cases h
  | some i =>
    rw [hi] at h
    simp only [Option.map_some, Option.some.injEq, Prod.mk.injEq] at h
    exact ⟨i, rfl, h.1, h.2.1, h.2.2⟩
namespace Ytghcojaggplkkaa
attribute [local go_sem ↓] Go.wp_at_zero Go.wp_at_succ
/-- Where the hand is when a page has left. -/
def dropHand (len hand i : Nat) : Nat := let h := if i < hand then hand - 1 else hand; if len - 1 ≤ h then 0 else h

section
variable {w : World} {base : Nat} {L : Lay} {S : Ck}
/-- Behind 'leaves': the page at place i has left the ring and the map. -/
def LeavesPost (w w' : World) (base : Nat) (L : Lay) (S : Ck) (i : Nat) : Prop :=
  ∃ rv', Rep w' base { L with rv := rv', pbs := L.pbs.eraseIdx i } { S with ring := S.ring.eraseIdx i, hand := dropHand S.ring.length S.hand i } ∧
    (∀ b, rv'.ownBlock = some b → L.rv.ownBlock = some b ∨ w.heap.size ≤ b) ∧ Kept (fun b => b ≠ L.kb ∧ b ≠ L.mb ∧ L.rv.ownBlock ≠ some b) w w'
theorem eraseIdx_map' {α β : Type} (f : α → β) : ∀ (l : List α) (j : Nat), (l.map f).eraseIdx j = (l.eraseIdx j).map f
  | [], _ => by simp
  | _ :: _, 0 => by simp
  | _ :: l, j + 1 => by simp [eraseIdx_map' f l j]
theorem entries_erase : ∀ (r : List Pg) (pbs : List Nat) (i : Nat), pbs.length = r.length → (entries r pbs).eraseIdx i = entries (r.eraseIdx i) (pbs.eraseIdx i)
  | [], [], _, _ => rfl
  | [], _ :: _, _, h => by simp at h
  | _ :: _, [], _, h => by simp at h
  | p :: r, b :: pbs, 0, h => rfl
  | p :: r, b :: pbs, i + 1, h => by
    have := entries_erase r pbs i (by simpa using h)
    simp only [entries, List.zipWith_cons_cons, List.eraseIdx_cons_succ] at this ⊢
    rw [this]
theorem leaves_close {w5 : World} (h : Rep w base L S) {i : Nat} (hil : i < S.ring.length) {rv' : Value} {hd : Nat} (hb5 : Blk w5 L.kb 55 #[.int .i64 S.budget, .pointer (some ⟨L.rb, 0, none⟩), rv', .map (some L.mb), .int .i64 hd])
    (hrow : Row1 w5 base 3 rv' ((S.ring.map fun p => .int .i64 p.n).eraseIdx i)) (hmap : MapIs w5 L.mb ((entries S.ring L.pbs).eraseIdx i)) (hk : Kept (fun b => b ≠ L.kb ∧ b ≠ L.mb ∧ L.rv.ownBlock ≠ some b) w w5)
    (hnew : ∀ b, rv'.ownBlock = some b → L.rv.ownBlock = some b ∨ w.heap.size ≤ b) :
    ∃ rv', Rep w5 base { L with rv := rv', pbs := L.pbs.eraseIdx i } { S with ring := S.ring.eraseIdx i, hand := hd } ∧
      (∀ b, rv'.ownBlock = some b → L.rv.ownBlock = some b ∨ w.heap.size ≤ b) ∧ Kept (fun b => b ≠ L.kb ∧ b ≠ L.mb ∧ L.rv.ownBlock ≠ some b) w w5 := by
  have ne : ∀ {b t cs}, Blk w b t cs → t ≠ 55 → t ≠ 3 → b ≠ L.kb ∧ b ≠ L.mb ∧ L.rv.ownBlock ≠ some b := fun hb h1 h2 => ⟨Blk.ne_ hb h.kblk h1, fun e => h.map.ne_blk hb e.symm, h.ring.ne_ hb (Ne.symm h2)⟩
  refine ⟨rv', ?_, hnew, hk⟩
  exact {
    kblk := hb5
    res := Blk.kept h.res hk (ne h.res (by decide) (by decide))
    ring := by rw [← eraseIdx_map']; exact hrow
    map := by rw [← entries_erase _ _ _ h.lp]; exact hmap
    pages := fun j p b hp hb => by
      rw [List.getElem?_eraseIdx] at hp hb
      split at hp
      · next hj =>
        rw [if_pos hj] at hb
        have := h.pages j p b hp hb
        exact this.kept hk (ne this (by decide) (by decide))
      · next hj =>
        rw [if_neg hj] at hb
        have := h.pages (j + 1) p b hp hb
        exact this.kept hk (ne this (by decide) (by decide))
    nd := h.nd.eraseIdx i
    lp := by rw [List.length_eraseIdx, List.length_eraseIdx, h.lp]
    cnt := by
      obtain ⟨t, ht, _⟩ := h.cnt.get
      exact h.cnt.kept hk (ne ht (by decide) (by decide))
    low := fun b hb => by
      rcases hb with rfl | rfl | rfl | hb | rfl | hb
      · exact h.low _ (.inl rfl)
      · exact h.low _ (.inr (.inl rfl))
      · exact h.low _ (.inr (.inr (.inl rfl)))
      · rcases hnew b hb with h1 | h1
        · exact h.low _ (.inr (.inr (.inr (.inl h1))))
        · exact (hrow.lt hb).2
      · exact h.low _ (.inr (.inr (.inr (.inr (.inl rfl)))))
      · exact h.low _ (.inr (.inr (.inr (.inr (.inr (List.mem_of_mem_eraseIdx hb)))))) }

theorem leaves_any (h : Rep w base L S) {n : Int} {i : Nat} (hi : idx S.ring n = some i) (hl : S.ring.length ≤ 512) (hh : S.hand ≤ 512) (hbase : base ≤ w.heap.size) :
    Calls Try.prog 21 #[.pointer (some ⟨L.kb, 0, none⟩), .int .i64 n] w fun e w' => e = .returned (.tuple #[]) ∧ LeavesPost w w' base L S i := by
  obtain ⟨i0, hi0, hz0, hz1, hz2⟩ := info_parts Try.info3
  have f2 : w.cell? ⟨L.kb, 2, none⟩ = some L.rv := by rw [Blk.cell h.kblk]; rfl
  have hil : i < S.ring.length := (List.findIdx?_eq_some_iff_getElem.1 hi).1
  have hring := h.ring
  have hix : (S.ring.map (·.n)).findIdx? (fun x => n == x) = some i := by
    rw [List.findIdx?_map]
    exact hi
  obtain ⟨A, cap, hrv⟩ := hring.form
  rw [List.length_map] at hrv
  obtain ⟨x, hx⟩ : ∃ x, (S.ring.map fun p => Value.int .i64 p.n)[i]? = some x := ⟨_, List.getElem?_eq_getElem (by simpa using hil)⟩
  obtain ⟨g, cap', hrv', hcell⟩ := hring.at_ hx
  rw [hrv] at hrv'
  rw [List.length_map] at hrv'
  injection hrv' with hA _ hc
  subst hA hc
  rw [hrv] at f2
  have HI := Lib.hid hi
  have HX := Lib.hid hix
  have HRV := Lib.hid hrv
  have hnc : S.ring.length ≤ cap := by
    rw [HRV.out] at hring
    rcases hring with ⟨h0, _⟩ | ⟨g0, cap0, cur, hv, _, _, hnc, _⟩
    · cases h0
    · injection hv with _ _ hc
      subst hc
      simpa using hnc
  have hic : i ≤ cap := by omega
  have hi1 : i + 1 ≤ S.ring.length := by omega
  have hi2 : S.ring.length ≤ cap := by omega
  have hwrap : IntKind.i64.wrap ((i : Int) + 1) = ((i + 1 : Nat) : Int) := by simp [IntKind.wrap_i64]; omega
  have hb1 : 0 ≤ (i : Int) + 1 ∧ (i : Int) + 1 ≤ (S.ring.length : Int) := by omega
  have hcut := run_append_cut (P := Try.prog) (t := 53) (ty := 53) (e := 3) (i := i0) (z := .int .i64 0) (bytes := 8) (w := w.drew) Try.underlying53 hi0 hz0 hz1 hz2 (by rfl) (by rw [HRV.out] at hring; exact hring.drew) (k := i) (by simpa using hil)
    (if cap = i + 1 then ⟨g, 0, none⟩ else ⟨g, i + 1, none⟩) (fun hlt => by rw [if_neg (by omega)]) (by simp; unfold maxLen; omega) (by simp; omega) hbase
  obtain ⟨g', cap', w2, hrun, hrow, hkw2, hat⟩ := hcut
  have hite : some (if cap = i + 1 then (⟨g, 0, none⟩ : Addr) else ⟨g, i + 1, none⟩) = if cap = i + 1 then some ⟨g, 0, none⟩ else some ⟨g, i + 1, none⟩ := by split <;> rfl
  rw [hite] at hrun
  have HRUN := Lib.hid hrun
  have hgk : g ≠ L.kb := fun e => h.ring.ne_ h.kblk (by decide) (by rw [HRV.out, e]; rfl)
  have hk2 := h.kblk.drew.kept hkw2 hgk
  have q2 : w2.cell? ⟨L.kb, 2, none⟩ = some L.rv := hk2.cell 2
  have qf : w2.frozen? ⟨L.kb, 2, none⟩ = false := hk2.frozen 2
  have hk3 := hk2.set_ 2 (Value.slice (some ⟨g', 0, none⟩) (S.ring.length - 1) cap')
  have hkw3 : Kept (fun b => b ≠ L.kb ∧ g ≠ b) w (w2.setCell ⟨L.kb, 2, none⟩ (Value.slice (some ⟨g', 0, none⟩) (S.ring.length - 1) cap')) :=
    (((Kept.refl _ w).drew.trans (hkw2.mono fun _ _ hK => hK.2))).setCell (fun _ hK => hK.1 rfl) _
  have hmne : L.mb ≠ L.kb ∧ g ≠ L.mb := ⟨h.map.ne_blk h.kblk, fun e => by
    obtain ⟨cs, hcs⟩ := h.ring.blk (g := g) (by rw [HRV.out]; rfl)
    exact h.map.ne_blk hcs e.symm⟩
  have hmap3 := h.map.kept hkw3 hmne
  obtain ⟨w4, hdel, hmap4, hkw4⟩ := delete_at (P := Try.prog) (ty := 0) Try.underlying52 Try.underlying3 hmap3 (k := n) (j := i) (by rw [entries_idx _ _ _ h.lp]; exact HI.out)
  have hk4 := hk3.kept hkw4 (Ne.symm hmne.1)
  have q4 : w4.cell? ⟨L.kb, 4, none⟩ = some (.int .i64 S.hand) := hk4.cell 4
  have q42 : w4.cell? ⟨L.kb, 2, none⟩ = some (Value.slice (some ⟨g', 0, none⟩) (S.ring.length - 1) cap') := hk4.cell 2
  have q44 : w4.frozen? ⟨L.kb, 4, none⟩ = false := hk4.frozen 4
  have q33 : (w2.setCell ⟨L.kb, 2, none⟩ (Value.slice (some ⟨g', 0, none⟩) (S.ring.length - 1) cap')).cell? ⟨L.kb, 3, none⟩ = some (.map (some L.mb)) := hk3.cell 3
  have hk2w : Kept (fun b => b ≠ L.kb ∧ b ≠ L.mb ∧ L.rv.ownBlock ≠ some b) w w4 := (hkw3.mono fun b _ hK => ⟨hK.1, fun e => hK.2.2 (by rw [HRV.out, e]; rfl)⟩).trans (hkw4.mono fun _ _ hK => hK.2.1)
  have hg'n : g' ≠ L.kb := fun e => by
    rcases hat with hat | hat
    · exact hgk (hat.symm.trans e)
    · have := h.kblk.lt
      have e2 : w.drew.heap.size = w.heap.size := rfl
      omega
  have hg'm : g' ≠ L.mb := fun e => by
    rcases hat with hat | hat
    · exact hmne.2 (hat.symm.trans e)
    · have := h.map.lt
      have e2 : w.drew.heap.size = w.heap.size := rfl
      omega
  have hrow4 := (hrow.kept (K := fun b => b ≠ L.kb) ((Kept.refl _ w2).setCell (p := ⟨L.kb, 2, none⟩) (fun _ hn => hn rfl) (.slice (some ⟨g', 0, none⟩) (S.ring.length - 1) cap')) (fun b hb => by
      have : g' = b := by simpa [Value.ownBlock] using hb
      exact this ▸ hg'n)).kept hkw4 (fun b hb => by
      have : g' = b := by simpa [Value.ownBlock] using hb
      exact this ▸ hg'm)
  have hclose : ∀ (w5 : World) (hd : Nat), Kept (fun b => b ≠ L.kb) w4 w5 → Blk w5 L.kb 55 #[.int .i64 S.budget, .pointer (some ⟨L.rb, 0, none⟩), .slice (some ⟨g', 0, none⟩) (S.ring.length - 1) cap', .map (some L.mb), .int .i64 hd] → hd = dropHand S.ring.length S.hand i → LeavesPost w w5 base L S i := by
    rintro w5 hd hk5 hb5 rfl
    exact leaves_close h hil hb5 (hrow4.kept hk5 (fun b hb => by
      have : g' = b := by simpa [Value.ownBlock] using hb
      exact this ▸ hg'n)) (hmap4.kept hk5 hmne.1) (hk2w.trans' hk5 fun _ _ hK => hK.1) (fun b hb => by
      have : g' = b := by simpa [Value.ownBlock] using hb
      subst this
      rcases hat with hat | hat
      · exact .inl (by rw [HRV.out, hat]; rfl)
      · exact .inr (Nat.le_of_eq hat.symm))
  have HC := Lib.hid hclose
  have HR4 := Lib.hid hk4
  have ht : ∀ u, (w4.setCell ⟨L.kb, 4, none⟩ u).cell? ⟨L.kb, 2, none⟩ = some (Value.slice (some ⟨g', 0, none⟩) (S.ring.length - 1) cap') := fun u => (hk4.set_ 4 u).cell 2
  have ht4 : ∀ u, (w4.setCell ⟨L.kb, 4, none⟩ u).cell? ⟨L.kb, 4, none⟩ = some u := fun u => (hk4.set_ 4 u).cell 4
  have ht5 : ∀ u, (w4.setCell ⟨L.kb, 4, none⟩ u).frozen? ⟨L.kb, 4, none⟩ = false := fun u => (hk4.set_ 4 u).frozen 4
  have HROW : Hid (Row1 w base 3 (.slice (some ⟨g, 0, none⟩) S.ring.length cap) ((S.ring.map (·.n)).map (.int .i64 ·))) := by
    rw [HRV.out] at hring
    rw [List.map_map]
    exact hring
  clear hi hx hcell hix hrv hrun hite hclose h hk2 hk3 hk4 hkw2 hkw3 hkw4 hmap3 hmap4 hrow hrow4 hk2w hring hat hmne
  go_enter Try.func21, Try.ntmps21
  go_wp2_with fail
  refine (index_hit _ (base := base) (xs := S.ring.map (·.n)) (m := i) HROW.out n (by simpa using hl) HX.out).mono ?_
  rintro e w' ⟨rfl, rfl⟩
  go_upto_region 1 with fail
  go_cut [4] (fun v wx => v = .int .i64 i ∧ wx = w2.setCell ⟨L.kb, 2, none⟩ (.slice (some ⟨g', 0, none⟩) (S.ring.length - 1) cap'))
  case first =>
    go_region_law (refine step_append_run (by rfl) (.tmp 18) (.tmp 25) 53 (by rfl) (by rfl) (by rfl) HRUN.out ?_)
    all_goals go_wp2_with fail
    all_goals go_meet
    all_goals exact ⟨rfl, rfl⟩
  case rest =>
    obtain ⟨rfl, rfl⟩ := hcut
    clear hnc hic hi1 hi2 hwrap hb1 f2 q2 qf
    by_cases hlt : i < S.hand
    · have hd : decide ((i : Int) < (S.hand : Int)) = true := by simp; omega
      have hwr : (S.hand : Int) - 1 = ((S.hand - 1 : Nat) : Int) := by omega
      have HWR := Lib.hid hwr
      clear hwr
      by_cases hge : S.ring.length - 1 ≤ S.hand - 1
      · have hd2 : decide (((S.ring.length - 1 : Nat) : Int) ≤ (S.hand : Int) - 1) = true := by simp; omega
        have HE := Lib.hid (show 0 = dropHand S.ring.length S.hand i by simp only [dropHand, if_pos hlt, if_pos hge])
        go_wp2_with fail
        go_region
        all_goals go_wp2_with fail
        all_goals go_end0
        all_goals exact ⟨rfl, HC.out _ 0 ((((Kept.refl _ w4).setCell (fun _ hn => hn rfl) _).drew).setCell (fun _ hn => hn rfl) _) ((HR4.out.set_ 4 _).set_ 4 _) HE.out⟩
      · have hd2 : decide (((S.ring.length - 1 : Nat) : Int) ≤ (S.hand : Int) - 1) = false := by simp; omega
        have HE := Lib.hid (show S.hand - 1 = dropHand S.ring.length S.hand i by simp only [dropHand, if_pos hlt, if_neg hge])
        go_wp2_with fail
        go_region
        all_goals go_wp2_with fail
        all_goals go_end0
        all_goals exact ⟨rfl, HC.out _ (S.hand - 1) (((Kept.refl _ w4).setCell (fun _ hn => hn rfl) _).drew) (by rw [← HWR.out]; exact (HR4.out.set_ 4 _)) HE.out⟩
    · have hd : decide ((i : Int) < (S.hand : Int)) = false := by simp; omega
      have hdn : decide (i < S.hand) = false := by simp; omega
      have hdp : (i < S.hand) = False := by simp; omega
      by_cases hge : S.ring.length - 1 ≤ S.hand
      · have hd2 : decide (((S.ring.length - 1 : Nat) : Int) ≤ (S.hand : Int)) = true := by simp; omega
        have HE := Lib.hid (show 0 = dropHand S.ring.length S.hand i by simp only [dropHand, if_neg hlt, if_pos hge])
        go_wp2_with fail
        go_region
        all_goals go_wp2_with fail
        all_goals go_end0
        all_goals exact ⟨rfl, HC.out _ 0 (((Kept.refl _ w4).drew).setCell (fun _ hn => hn rfl) _) (HR4.out.set_ 4 _) HE.out⟩
      · have hd2 : decide (((S.ring.length - 1 : Nat) : Int) ≤ (S.hand : Int)) = false := by simp; omega
        have HE := Lib.hid (show S.hand = dropHand S.ring.length S.hand i by simp only [dropHand, if_neg hlt, if_neg hge])
        go_wp2_with fail
        go_region
        all_goals go_wp2_with fail
        all_goals go_end0
        all_goals exact ⟨rfl, HC.out _ S.hand ((Kept.refl _ w4).drew) HR4.out HE.out⟩
end
end Ytghcojaggplkkaa
end Go.Proofs
