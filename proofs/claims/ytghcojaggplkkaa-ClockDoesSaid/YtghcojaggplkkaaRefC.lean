/-
  The reference's clock: New, Touch, Resident.
-/
import Derived.Test.YtghcojaggplkkaaRefB
set_option maxHeartbeats 1000000
namespace Go.Proofs
open Go.RowKit
namespace Ytghcojaggplkkaa
attribute [local go_sem ↓] Go.wp_at_zero Go.wp_at_succ
section
variable {w w' : World} {base : Nat} {R : RLay} {S : Ck}
theorem newR_bad (n : Int) (w : World) (h : n < 0 ∨ 1099511627776 < n) :
    Calls Try.prog 13 #[.int .i64 n] w fun e w' => e = .returned (.tuple #[.pointer none, .int .i64 1]) ∧ w = w' := by
  rcases h with h | h
  · have hd : decide (n < 0) = true := by simp; omega
    go_enter Try.func13, Try.ntmps13
    go_wp2
    go_ret2
    exact ⟨rfl, rfl⟩
  · have hd : decide (n < 0) = false := by simp; omega
    have hd2 : decide (1099511627776 < n) = true := by simp; omega
    go_enter Try.func13, Try.ntmps13
    go_wp2
    go_ret2
    exact ⟨rfl, rfl⟩
theorem newR_good (n : Int) (k : Nat) (w : World) (base : Nat) (h1 : 0 ≤ n) (h2 : n ≤ 1099511627776) (hbase : base ≤ w.heap.size) :
    Calls Try.prog 13 #[.int .i64 n] w fun e w' => ∃ R, e = .returned (.tuple #[.pointer (some ⟨R.rb, 0, none⟩), .int .i64 0]) ∧ RRep w' base R ⟨n, 0, [], 0, some (k, Tal.zero)⟩ ∧
      (∀ b, R.foot b → w.heap.size ≤ b) ∧ Kept (fun _ => True) w w' := by
  have hd : decide (n < 0) = false := by simp; omega
  have hd2 : decide (1099511627776 < n) = false := by simp; omega
  go_enter Try.func13, Try.ntmps13
  go_wp2_with fail
  go_ret2
  refine ⟨⟨w.heap.size, .slice none 0 0⟩, rfl, ?_, ?_, (Kept.refl _ w).alloc _⟩
  · exact {
      rblk := Blk.new w 49 _
      lv := ⟨rfl, .inl ⟨rfl, rfl⟩⟩
      some_ := fun h => nomatch h
      low := fun b hb => by
        rcases hb with rfl | hb
        · exact hbase
        · simp [Value.ownBlock] at hb }
  · intro b hb
    rcases hb with rfl | hb
    · exact Nat.le_refl _
    · simp [Value.ownBlock] at hb

theorem RowS.set_ {e : TypeId} {s n g cap : Nat} {xs : List Value} (h : RowS w base e s (.slice (some ⟨g, 0, none⟩) n cap) n xs) {j : Nat} (hj : j < n * s) (u : Value) : RowS (w.setCell ⟨g, j, none⟩ u) base e s (.slice (some ⟨g, 0, none⟩) n cap) n (xs.set j u) := by
  obtain ⟨h1, h2⟩ := h
  refine ⟨by simpa using h1, .inr ?_⟩
  rcases h2 with ⟨h0, _⟩ | ⟨g', cap', cur, hv, hb, hh, hnc, hcs, hcm, ht⟩
  · cases h0
  · injection hv with hA _ hc
    injection hA with hA
    injection hA with hA
    subst hA hc
    refine ⟨g, cap, cur.setIfInBounds j u, rfl, hb, hh.set_ j u, hnc, by simpa using hcs, hcm, ?_⟩
    rw [← ht, Array.toList_setIfInBounds, List.take_set]
theorem ring_set (r : List Pg) (i : Nat) (p p' : Pg) (h : r[i]? = some p) (hn : p'.n = p.n) : (p'.m = p.m → (ringCells r).set (i * 3 + 1) (.int .i64 p'.b) = ringCells (r.set i p')) ∧ (p'.b = p.b → (ringCells r).set (i * 3 + 2) (.bool p'.m) = ringCells (r.set i p')) := by
  induction r generalizing i with
  | nil => simp at h
  | cons x r ih =>
    cases i with
    | zero =>
      simp at h
      subst h
      constructor
      · intro hm
        simp [ringCells, hn, hm]
      · intro hb
        simp [ringCells, hn, hb]
    | succ i =>
      have := ih i (by simpa using h)
      have e1 : (i + 1) * 3 = i * 3 + 3 := by omega
      rw [e1]
      constructor
      · intro hm
        have := this.1 hm
        simp only [ringCells] at this
        simp [ringCells, this]
      · intro hb
        have := this.2 hb
        simp only [ringCells] at this
        simp [ringCells, this]
/-- A page of the reference's ring is turned: its cells are g's. -/
theorem RRep.ringTo (h : RRep w base R S) {S' : Ck} {g cap j : Nat} {u : Value} (hv : R.lv = .slice (some ⟨g, 0, none⟩) S.ring.length cap) (hj : j < S.ring.length * 3) (hc : (ringCells S.ring).set j u = ringCells S'.ring) (hlen : S'.ring.length = S.ring.length)
    (hs : refCells S' R.lv = refCells S R.lv) (hg : S'.g ≠ none) : RRep (w.setCell ⟨g, j, none⟩ u) base R S' where
  rblk := by
    rw [hs]
    obtain ⟨cs, hcs, _⟩ := h.lv.blk (g := g) (by rw [hv]; rfl)
    exact blk_far h.rblk hcs (by decide) _ _
  lv := by
    have h1 := h.lv
    rw [hv] at h1 ⊢
    rw [hlen, ← hc]
    exact h1.set_ hj u
  some_ := hg
  low := h.low

theorem touchR (h : RRep w base R S) (hl : S.ring.length ≤ 512) (n : Int) :
    Calls Try.prog 15 #[.pointer (some ⟨R.rb, 0, none⟩), .int .i64 n] w fun e w' => e = .returned (.tuple #[]) ∧ RRep w' base R (S.touch n) ∧ Kept (fun b => ¬ R.foot b) w w' := by
  have HH := Lib.hid h
  clear h
  go_enter Try.func15, Try.ntmps15
  go_wp2_with fail
  refine (atR HH.out hl n).mono ?_
  rintro e w' ⟨x, rfl, rfl, hx⟩
  rcases hx with ⟨rfl, hi⟩ | ⟨m, rfl, hi⟩
  · have HT : Hid (S.touch n = S) := by unfold Ck.touch; rw [hi]; exact rfl
    clear hi
    go_wp2_with fail
    go_end0
    exact ⟨rfl, by rw [HT.out]; exact HH.out, Kept.refl _ _⟩
  · obtain ⟨p, hp, hpn⟩ := idx_some hi
    obtain ⟨g, cap, hv, c0, c1, c2⟩ := HH.out.page hp
    have hml : m < S.ring.length := (List.getElem?_eq_some_iff.1 hp).1
    have HT : Hid (S.touch n = { S with ring := S.ring.set m { p with m := true } }) := by
      unfold Ck.touch
      rw [hi]
      show { S with ring := S.ring.modify m _ } = _
      rw [modify_set hp]
    have q1 : w.cell? ⟨R.rb, 1, none⟩ = some (.slice (some ⟨g, 0, none⟩) S.ring.length cap) := (HH.out.rblk.cell 1).trans (congrArg some hv)
    have hli : (m : Int) < (S.ring.length : Int) := by omega
    obtain ⟨cs, hcs, hbg⟩ := HH.out.lv.blk (g := g) (by rw [hv]; rfl)
    have c2f : w.frozen? ⟨g, m * 3 + 2, none⟩ = false := hcs.frozen _
    have hr2 : RRep (w.setCell ⟨g, m * 3 + 2, none⟩ (.bool true)) base R { S with ring := S.ring.set m { p with m := true } } :=
      HH.out.ringTo hv (by omega) ((ring_set S.ring m p { p with m := true } hp rfl).2 rfl) (by simp) rfl HH.out.some_
    have HR2 := Lib.hid hr2
    have HK : Hid (Kept (fun b => ¬ R.foot b) w (w.setCell ⟨g, m * 3 + 2, none⟩ (.bool true))) := (Kept.refl _ w).setCell (fun _ hn => hn (.inr (by rw [hv]; rfl))) _
    clear hi hp hpn hv hr2 hcs
    go_wp2_with fail
    go_end0
    exact ⟨rfl, by rw [HT.out]; exact HR2.out, HK.out⟩

theorem total_take {r : List Pg} {k : Nat} {p : Pg} (h : r[k]? = some p) : total (r.take (k + 1)) = total (r.take k) + p.b := by
  obtain ⟨hl, he⟩ := List.getElem?_eq_some_iff.1 h
  rw [List.take_succ_eq_append_getElem hl, he, total_append]
  simp [total]
theorem residentR (h : RRep w base R S) (G : Good S) :
    Calls Try.prog 17 #[.pointer (some ⟨R.rb, 0, none⟩)] w fun e w' => e = .returned (.int .i64 S.tot) ∧ RRep w' base R S.load ∧ Kept (fun b => ¬ R.foot b) w w' := by
  have hl := G.len
  have c3 : w.cell? ⟨R.rb, 3, none⟩ = some (.int .i64 S.tal.l) := h.rblk.cell 3
  have c3f : w.frozen? ⟨R.rb, 3, none⟩ = false := h.rblk.frozen 3
  have hr1 : RRep (w.setCell ⟨R.rb, 3, none⟩ (.int .i64 (wrap64 (S.tal.l + 1)))) base R S.load := h.struct 3 _ (by
    have := ck_tal_on (S := S) (S' := S.load) h.some_ Tal.load rfl
    simp only [refCells, this]
    rfl) rfl (on_some h.some_ _)
  have kp : Kept (fun b => ¬ R.foot b) w (w.setCell ⟨R.rb, 3, none⟩ (.int .i64 (wrap64 (S.tal.l + 1)))) := (Kept.refl _ w).setCell (fun _ hn => hn (.inl rfl)) _
  obtain ⟨w1, hw1⟩ : ∃ w1, w.setCell ⟨R.rb, 3, none⟩ (.int .i64 (wrap64 (S.tal.l + 1))) = w1 := ⟨_, rfl⟩
  rw [hw1] at hr1 kp
  obtain ⟨A, c, hv⟩ := hr1.lv.form
  have q1 : w1.cell? ⟨R.rb, 1, none⟩ = some (.slice A S.load.ring.length c) := (hr1.rblk.cell 1).trans (congrArg some hv)
  have hrl : S.load.ring = S.ring := rfl
  rw [hrl] at q1 hv
  have HR := Lib.hid hr1
  have HK := Lib.hid kp
  have HV := Lib.hid hv
  have HG := Lib.hid G
  clear h hr1 kp hv G
  go_enter Try.func17, Try.ntmps17
  go_wp2_with fail
  clear hw1
  go_loopw [3, 4] (fun o i wr => ∃ k : Nat, k ≤ S.ring.length ∧ i = .int .i64 k ∧ o = .int .i64 (total (S.ring.take k)) ∧ w1 = wr) (fun _ i _ => S.ring.length - (intOf i).toNat)
  case atStart => exact ⟨0, Nat.zero_le _, rfl, rfl, rfl⟩
  case round =>
    obtain ⟨k, hk, rfl, rfl, rfl⟩ := hrel
    by_cases hlt : k < S.ring.length
    · obtain ⟨p, hp⟩ : ∃ p, S.ring[k]? = some p := ⟨_, List.getElem?_eq_getElem hlt⟩
      obtain ⟨g, cap, hv2, c0, c1, c2⟩ := HR.out.page (show S.load.ring[k]? = some p from hp)
      have hA := HV.out.symm.trans hv2
      injection hA with hA _ hc
      subst hA hc
      have hli : (k : Int) < (S.ring.length : Int) := by omega
      have htk := total_take hp
      have hb1 := total_bounds (S.ring.take k) fun x hx => HG.out.page x (List.mem_of_mem_take hx)
      have hb2 := HG.out.page p (List.mem_of_getElem? hp)
      have hlt2 : (S.ring.take k).length ≤ 512 := by simp; omega
      have hwr : IntKind.i64.wrap (total (S.ring.take k) + p.b) = total (S.ring.take k) + p.b := by rw [IntKind.wrap_i64]; omega
      have HTK := Lib.hid htk
      clear hp hv2 hb1 htk hlt2
      go_wp2_with fail
      go_roundw
      case rel => exact ⟨k + 1, by omega, by go_num, by rw [HTK.out], trivial⟩
      case measure => simp [intOf]; omega
    · have hkl : k = S.ring.length := by omega
      go_wp2_with fail
      go_ret
      refine ⟨?_, HR.out, HK.out⟩
      rw [hkl, HG.out.tot, List.take_length]
      rfl
end
end Ytghcojaggplkkaa
end Go.Proofs
