/-
  The reference: Reclaim.
-/
import Derived.Test.YtbefknaffopeaaaRefC
set_option maxHeartbeats 1000000
namespace Go.Proofs
open Go.RowKit
namespace Ytbefknaffopeaaa
attribute [local go_sem ↓] Go.wp_at_zero Go.wp_at_succ
section
variable {w w' : World} {base : Nat} {R : RLay} {S : St}
theorem own_own_ne {b1 b2 : Nat} {e1 e2 : TypeId} {s1 s2 n1 n2 : Nat} {v u : Value} {xs ys : List Value} (h : w.ownsRow b1 e1 s1 v n1 xs) (h' : w.ownsRow b2 e2 s2 u n2 ys) (hne : e1 ≠ e2) : ∀ g, u.ownBlock = some g → v.ownBlock ≠ some g := by
  intro g hg
  rcases h'.2 with ⟨rfl, _⟩ | ⟨g', cap, cur, rfl, _, hh, _⟩
  · simp [Value.ownBlock] at hg
  · have : g' = g := by simpa [Value.ownBlock] using hg
    subst this
    exact own_blk_ne (t := e2) h hh hne
theorem RRep.foot_lt (h : RRep w base R S) : ∀ b, R.foot b → b < w.heap.size := by
  rintro b (rfl | rfl | hb)
  · exact h.rblk.lt
  · exact h.iblk.lt
  · exact (ownsRow_lt h.wv hb).1
theorem wait_at (l : List (Int × Int)) (i : Nat) (p : Int × Int) (h : l[i]? = some p) : (waitCells l)[i * 2]? = some (.int .i64 p.1) ∧ (waitCells l)[i * 2 + 1]? = some (.int .i64 p.2) := by
  induction l generalizing i with
  | nil => simp at h
  | cons x l ih =>
    cases i with
    | zero =>
      simp at h
      subst h
      exact ⟨rfl, rfl⟩
    | succ i =>
      have := ih i (by simpa using h)
      have e1 : (i + 1) * 2 = i * 2 + 2 := by omega
      rw [e1]
      exact this
/-- What a round of the loop holds. -/
structure Half (wr w : World) (base : Nat) (R : RLay) (S : St) (k : Nat) (v u : Value) : Prop where
  out : wr.ownsRow w.heap.size 3 1 v ((S.waits.take k).filter (isOld (safeOf S) true)).length (((S.waits.take k).filter (isOld (safeOf S) true)).map fun p => .int .i64 p.1)
  left : wr.ownsRow w.heap.size 71 2 u ((S.waits.take k).filter (isOld (safeOf S) false)).length (waitCells ((S.waits.take k).filter (isOld (safeOf S) false)))
  rep : RRep wr base R S.asked
  kept : Kept (fun b => ¬ R.foot b) w wr
  lt : ∀ b, R.foot b → b < w.heap.size
theorem waitCells_app (l m : List (Int × Int)) : waitCells (l ++ m) = waitCells l ++ waitCells m := by simp [waitCells]
theorem Half.stepOut {wr w2 : World} {k : Nat} {v u v' : Value} {p : Int × Int} {o : Obj} (h : Half wr w base R S k v u) (hp : S.waits[k]? = some p) (ho : isOld (safeOf S) true p = true) (hn : isOld (safeOf S) false p = false)
    (hown : w2.ownsRow w.heap.size 3 1 v' (((S.waits.take k).filter (isOld (safeOf S) true)).length + 1) ((((S.waits.take k).filter (isOld (safeOf S) true)).map fun p => .int .i64 p.1) ++ [.int .i64 p.1]))
    (hgrow : (wr.alloc o).grownBy w2 v.ownBlock) : Half w2 w base R S (k + 1) v' u := by
  obtain ⟨hl, he⟩ := List.getElem?_eq_some_iff.1 hp
  have htk : S.waits.take (k + 1) = S.waits.take k ++ [p] := by rw [List.take_succ_eq_append_getElem hl, he]
  have hk2 : Kept (fun b => v.ownBlock ≠ some b) wr w2 := ((Kept.refl _ wr).alloc o).grown hgrow fun c hc _ hn => hn hc
  have hkf : Kept R.foot wr w2 := hk2.mono fun b _ hb hv => by
    have := (ownsRow_lt h.out hv).2
    have := h.lt b hb
    omega
  constructor
  · rw [htk, List.filter_append, List.filter_cons_of_pos ho, List.filter_nil, List.length_append, List.map_append]
    exact hown
  · rw [htk, List.filter_append, List.filter_cons_of_neg (by rw [hn]; exact Bool.false_ne_true), List.filter_nil, List.append_nil]
    exact ownsRow_kept h.left hk2 (own_own_ne h.out h.left (by decide))
  · exact h.rep.kept hkf
  · exact h.kept.trans' hk2 fun b hb _ hv => by
      have := (ownsRow_lt h.out hv).2
      omega
  · exact h.lt
theorem Half.stepLeft {wr w2 : World} {k : Nat} {v u u' : Value} {p : Int × Int} {o : Obj} (h : Half wr w base R S k v u) (hp : S.waits[k]? = some p) (ho : isOld (safeOf S) true p = false) (hn : isOld (safeOf S) false p = true)
    (hown : w2.ownsRow w.heap.size 71 2 u' (((S.waits.take k).filter (isOld (safeOf S) false)).length + 1) (waitCells ((S.waits.take k).filter (isOld (safeOf S) false)) ++ [.int .i64 p.1, .int .i64 p.2]))
    (hgrow : (wr.alloc o).grownBy w2 u.ownBlock) : Half w2 w base R S (k + 1) v u' := by
  obtain ⟨hl, he⟩ := List.getElem?_eq_some_iff.1 hp
  have htk : S.waits.take (k + 1) = S.waits.take k ++ [p] := by rw [List.take_succ_eq_append_getElem hl, he]
  have hk2 : Kept (fun b => u.ownBlock ≠ some b) wr w2 := ((Kept.refl _ wr).alloc o).grown hgrow fun c hc _ hn => hn hc
  have hkf : Kept R.foot wr w2 := hk2.mono fun b _ hb hv => by
    have := (ownsRow_lt h.left hv).2
    have := h.lt b hb
    omega
  constructor
  · rw [htk, List.filter_append, List.filter_cons_of_neg (by rw [ho]; exact Bool.false_ne_true), List.filter_nil, List.append_nil]
    exact ownsRow_kept h.out hk2 (own_own_ne h.left h.out (by decide))
  · rw [htk, List.filter_append, List.filter_cons_of_pos hn, List.filter_nil, List.length_append, waitCells_app]
    exact hown
  · exact h.rep.kept hkf
  · exact h.kept.trans' hk2 fun b hb _ hv => by
      have := (ownsRow_lt h.left hv).2
      omega
  · exact h.lt
theorem addrAdd (b o j : Nat) : (⟨b, o, none⟩ : Addr).add j = ⟨b, o + j, none⟩ := by
  unfold Addr.add
  split
  · next h => rw [h, Nat.add_zero]
  · rfl
theorem Half.done {wr : World} {v u : Value} (h : Half wr w base R S S.waits.length v u) (hbase : base ≤ w.heap.size) :
    (wr.setCell ⟨R.rb, 2, none⟩ u).ownsRow w.heap.size 3 1 v S.told.length (S.told.map (Value.int .i64)) ∧
      RRep (wr.setCell ⟨R.rb, 2, none⟩ u) base { R with wv := u } S.reclaim ∧ (∀ b, u.ownBlock = some b → w.heap.size ≤ b) ∧ Kept (fun b => ¬ R.foot b) w (wr.setCell ⟨R.rb, 2, none⟩ u) := by
  have ho := h.out
  have hl := h.left
  rw [List.take_length] at ho hl
  refine ⟨?_, ?_, fun b hb => (ownsRow_lt hl hb).2, h.kept.setCell (fun _ hn => hn (.inl rfl)) _⟩
  · unfold St.told
    rw [List.length_map, List.map_map]
    exact row_far ho h.rep.rblk (by decide) _ _
  · exact {
      rblk := h.rep.rblk.set_ 2 u
      iblk := blk_far h.rep.iblk h.rep.rblk (by decide) _ _
      wv := own_low (row_far hl h.rep.rblk (by decide) _ _) hbase
      some_ := h.rep.some_
      low := fun b hb => by
        rcases hb with hb | hb | hb
        · exact h.rep.low b (.inl hb)
        · exact h.rep.low b (.inr (.inl hb))
        · exact Nat.le_trans hbase (ownsRow_lt hl hb).2 }
theorem reclaimR (h : RRep w base R S) (hI : InOk S) (hm : S.waits.length * 16 ≤ 140737488355328) (hbase : base ≤ w.heap.size) :
    Calls Try.prog 24 #[.pointer (some ⟨R.rb, 0, none⟩)] w fun e w' => ∃ v u, e = .returned v ∧ w'.ownsRow w.heap.size 3 1 v S.told.length (S.told.map (Value.int .i64)) ∧
      RRep w' base { R with wv := u } S.reclaim ∧ (∀ b, u.ownBlock = some b → w.heap.size ≤ b) ∧ Kept (fun b => ¬ R.foot b) w w' := by
  obtain ⟨i3, hi3, hz30, hz31, hz32⟩ := info_parts Try.info3'
  obtain ⟨i71, hi71, hz710, hz711, hz712⟩ := info_parts Try.info71
  have hfl : ∀ (b : Bool) (k : Nat), ((S.waits.take k).filter (isOld (safeOf S) b)).length ≤ k := fun b k => Nat.le_trans (List.length_filter_le _ _) (List.length_take_le _ _)
  have HFL := Lib.hid hfl
  have hlt0 := h.foot_lt
  clear hfl
  go_enter Try.func24, Try.ntmps24
  go_wp2_with fail
  refine (safeR h hI).mono ?_
  rintro e w1 ⟨rfl, hr1, hk1⟩
  have HH := Lib.hid (Half.mk (w := w) (S := S) (World.ownsRow_nil _ _ _ _) (World.ownsRow_nil _ _ _ _) hr1 hk1 hlt0 : Half w1 w base R S 0 (.slice none 0 0) (.slice none 0 0))
  clear h hr1 hk1 hlt0
  go_wp2_with fail
  go_loopw [4, 5, 6] (fun v u i wr => ∃ k : Nat, k ≤ S.waits.length ∧ i = .int .i64 k ∧ Hid (Half wr w base R S k v u))
    (fun _ _ i _ => S.waits.length - (intOf i).toNat)
  case atStart => exact ⟨0, Nat.zero_le _, rfl, HH⟩
  case round =>
    clear HH
    obtain ⟨k, hk, rfl, HH⟩ := hrel
    have q2 : wr.cell? ⟨R.rb, 2, none⟩ = some R.wv := HH.out.rep.rblk.cell 2
    have hsl : S.asked.waits = S.waits := rfl
    by_cases hlt : k < S.waits.length
    · obtain ⟨p, hp⟩ : ∃ p, S.waits[k]? = some p := ⟨_, List.getElem?_eq_getElem hlt⟩
      obtain ⟨g, cap, hwv, hcc⟩ := HH.out.rep.wv.form (by rw [hsl]; omega)
      have hrow := HH.out.rep.wv
      rw [hwv] at q2 hrow
      have hw0 := wait_at S.waits k p hp
      have d0 : wr.cell? ⟨g, k * 2, none⟩ = some (.int .i64 p.1) := by
        have := hrow.cells (g := g) rfl (k * 2) _ hw0.1
        rw [addrAdd, Nat.zero_add] at this
        exact this
      have d1 : wr.cell? ⟨g, k * 2 + 1, none⟩ = some (.int .i64 p.2) := by
        have := hrow.cells (g := g) rfl (k * 2 + 1) _ hw0.2
        rw [addrAdd, Nat.zero_add] at this
        exact this
      have hli : (k : Int) < (S.asked.waits.length : Int) := by rw [hsl]; omega
      have hln : k < S.asked.waits.length := hlt
      have hkb : k ≤ 140737488355328 := by omega
      have HP := Lib.hid hp
      clear hp hrow hwv hw0 hcc
      have hsz := HH.out.kept.size
      by_cases hold : p.2 < safeOf S
      · have hd : decide (p.2 < safeOf S) = true := by simp; omega
        have HO : Hid (isOld (safeOf S) true p = true ∧ isOld (safeOf S) false p = false) := by
          unfold isOld
          rw [hd]
          exact ⟨rfl, rfl⟩
        have HL := HFL.out true k
        clear hold
        go_wp2_with (at_builtin; refine wpList_append_own _ (by rfl) (.tmp 28) (.tmp 37) 34 (by rfl) w.heap.size 3 i3 (.int .i64 0) 1 8 Try.underlying34 hi3 hz30 hz31 hz32 (by rfl) (by decide) _ _ _ (by rfl) (HH.out.out.alloc _) ⟨wr.heap.size, 0, none⟩ 1 1 [.int .i64 p.1] (by rfl) (by rfl) (World.news_of_block (heap_alloc_new _ _)) (by simp [Value.oneCell']) (by unfold maxLen; omega) (by omega) (by rw [World.size_alloc]; omega) ?_; intro v' w2 hown2 hgrow _)
        go_roundw
        case rel => exact ⟨k + 1, by omega, by go_num, Lib.hid (HH.out.stepOut HP.out HO.out.1 HO.out.2 hown2 hgrow)⟩
        case measure => simp [intOf]; omega
      · have hd : decide (p.2 < safeOf S) = false := by simp; omega
        have HO : Hid (isOld (safeOf S) true p = false ∧ isOld (safeOf S) false p = true) := by
          unfold isOld
          rw [hd]
          exact ⟨rfl, rfl⟩
        have HL := HFL.out false k
        clear hold
        go_wp2_with (at_builtin; refine wpList_append_own _ (by rfl) (.tmp 39) (.tmp 47) 44 (by rfl) w.heap.size 71 i71 (.agg #[.int .i64 0, .int .i64 0]) 2 16 Try.underlying44 hi71 hz710 hz711 hz712 (by rfl) (by decide) _ _ _ (by rfl) (HH.out.left.alloc _) ⟨wr.heap.size, 0, none⟩ 1 1 [.int .i64 p.1, .int .i64 p.2] (by rfl) (by rfl) (World.news_of_block (heap_alloc_new _ _)) (by simp [Value.oneCell']) (by unfold maxLen; omega) (by omega) (by rw [World.size_alloc]; omega) ?_; intro v' w2 hown2 hgrow _)
        go_roundw
        case rel => exact ⟨k + 1, by omega, by go_num, Lib.hid (HH.out.stepLeft HP.out HO.out.1 HO.out.2 hown2 hgrow)⟩
        case measure => simp [intOf]; omega
    · have hkl : k = S.waits.length := by omega
      obtain ⟨A, c, hwv⟩ := own_form HH.out.rep.wv
      obtain ⟨A2, c2, hu⟩ := own_form HH.out.left
      rw [hwv] at q2
      have q2f : wr.frozen? ⟨R.rb, 2, none⟩ = false := HH.out.rep.rblk.frozen 2
      have hln : ¬ k < S.asked.waits.length := by rw [hsl]; omega
      have HD := HH.out
      rw [hkl] at HD
      have HDN := Lib.hid (HD.done hbase)
      rw [hkl, List.take_length] at hu
      have HU := Lib.hid hu
      clear HD hwv
      go_wp2_with fail
      go_ret
      have h9 := HDN.out
      rw [HU.out] at h9
      exact ⟨u4, .slice A2 (List.filter (isOld (safeOf S) false) S.waits).length c2, rfl, h9⟩
end
end Ytbefknaffopeaaa
end Go.Proofs
