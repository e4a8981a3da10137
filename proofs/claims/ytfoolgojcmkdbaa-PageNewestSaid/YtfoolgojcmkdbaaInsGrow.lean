/-
  slices.Insert of one item ahead of others, where there is no room: a new row. And slices.Insert at any place.
-/
import Derived.Test.YtfoolgojcmkdbaaInsMid
import Derived.Test.YtfoolgojcmkdbaaEnc
set_option maxHeartbeats 8000000
set_option maxRecDepth 100000
namespace Go.Proofs
open Go.RowKit
namespace Ytfoolgojcmkdbaa
attribute [local go_sem ↓] Go.wp_at_zero Go.wp_at_succ
/-- In a new row: the row behind the two copies. -/
theorem grow_take {R L X : List Value} {N o : Nat} (hR : R.take o = L.take o) (hL : L.length = N) (ho : o ≤ N) (hX : X.length = 4) (hN : N + 4 ≤ R.length) :
    ((R.take o ++ X ++ R.drop (o + 4)).take (o + 4) ++ L.drop o ++ (R.take o ++ X ++ R.drop (o + 4)).drop (o + 4 + (L.drop o).length)).take (N + 4) = L.take o ++ X ++ L.drop o := by
  have h0 : (R.take o ++ X).length = o + 4 := by rw [List.length_append, List.length_take, hX]; omega
  have h1 : (R.take o ++ X ++ R.drop (o + 4)).take (o + 4) = R.take o ++ X := by
    rw [List.take_append_of_le_length (by rw [h0]; exact Nat.le_refl _), ← h0, List.take_length]
  rw [h1, hR]
  have h3 : (L.take o ++ X ++ L.drop o).length = N + 4 := by simp [hL, hX]; omega
  rw [List.take_append_of_le_length (by rw [h3]; exact Nat.le_refl _), ← h3, List.take_length]
theorem insert_grow (l : List Item) (x : Item) (i : Nat) (hi : i < l.length) (hl : l.length ≤ 1000) (W : World) (base g c vb : Nat) (cur : Array Value) (hbase : base ≤ W.heap.size) (hg : Blk W g 30 cur) (htake : cur.toList.take (l.length * 4) = l.flatMap ics) (hv : Blk W vb 30 (ics x).toArray) (hlc : l.length ≤ c) (hroom : c < l.length + 1) :
    Calls Try.prog 26 #[.slice (some ⟨g, 0, none⟩) l.length c, .int .i64 i, .slice (some ⟨vb, 0, none⟩) 1 1] W fun e w' => ∃ A' c', e = .returned (.slice A' (l.length + 1) c') ∧ Hid (ItO w' base (.slice A' (l.length + 1) c') (l.take i ++ x :: l.drop i)) ∧
      Hid (∀ q, (Value.slice A' (l.length + 1) c').ownBlock = some q → (Value.slice (some ⟨g, 0, none⟩) l.length c).ownBlock = some q ∨ W.heap.size ≤ q) ∧ Kept (fun b => (Value.slice (some ⟨g, 0, none⟩) l.length c).ownBlock ≠ some b) W w' := by
  obtain ⟨i0, h0, hz0, hs0, hb0⟩ := info_parts Try.info30
  have hsz30 : (Try.prog.info? 30).map (·.size) = some 4 := by rw [h0]; simp [hs0]
  have hfl : (l.flatMap ics).length = l.length * 4 := flat_len encI l
  have hgh : g ≠ W.heap.size := Nat.ne_of_lt hg.lt
  have hvh : vb ≠ W.heap.size := Nat.ne_of_lt hv.lt
  have hdl : ((l.flatMap ics).drop (i * 4)).length = (l.length - i) * 4 := by rw [List.length_drop, hfl, Nat.sub_mul]
  have hold : (Builtin.firstCells i0.size i (.slice (some ⟨g, 0, none⟩) i c)).run Try.prog W.drew = .ok ((l.flatMap ics).take (i * 4)).toArray W.drew := by
    rw [hs0]
    refine run_firstCells_some W.drew 4 i ⟨g, 0, none⟩ i c _ (by rw [List.length_take, hfl]; omega) (fun j v hj => ?_)
    rw [addr_add, Nat.zero_add]
    show W.cell? _ = _
    rw [hg.cell]
    rw [List.getElem?_take] at hj
    split at hj
    · rw [← htake, List.getElem?_take] at hj
      split at hj
      · simpa using hj
      · cases hj
    · cases hj
  have hkk : (l.length : Int) + 1 - (i : Int) = ((l.length + 1 - i : Nat) : Int) := by omega
  have hik : i + (l.length + 1 - i) = l.length + 1 := by omega
  have hrz := fun ty => Lib.run_append_grow_zeros W 22 3 ty 30 i0 _ .i64 .i64 Try.underlying22 Try.underlying3 h0 hz0 (some ⟨g, 0, none⟩) i c _ hold (l.length + 1 - i) (by omega) (by omega) (by omega) (by omega) (by rw [hb0]; omega) (by rw [hb0, hik]; exact growslice_fits hroom (by omega))
  simp only [hik, ← hkk] at hrz
  obtain ⟨G, hG⟩ : ∃ G, G = grownCap W (l.length + 1) c 30 := ⟨_, rfl⟩
  rw [← hG] at hrz
  have hGn : l.length + 1 ≤ G := by rw [hG]; exact grownCap_ge W _ _ _
  have hGm : G ≤ maxLen := by
    rw [hG]
    exact grownCap_le_maxLen W (l.length + 1) c 30 (by unfold maxLen; omega)
  obtain ⟨R, hR⟩ : ∃ R : Array Value, R = ((l.flatMap ics).take (i * 4)).toArray ++ Builtin.zeroCells (Value.agg #[.string ⟨#[]⟩, .string ⟨#[]⟩, .int .i64 0, .bool false]).cells (l.length + 1 - i) ++ Builtin.zeroCells (Value.agg #[.string ⟨#[]⟩, .string ⟨#[]⟩, .int .i64 0, .bool false]).cells (G - (l.length + 1)) := ⟨_, rfl⟩
  rw [← hR] at hrz
  have hRs : R.size = G * 4 := by
    have hz4 : (Value.agg #[.string ⟨#[]⟩, .string ⟨#[]⟩, .int .i64 0, .bool false]).cells.size = 4 := rfl
    rw [hR]
    simp only [Array.size_append, List.size_toArray, size_zeroCells, hz4, List.length_take, hfl]
    rw [Nat.min_eq_left (by omega)]
    omega
  have hRt : R.toList.take (i * 4) = (l.flatMap ics).take (i * 4) := by
    rw [hR, Array.append_assoc, Array.toList_append, List.toList_toArray]
    have : ((l.flatMap ics).take (i * 4)).length = i * 4 := by rw [List.length_take, hfl]; omega
    rw [List.take_append_of_le_length (by rw [this]; exact Nat.le_refl _), List.take_take, Nat.min_self]
  clear hR hG hold hz0 hkk hik
  have hB1 : Blk (W.alloc (.cells R 30)).drew W.heap.size 30 R := (Blk.new W 30 R).drew
  have hv1 : Blk (W.alloc (.cells R 30)).drew vb 30 (ics x).toArray := (hv.alloc _).drew
  have hg1 : Blk (W.alloc (.cells R 30)).drew g 30 cur := (hg.alloc _).drew
  have hm1 : Nat.min 1 (l.length + 1 - i) = 1 := by simp only [Nat.min_def]; split <;> omega
  have hm2 : Nat.min (l.length - i) (l.length - i) = l.length - i := Nat.min_self _
  have hc1 : ∀ dc, (Builtin.copy_ #[22, 22] 3 #[.slice (some ⟨W.heap.size, i * 4, none⟩) (l.length + 1 - i) dc, .slice (some ⟨vb, 0, none⟩) 1 1]).run Try.prog (W.alloc (.cells R 30)).drew =
      .ok (goInt 1) ((W.alloc (.cells R 30)).drew.setRow W.heap.size (R.toList.take (i * 4) ++ ics x ++ R.toList.drop (i * 4 + 4)).toArray) := fun dc => by
    have := run_copy_rowK (P := Try.prog) (w := (W.alloc (.cells R 30)).drew) 22 22 3 30 W.heap.size (i * 4) (l.length + 1 - i) dc ⟨vb, 0, none⟩ 1 1 4 R 30 (ics x) Try.underlying22 hsz30 hB1 (by rw [hm1]; rfl)
      (fun j v hj => by
        rw [addr_add, Nat.zero_add, hv1.cell]
        simpa using hj) (by simp [ics, hRs]; omega) (encI.one x)
    rw [hm1] at this
    exact this
  have hst := grow_take (R := R.toList) (L := l.flatMap ics) (X := ics x) (N := l.length * 4) (o := i * 4) hRt hfl (by omega) rfl (by simp only [Array.length_toList, hRs]; omega)
  obtain ⟨C1, hC1⟩ : ∃ C1, R.toList.take (i * 4) ++ ics x ++ R.toList.drop (i * 4 + 4) = C1 := ⟨_, rfl⟩
  rw [hC1] at hc1 hst
  have hC1l : C1.length = G * 4 := by rw [← hC1]; simp [ics, hRs]; omega
  have hB2 : Blk ((W.alloc (.cells R 30)).drew.setRow W.heap.size C1.toArray) W.heap.size 30 C1.toArray := setRow_heap _ _ R _ 30 _ hB1
  have hg2 : Blk ((W.alloc (.cells R 30)).drew.setRow W.heap.size C1.toArray) g 30 cur := (setRow_other _ W.heap.size g _ hgh).trans hg1
  have hc2 : ∀ dc sc, (Builtin.copy_ #[22, 22] 3 #[.slice (some ⟨W.heap.size, (i + 1) * 4, none⟩) (l.length - i) dc, .slice (some ⟨g, i * 4, none⟩) (l.length - i) sc]).run Try.prog ((W.alloc (.cells R 30)).drew.setRow W.heap.size C1.toArray).drew =
      .ok (goInt ((l.length - i : Nat) : Int)) (((W.alloc (.cells R 30)).drew.setRow W.heap.size C1.toArray).drew.setRow W.heap.size (C1.take (i * 4 + 4) ++ (l.flatMap ics).drop (i * 4) ++ C1.drop (i * 4 + 4 + ((l.flatMap ics).drop (i * 4)).length)).toArray) := fun dc sc => by
    have := run_copy_rowK (P := Try.prog) (w := ((W.alloc (.cells R 30)).drew.setRow W.heap.size C1.toArray).drew) 22 22 3 30 W.heap.size ((i + 1) * 4) (l.length - i) dc ⟨g, i * 4, none⟩ (l.length - i) sc 4 C1.toArray 30 ((l.flatMap ics).drop (i * 4)) Try.underlying22 hsz30 hB2.drew (by rw [hm2]; exact hdl)
      (fun j v hj => by
        rw [addr_add]
        rw [hg2.drew.cell]
        rw [List.getElem?_drop] at hj
        rw [← htake, List.getElem?_take] at hj
        split at hj
        · simpa using hj
        · cases hj) (by rw [hdl]; simp [hC1l]; omega) (fun v hv => flat_one encI l v (List.mem_of_mem_drop hv))
    rw [hm2, show (i + 1) * 4 = i * 4 + 4 by omega] at this
    rw [show (i + 1) * 4 = i * 4 + 4 by omega]
    exact this
  obtain ⟨C2, hC2⟩ : ∃ C2, C1.take (i * 4 + 4) ++ (l.flatMap ics).drop (i * 4) ++ C1.drop (i * 4 + 4 + ((l.flatMap ics).drop (i * 4)).length) = C2 := ⟨_, rfl⟩
  rw [hC2] at hc2 hst
  have hC2l : C2.length = G * 4 := by rw [← hC2]; simp [hdl, hC1l]; omega
  have hB3 : Blk (((W.alloc (.cells R 30)).drew.setRow W.heap.size C1.toArray).drew.setRow W.heap.size C2.toArray) W.heap.size 30 C2.toArray := setRow_heap _ _ _ _ 30 _ hB2.drew
  have hfin : ItO (((W.alloc (.cells R 30)).drew.setRow W.heap.size C1.toArray).drew.setRow W.heap.size C2.toArray) base (.slice (some ⟨W.heap.size, 0, none⟩) (l.length + 1) G) (l.take i ++ x :: l.drop i) := by
    have hlen : (l.take i ++ x :: l.drop i).length = l.length + 1 := by simp; omega
    refine .inr ⟨W.heap.size, G, _, by rw [hlen], hbase, hB3, by rw [hlen]; exact hGn, by simp [hC2l], hGm, ?_⟩
    rw [hlen, mid_cells l x i (by omega), List.toList_toArray, show (l.length + 1) * 4 = l.length * 4 + 4 by omega]
    exact hst
  have hkp : Kept (fun b => (Value.slice (some ⟨g, 0, none⟩) l.length c).ownBlock ≠ some b) W (((W.alloc (.cells R 30)).drew.setRow W.heap.size C1.toArray).drew.setRow W.heap.size C2.toArray) := by
    have k1 : Kept (fun b => (Value.slice (some ⟨g, 0, none⟩) l.length c).ownBlock ≠ some b) W (W.alloc (.cells R 30)).drew := ((Kept.refl _ W).alloc _).drew
    obtain ⟨e1, e2, e3, e4, e5⟩ := k1
    refine ⟨e1, e2, e3, by simp [World.setRow], fun k hk hK => ?_⟩
    have hkg : k ≠ W.heap.size := Nat.ne_of_lt hk
    rw [setRow_other _ _ k _ hkg]
    refine (setRow_other (W.alloc (.cells R 30)).drew _ k _ hkg).trans ?_
    exact e5 k hk hK
  have HFIN := Lib.hid hfin
  have HKP := Lib.hid hkp
  clear hB1 hv1 hg1 hB2 hg2 hB3 hst hfin hkp hC1 hC2 hC1l hC2l hRs hRt hv hg
  generalize C2.toArray = c2 at hc2 HFIN HKP
  generalize C1.toArray = c1 at hc1 hc2 HFIN HKP
  have hn1 : IntKind.i64.wrap ((l.length : Int) + 1) = (l.length : Int) + 1 := by rw [IntKind.wrap_i64]; omega
  have hni : IntKind.i64.wrap ((l.length : Int) + 1 - (i : Int)) = (l.length : Int) + 1 - (i : Int) := by rw [IntKind.wrap_i64]; omega
  have hi1 : IntKind.i64.wrap ((i : Int) + 1) = (i : Int) + 1 := by rw [IntKind.wrap_i64]; omega
  have hne : ¬ ((i : Int) = (l.length : Int)) := by omega
  have hgt : decide ((c : Int) < (l.length : Int) + 1) = true := by simp; omega
  have hb1 : (0 : Int) ≤ (i : Int) + 1 := by omega
  have hb2 : i ≤ l.length := by omega
  have hb3 : (i : Int) ≤ (l.length : Int) + 1 := by omega
  have hb4 : ¬ (G = i + 1) := by omega
  have hb5 : ¬ (G = i) := by omega
  have hb6 : ¬ (c = i) := by omega
  have hb7 : i ≤ l.length + 1 := by omega
  go_enter Try.func26, Try.ntmps26
  go_wp2_with (first
    | (at_builtin; refine wpList_append_run2 rfl (.tmp 34) (.tmp 39) 22 3 rfl rfl rfl (hrz _) ?_)
    | (at_builtin; refine wpList_copy_run rfl (.tmp 43) (.tmp 44) 22 22 rfl rfl rfl (hc1 _) ?_))
  refine wp_region_held_drew (S := (fun _ => True)) (by kernel_rfl) ?_ (fun hHeld => ?_)
  · trivial
  refine wpAnyH_take (i := 0) (v := ?vz1) rfl (by kernel_rfl) (by kernel_rfl) (by kernel_rfl) (fun _ _ _ h => h) (Or.inl ⟨?wz1, ?yz1⟩) (by assumption) ?rz1
  case yz1 => (intro w hSw; (try dsimp only at hSw); go_simp; try with_reducible rfl)
  case wz1 => rfl
  case' rz1 => simp only [Act.put, List.getElem_toArray, List.getElem_cons_zero, List.setIfInBounds_toArray, List.set_cons_zero, List.set_cons_succ]
  refine wpAnyH_take (i := 1) (v := ?vz2) rfl (by kernel_rfl) (by kernel_rfl) (by kernel_rfl) (fun _ _ _ h => h) (Or.inl ⟨?wz2, ?yz2⟩) (by assumption) ?rz2
  case yz2 => (intro w hSw; (try dsimp only at hSw); go_simp; try with_reducible rfl)
  case wz2 => rfl
  case' rz2 => simp only [Act.put, List.getElem_toArray, List.getElem_cons_zero, List.getElem_cons_succ, List.setIfInBounds_toArray, List.set_cons_zero, List.set_cons_succ]
  refine wpAnyH_take (i := 2) (v := ?vz3) rfl (by kernel_rfl) (by kernel_rfl) (by kernel_rfl) (fun _ _ _ h => h) (Or.inl ⟨?wz3, ?yz3⟩) (by assumption) ?rz3
  case yz3 => (intro w hSw; (try dsimp only at hSw); go_simp; try with_reducible rfl)
  case wz3 => rfl
  case' rz3 => simp only [Act.put, List.getElem_toArray, List.getElem_cons_zero, List.getElem_cons_succ, List.setIfInBounds_toArray, List.set_cons_zero, List.set_cons_succ]
  refine wpAnyH_take (i := 3) (v := ?vz4) rfl (by kernel_rfl) (by kernel_rfl) (by kernel_rfl) (fun _ _ _ h => h) (Or.inl ⟨?wz4, ?yz4⟩) (by assumption) ?rz4
  case yz4 => (intro w hSw; (try dsimp only at hSw); go_simp; try with_reducible rfl)
  case wz4 => rfl
  case' rz4 => simp only [Act.put, List.getElem_toArray, List.getElem_cons_zero, List.getElem_cons_succ, List.setIfInBounds_toArray, List.set_cons_zero, List.set_cons_succ]
  refine wpAnyH_take (i := 4) (v := ?vz5) rfl (by kernel_rfl) (by kernel_rfl) (by kernel_rfl) (fun _ _ _ h => h) (Or.inl ⟨?wz5, ?yz5⟩) (by assumption) ?rz5
  case yz5 => (intro w hSw; (try dsimp only at hSw); go_simp; try with_reducible rfl)
  case wz5 => rfl
  case' rz5 => simp only [Act.put, List.getElem_toArray, List.getElem_cons_zero, List.getElem_cons_succ, List.setIfInBounds_toArray, List.set_cons_zero, List.set_cons_succ]
  refine wpAnyH_take (i := 5) (v := ?vz6) rfl (by kernel_rfl) (by kernel_rfl) (by kernel_rfl) (fun _ _ _ h => h) (Or.inl ⟨?wz6, ?yz6⟩) (by assumption) ?rz6
  case yz6 => (intro w hSw; (try dsimp only at hSw); go_simp; try with_reducible rfl)
  case wz6 => rfl
  case' rz6 => simp only [Act.put, List.getElem_toArray, List.getElem_cons_zero, List.getElem_cons_succ, List.setIfInBounds_toArray, List.set_cons_zero, List.set_cons_succ]
  refine wpAnyH_take (i := 6) (v := ?vz7) rfl (by kernel_rfl) (by kernel_rfl) (by kernel_rfl) (fun _ _ _ h => h) (Or.inl ⟨?wz7, ?yz7⟩) (by assumption) ?rz7
  case yz7 => (intro w hSw; (try dsimp only at hSw); go_simp; try with_reducible rfl)
  case wz7 => rfl
  case' rz7 => simp only [Act.put, List.getElem_toArray, List.getElem_cons_zero, List.getElem_cons_succ, List.setIfInBounds_toArray, List.set_cons_zero, List.set_cons_succ]
  refine wpAnyH_take (i := 7) (v := ?vz8) rfl (by kernel_rfl) (by kernel_rfl) (by kernel_rfl) (fun _ _ _ h => h) (Or.inl ⟨?wz8, ?yz8⟩) (by assumption) ?rz8
  case yz8 => (intro w hSw; (try dsimp only at hSw); go_simp; try with_reducible rfl)
  case wz8 => rfl
  case' rz8 => simp only [Act.put, List.getElem_toArray, List.getElem_cons_zero, List.getElem_cons_succ, List.setIfInBounds_toArray, List.set_cons_zero, List.set_cons_succ]
  refine wpAnyH_ready (rs := [8]) (by kernel_rfl) (by simp) ?_
  refine AllReadyH.cons rfl (fun K hK => ?_) AllReadyH.nil
  (refine step_copy_run rfl (.tmp 50) (.tmp 53) 22 22 rfl (by simp [Act.eval]) (by simp [Act.eval]) (hc2 (G - (i + 1)) (c - i)) ?_)
  refine hK.out _ _ ?_ (fun hHeld => ?_)
  · trivial
  clear hK K
  try simp only [Act.put, List.getElem_toArray, List.getElem_cons_zero, List.getElem_cons_succ, List.setIfInBounds_toArray, List.set_cons_zero, List.set_cons_succ]
  refine wpAnyH_done (by kernel_rfl) ?_ _
  go_wp2_with fail
  go_ret
  exact ⟨some ⟨W.heap.size, 0, none⟩, G, rfl, HFIN, Lib.hid fun q hq => .inr (by
    have : q = W.heap.size := by simpa [Value.ownBlock] using hq.symm
    omega), HKP.out⟩
/-- slices.Insert of one item at any place of a list of one's own. -/
theorem insert_any (l : List Item) (x : Item) (i : Nat) (hi : i ≤ l.length) (hl : l.length ≤ 1000) : InsertAt l i x := by
  by_cases he : i = l.length
  · subst he
    exact insert_end l x (by omega)
  · intro W base A c vb ho hv hne hbase
    rcases ho with ⟨h0, h1⟩ | ⟨g, cap, cur, h0, hbg, hg, hnc, hcc, hcm, htake⟩
    · injection h0 with _ h2 _
      omega
    · injection h0 with hA _ hc
      subst hA
      subst hc
      by_cases hroom : l.length + 1 ≤ c
      · exact insert_shift l x i (by omega) hl W base g c vb cur hbg hg hcc hcm htake hv (hne g rfl) hroom
      · exact insert_grow l x i (by omega) hl W base g c vb cur hbase hg htake hv hnc (by omega)
end Ytfoolgojcmkdbaa
end Go.Proofs
