/-
  slices.Insert of one item ahead of others: in place, and into a new row.
-/
import Derived.Test.YtfoolgojcmkdbaaInsEnd
import Derived.Lib.Overlaps
import Derived.Lib.AppendZerosOnto
import Derived.Laws.CopyRow
set_option maxHeartbeats 8000000
set_option maxRecDepth 100000
namespace Go.Proofs
open Go.RowKit
namespace Ytfoolgojcmkdbaa
attribute [local go_sem ↓] Go.wp_at_zero Go.wp_at_succ
section
variable {P : Program} {w : World}
theorem run_copy_rowK (dT sT ty elem : TypeId) (g o dLen dCap : Nat) (a : Addr) (sLen sCap s : Nat) (cur : Array Value) (t : TypeId) (cs : List Value)
    (hu : P.underlying dT = some (.slice elem)) (hs : (P.info? elem).map (·.size) = some s) (hg : Blk w g t cur) (hn : cs.length = Nat.min sLen dLen * s)
    (hsrc : ∀ j v, cs[j]? = some v → w.cell? (a.add j) = some v) (hfit : o + cs.length ≤ cur.size) (h1 : ∀ v ∈ cs, v.oneCell' = true) :
    (Builtin.copy_ #[dT, sT] ty #[.slice (some ⟨g, o, none⟩) dLen dCap, .slice (some a) sLen sCap]).run P w =
      .ok (goInt (Nat.min sLen dLen)) (w.setRow g (cur.toList.take o ++ cs ++ cur.toList.drop (o + cs.length)).toArray) := by
  have hl := run_firstCells_some (P := P) w s (Nat.min sLen dLen) a sLen sCap cs hn hsrc
  have hst := run_storeCells_at P g o t cs 0 cur w hg (by simpa using hfit) h1
  simp only [Nat.add_zero] at hst
  cases hq : P.info? elem with
  | none => simp [hq] at hs
  | some i =>
    have hi : i.size = s := by simpa [hq] using hs
    simp [Builtin.copy_, run_underlying hu, Builtin.lenOf, sizeOf, typeInfo, hq, hi, hl, hst]
theorem wp_copy_run {o : Oper} {a : Act} {K : Act → World → Prop} {Q : Exit → Act → World → Prop} (d s : Operand) (t t' : TypeId)
    (ho : o.op = .call { callee := .builtin .copy, args := #[d, s], argTypes := #[t, t'] }) {v u v' : Value} {w' : World} (hd : a.eval d = v) (hs : a.eval s = u)
    (hr : (Builtin.copy_ #[t, t'] o.type #[v, u]).run P w = .ok v' w') (h : K (a.put o.dst v') w') : o.wp P a w K Q := by
  unfold Oper.wp execOp
  simp only [ho, resolve, invoke, builtin, Sem.run_bind, Sem.run_pure, Result.andThen_ok, List.map_toArray, List.map_cons, List.map_nil, hd, hs, hr]
  exact h
theorem wpList_copy_run {ops : Array Oper} {rest : List Oper} {o : Oper} {a : Act} {Q : Exit → Act → World → Prop} (hgd : o.guard = none) (d s : Operand) (t t' : TypeId)
    (ho : o.op = .call { callee := .builtin .copy, args := #[d, s], argTypes := #[t, t'] }) {v u v' : Value} {w' : World} (hd : a.eval d = v) (hs : a.eval s = u)
    (hr : (Builtin.copy_ #[t, t'] o.type #[v, u]).run P w = .ok v' w') (h : wpList P ops Q rest (a.put o.dst v') w') : wpList P ops Q (o :: rest) a w :=
  wpList_plain hgd fun _ hK => wp_copy_run d s t t' ho hd hs hr (hK _ _ h)
theorem step_copy_run {ops : Array Oper} {o : Oper} {a : Act} {K : Act → World → Prop} {Q : Exit → Act → World → Prop} {E : Prop} (hgd : o.guard = none) (d s : Operand) (t t' : TypeId)
    (ho : o.op = .call { callee := .builtin .copy, args := #[d, s], argTypes := #[t, t'] }) {v u v' : Value} {w' : World} (hd : a.eval d = v) (hs : a.eval s = u)
    (hr : (Builtin.copy_ #[t, t'] o.type #[v, u]).run P w = .ok v' w') (h : K (a.put o.dst v') w') : if Region.wanted o (yielded ops a.tmps) = true then Oper.wp P o a w K Q else E := by
  have hw : Region.wanted o (yielded ops a.tmps) = true := by simp [Region.wanted, hgd]
  rw [if_pos hw]
  exact wp_copy_run d s t t' ho hd hs hr h
end
theorem shape_blk {w : World} {g : Nat} {t : TypeId} {cs : Array Value} (h : Blk w g t cs) : w.shape? g = some (t, cs.size) := by
  unfold Blk at h
  simp [World.shape?, h]
/-- What one copy and another leave of a row: an element more. -/
theorem mid_cells (l : List Item) (x : Item) (i : Nat) (hi : i ≤ l.length) : (l.take i ++ x :: l.drop i).flatMap ics = (l.flatMap ics).take (i * 4) ++ ics x ++ (l.flatMap ics).drop (i * 4) := by
  have e1 : (l.take i).flatMap ics = (l.flatMap ics).take (i * 4) := by
    have h1 : (l.take i).flatMap ics ++ (l.drop i).flatMap ics = l.flatMap ics := by rw [← List.flatMap_append, List.take_append_drop]
    rw [← h1]
    have h2 : ((l.take i).flatMap ics).length = i * 4 := by rw [flat_len encI, List.length_take, Nat.min_eq_left hi]
    rw [← h2]
    exact List.take_left.symm
  have e2 : (l.drop i).flatMap ics = (l.flatMap ics).drop (i * 4) := by
    have h1 : (l.take i).flatMap ics ++ (l.drop i).flatMap ics = l.flatMap ics := by rw [← List.flatMap_append, List.take_append_drop]
    rw [← h1]
    have h2 : ((l.take i).flatMap ics).length = i * 4 := by rw [flat_len encI, List.length_take, Nat.min_eq_left hi]
    rw [← h2]
    exact List.drop_left.symm
  rw [List.flatMap_append, List.flatMap_cons, e1, e2, List.append_assoc]
/-- In place: the row behind the two copies. -/
theorem shift_take {C L X : List Value} {N o : Nat} (hC : C.take N = L) (hL : L.length = N) (ho : o ≤ N) (hX : X.length = 4) (hN : N + 4 ≤ C.length) :
    ((C.take (o + 4) ++ L.drop o ++ C.drop (o + 4 + (L.drop o).length)).take o ++ X ++ (C.take (o + 4) ++ L.drop o ++ C.drop (o + 4 + (L.drop o).length)).drop (o + 4)).take (N + 4) = L.take o ++ X ++ L.drop o := by
  have h1 : (C.take (o + 4) ++ L.drop o ++ C.drop (o + 4 + (L.drop o).length)).take o = L.take o := by
    rw [List.append_assoc, List.take_append_of_le_length (by rw [List.length_take]; omega), List.take_take, Nat.min_eq_left (by omega), ← hC, List.take_take, Nat.min_eq_left ho]
  have h2 : (C.take (o + 4) ++ L.drop o ++ C.drop (o + 4 + (L.drop o).length)).drop (o + 4) = L.drop o ++ C.drop (o + 4 + (L.drop o).length) := by
    rw [List.append_assoc, List.drop_append_of_le_length (by rw [List.length_take]; omega), List.drop_of_length_le (by rw [List.length_take]; omega), List.nil_append]
  rw [h1, h2, ← List.append_assoc]
  have h3 : (L.take o ++ X ++ L.drop o).length = N + 4 := by simp [hL, hX]; omega
  rw [List.take_append_of_le_length (by rw [h3]; exact Nat.le_refl _), ← h3, List.take_length]
theorem insert_shift (l : List Item) (x : Item) (i : Nat) (hi : i < l.length) (hl : l.length ≤ 1000) (W : World) (base g c vb : Nat) (cur : Array Value) (hbg : base ≤ g) (hg : Blk W g 30 cur) (hcc : c * 4 ≤ cur.size) (hcm : c ≤ maxLen) (htake : cur.toList.take (l.length * 4) = l.flatMap ics) (hv : Blk W vb 30 (ics x).toArray) (hgv : g ≠ vb) (hroom : l.length + 1 ≤ c) :
    Calls Try.prog 26 #[.slice (some ⟨g, 0, none⟩) l.length c, .int .i64 i, .slice (some ⟨vb, 0, none⟩) 1 1] W fun e w' => ∃ A' c', e = .returned (.slice A' (l.length + 1) c') ∧ Hid (ItO w' base (.slice A' (l.length + 1) c') (l.take i ++ x :: l.drop i)) ∧
      Hid (∀ q, (Value.slice A' (l.length + 1) c').ownBlock = some q → (Value.slice (some ⟨g, 0, none⟩) l.length c).ownBlock = some q ∨ W.heap.size ≤ q) ∧ Kept (fun b => (Value.slice (some ⟨g, 0, none⟩) l.length c).ownBlock ≠ some b) W w' := by
  have hsz30 : (Try.prog.info? 30).map (·.size) = some 4 := by
    obtain ⟨i0, h0, _, h2, _⟩ := info_parts Try.info30
    rw [h0]; simp [h2]
  have hfl : (l.flatMap ics).length = l.length * 4 := flat_len encI l
  have hov : ∀ lb cb, (callFunc 43 #[.slice (some ⟨vb, 0, none⟩) 1 1, .slice (some ⟨g, (i + 1) * 4, none⟩) lb cb]).run Try.prog W = .ok (.value (.bool false)) W := fun lb cb => by
    rw [run_callFunc_extern Try.func43 (by kernel_rfl) (by kernel_rfl) (by kernel_rfl) (e := Extern.SlicesOverlaps.overlaps #[22, 22] #[4]) (by kernel_rfl),
      Lib.run_overlaps_apart W 22 4 30 Try.underlying22 4 Try.sizeOf30 ⟨vb, 0, none⟩ ⟨g, (i + 1) * 4, none⟩ 1 1 lb cb (Ne.symm hgv) 30 30 4 cur.size (shape_blk hv) (shape_blk hg) (by omega) (hv.frozen 0) (hv.frozen 4)]
    rfl
  have hn1 : IntKind.i64.wrap ((l.length : Int) + 1) = (l.length : Int) + 1 := by rw [IntKind.wrap_i64]; omega
  have hi1 : IntKind.i64.wrap ((i : Int) + 1) = (i : Int) + 1 := by rw [IntKind.wrap_i64]; omega
  have hne : ¬ ((i : Int) = (l.length : Int)) := by omega
  have hne' : ((i : Int) == (l.length : Int)) = false := by simp; omega
  have hgt : decide ((c : Int) < (l.length : Int) + 1) = false := by simp; omega
  have hb1 : (0 : Int) ≤ (i : Int) + 1 := by omega
  have hb2 : i ≤ l.length := by omega
  have hb3 : (i : Int) ≤ (l.length : Int) + 1 := by omega
  have hb4 : ¬ (c = i + 1) := by omega
  have hb5 : ¬ (c = i) := by omega
  go_enter Try.func26, Try.ntmps26
  go_wp2_with (simp only [hov])
  have g1 : IntKind.i64.wrap ((i : Int) + 1) = (i : Int) + 1 := hi1
  have hdl : ((l.flatMap ics).drop (i * 4)).length = (l.length - i) * 4 := by rw [List.length_drop, hfl, Nat.sub_mul]
  have hmin : Nat.min (l.length + 1 - i) (l.length - i) = l.length - i := by simp only [Nat.min_def]; split <;> omega
  have hcs : cur.size = cur.toList.length := (Array.length_toList).symm
  have hr1 : ∀ dc sc, (Builtin.copy_ #[22, 22] 3 #[.slice (some ⟨g, (i + 1) * 4, none⟩) (l.length - i) dc, .slice (some ⟨g, i * 4, none⟩) (l.length + 1 - i) sc]).run Try.prog W.drew =
      .ok (goInt ((l.length - i : Nat) : Int)) (W.drew.setRow g (cur.toList.take (i * 4 + 4) ++ (l.flatMap ics).drop (i * 4) ++ cur.toList.drop (i * 4 + 4 + ((l.flatMap ics).drop (i * 4)).length)).toArray) := fun dc sc => by
    have := run_copy_rowK (P := Try.prog) (w := W.drew) 22 22 3 30 g ((i + 1) * 4) (l.length - i) dc ⟨g, i * 4, none⟩ (l.length + 1 - i) sc 4 cur 30 ((l.flatMap ics).drop (i * 4)) Try.underlying22 hsz30 hg.drew (by rw [hmin]; exact hdl)
      (fun j v hj => by
        rw [addr_add]
        show W.cell? _ = _
        rw [hg.cell]
        rw [List.getElem?_drop] at hj
        rw [← htake, List.getElem?_take] at hj
        split at hj
        · simpa using hj
        · cases hj) (by rw [hdl]; omega) (fun v hv => flat_one encI l v (List.mem_of_mem_drop hv))
    rw [hmin, show (i + 1) * 4 = i * 4 + 4 by omega] at this
    rw [show (i + 1) * 4 = i * 4 + 4 by omega]
    exact this
  obtain ⟨C1, hC1⟩ : ∃ C1, cur.toList.take (i * 4 + 4) ++ (l.flatMap ics).drop (i * 4) ++ cur.toList.drop (i * 4 + 4 + ((l.flatMap ics).drop (i * 4)).length) = C1 := ⟨_, rfl⟩
  rw [hC1] at hr1
  have hC1l : C1.length = cur.size := by rw [← hC1]; simp [hdl]; omega
  have hB2 : Blk (W.drew.setRow g C1.toArray) g 30 C1.toArray := setRow_heap W.drew g cur _ 30 _ hg
  have hv2 : Blk (W.drew.setRow g C1.toArray) vb 30 (ics x).toArray := (setRow_other W.drew g vb _ (Ne.symm hgv)).trans hv
  have hr2 : ∀ dc, (Builtin.copy_ #[22, 22] 3 #[.slice (some ⟨g, i * 4, none⟩) (l.length + 1 - i) dc, .slice (some ⟨vb, 0, none⟩) 1 1]).run Try.prog (W.drew.setRow g C1.toArray) =
      .ok (goInt 1) ((W.drew.setRow g C1.toArray).setRow g (C1.take (i * 4) ++ ics x ++ C1.drop (i * 4 + 4)).toArray) := fun dc => by
    have hm : Nat.min 1 (l.length + 1 - i) = 1 := by simp only [Nat.min_def]; split <;> omega
    have := run_copy_rowK (P := Try.prog) (w := W.drew.setRow g C1.toArray) 22 22 3 30 g (i * 4) (l.length + 1 - i) dc ⟨vb, 0, none⟩ 1 1 4 C1.toArray 30 (ics x) Try.underlying22 hsz30 hB2 (by rw [hm]; rfl)
      (fun j v hj => by
        rw [addr_add, Nat.zero_add, hv2.cell]
        simpa using hj) (by simp [hC1l, ics]; omega) (encI.one x)
    rw [hm] at this
    exact this
  have hB3 : Blk ((W.drew.setRow g C1.toArray).setRow g (C1.take (i * 4) ++ ics x ++ C1.drop (i * 4 + 4)).toArray) g 30 (C1.take (i * 4) ++ ics x ++ C1.drop (i * 4 + 4)).toArray := setRow_heap _ g _ _ 30 _ hB2
  have hst := shift_take (C := cur.toList) (L := l.flatMap ics) (X := ics x) (N := l.length * 4) (o := i * 4) htake hfl (by omega) rfl (by rw [← hcs]; omega)
  rw [hC1] at hst
  have hfin : ItO ((W.drew.setRow g C1.toArray).setRow g (C1.take (i * 4) ++ ics x ++ C1.drop (i * 4 + 4)).toArray) base (.slice (some ⟨g, 0, none⟩) (l.length + 1) c) (l.take i ++ x :: l.drop i) := by
    have hlen : (l.take i ++ x :: l.drop i).length = l.length + 1 := by simp; omega
    refine .inr ⟨g, c, _, by rw [hlen], hbg, hB3, by rw [hlen]; exact hroom, by simp [hC1l, ics]; omega, hcm, ?_⟩
    rw [hlen, mid_cells l x i (by omega), List.toList_toArray, show (l.length + 1) * 4 = l.length * 4 + 4 by omega]
    exact hst
  have hkp : Kept (fun b => (Value.slice (some ⟨g, 0, none⟩) l.length c).ownBlock ≠ some b) W ((W.drew.setRow g C1.toArray).setRow g (C1.take (i * 4) ++ ics x ++ C1.drop (i * 4 + 4)).toArray) := by
    refine ⟨rfl, rfl, rfl, by simp [World.setRow], fun k hk hK => ?_⟩
    have hkg : g ≠ k := fun e => hK (by rw [e]; rfl)
    rw [setRow_other _ g k _ (Ne.symm hkg), setRow_other _ g k _ (Ne.symm hkg)]
    rfl
  have HFIN := Lib.hid hfin
  have HKP := Lib.hid hkp
  clear hB2 hv2 hB3 hst hfin hkp hC1 hC1l
  generalize (C1.take (i * 4) ++ ics x ++ C1.drop (i * 4 + 4)).toArray = c2 at hr2 HFIN HKP
  generalize C1.toArray = c1 at hr1 hr2 HFIN HKP
  refine wp_region_held_drew (S := (fun _ => True)) (by kernel_rfl) ?_ (fun hHeld => ?_)
  · trivial
  refine wpAnyH_take (i := 0) (v := ?vz1) rfl (by kernel_rfl) (by kernel_rfl) (by kernel_rfl) (fun _ _ _ h => h) (Or.inl ⟨?wz1, ?yz1⟩) (by assumption) ?rz1
  case yz1 => (intro w hSw; (try dsimp only at hSw); go_simp; try with_reducible rfl)
  case wz1 => rfl
  case' rz1 => simp only [Act.put, List.getElem_toArray, List.getElem_cons_zero, List.setIfInBounds_toArray, List.set_cons_zero, List.set_cons_succ]
  refine wpAnyH_take (i := 1) (v := ?vz2) rfl (by kernel_rfl) (by kernel_rfl) (by kernel_rfl) (fun _ _ _ h => h) (Or.inl ⟨?wz2, ?yz2⟩) (by assumption) ?rz2
  case yz2 => (intro w hSw; (try dsimp only at hSw); go_simp; try with_reducible rfl)
  case wz2 => rfl
  case' rz2 => simp only [Act.put, List.getElem_toArray, List.getElem_cons_zero, List.getElem_cons_succ, List.setIfInBounds_toArray, List.set_cons_zero, List.set_cons_succ]
  refine wpAnyH_take (i := 2) (v := ?vz3) rfl (by kernel_rfl) (by kernel_rfl) (by kernel_rfl) (fun _ _ _ h => h) (Or.inl ⟨?wz3, ?yz3⟩) (by assumption) ?rz3
  case yz3 => (intro w hSw; (try dsimp only at hSw); go_simp; try with_reducible rfl)
  case wz3 => rfl
  case' rz3 => simp only [Act.put, List.getElem_toArray, List.getElem_cons_zero, List.getElem_cons_succ, List.setIfInBounds_toArray, List.set_cons_zero, List.set_cons_succ]
  refine wpAnyH_take (i := 3) (v := ?vz4) rfl (by kernel_rfl) (by kernel_rfl) (by kernel_rfl) (fun _ _ _ h => h) (Or.inl ⟨?wz4, ?yz4⟩) (by assumption) ?rz4
  case yz4 => (intro w hSw; (try dsimp only at hSw); go_simp; try with_reducible rfl)
  case wz4 => rfl
  case' rz4 => simp only [Act.put, List.getElem_toArray, List.getElem_cons_zero, List.getElem_cons_succ, List.setIfInBounds_toArray, List.set_cons_zero, List.set_cons_succ]
  refine wpAnyH_take (i := 4) (v := ?vz5) rfl (by kernel_rfl) (by kernel_rfl) (by kernel_rfl) (fun _ _ _ h => h) (Or.inl ⟨?wz5, ?yz5⟩) (by assumption) ?rz5
  case yz5 => (intro w hSw; (try dsimp only at hSw); go_simp; try with_reducible rfl)
  case wz5 => rfl
  case' rz5 => simp only [Act.put, List.getElem_toArray, List.getElem_cons_zero, List.getElem_cons_succ, List.setIfInBounds_toArray, List.set_cons_zero, List.set_cons_succ]
  refine wpAnyH_take (i := 5) (v := ?vz6) rfl (by kernel_rfl) (by kernel_rfl) (by kernel_rfl) (fun _ _ _ h => h) (Or.inl ⟨?wz6, ?yz6⟩) (by assumption) ?rz6
  case yz6 => (intro w hSw; (try dsimp only at hSw); go_simp; try with_reducible rfl)
  case wz6 => rfl
  case' rz6 => simp only [Act.put, List.getElem_toArray, List.getElem_cons_zero, List.getElem_cons_succ, List.setIfInBounds_toArray, List.set_cons_zero, List.set_cons_succ]
  refine wpAnyH_take (i := 6) (v := ?vz7) rfl (by kernel_rfl) (by kernel_rfl) (by kernel_rfl) (fun _ _ _ h => h) (Or.inl ⟨?wz7, ?yz7⟩) (by assumption) ?rz7
  case yz7 => (intro w hSw; (try dsimp only at hSw); go_simp; try with_reducible rfl)
  case wz7 => rfl
  case' rz7 => simp only [Act.put, List.getElem_toArray, List.getElem_cons_zero, List.getElem_cons_succ, List.setIfInBounds_toArray, List.set_cons_zero, List.set_cons_succ]
  refine wpAnyH_take (i := 7) (v := ?vz8) rfl (by kernel_rfl) (by kernel_rfl) (by kernel_rfl) (fun _ _ _ h => h) (Or.inl ⟨?wz8, ?yz8⟩) (by assumption) ?rz8
  case yz8 => (intro w hSw; (try dsimp only at hSw); go_simp; try with_reducible rfl)
  case wz8 => rfl
  case' rz8 => simp only [Act.put, List.getElem_toArray, List.getElem_cons_zero, List.getElem_cons_succ, List.setIfInBounds_toArray, List.set_cons_zero, List.set_cons_succ]
  refine wpAnyH_ready (rs := [8]) (by kernel_rfl) (by simp) ?_
  refine AllReadyH.cons rfl (fun K hK => ?_) AllReadyH.nil
  (refine step_copy_run rfl (.tmp 73) (.tmp 76) 22 22 rfl (by simp [Act.eval]) (by simp [Act.eval]) (hr1 (c - (i + 1)) (c - i)) ?_)
  refine hK.out _ _ ?_ (fun hHeld => ?_)
  · trivial
  clear hK K
  try simp only [Act.put, List.getElem_toArray, List.getElem_cons_zero, List.getElem_cons_succ, List.setIfInBounds_toArray, List.set_cons_zero, List.set_cons_succ]
  refine wpAnyH_done (by kernel_rfl) ?_ _
  go_wp2_with (at_builtin; refine wpList_copy_run rfl (.tmp 80) (.tmp 81) 22 22 rfl rfl rfl (hr2 _) ?_)
  go_ret
  exact ⟨some ⟨g, 0, none⟩, c, rfl, HFIN, Lib.hid fun q hq => .inl hq, HKP.out⟩
end Ytfoolgojcmkdbaa
end Go.Proofs
