/-
  Merge of two pages that fit.
-/
import Derived.Test.YtfoolgojcmkdbaaSplit
import Derived.Test.YtfoolgojcmkdbaaCatK
set_option maxHeartbeats 8000000
set_option maxRecDepth 100000
namespace Go.Proofs
open Go.RowKit
namespace Ytfoolgojcmkdbaa
attribute [local go_sem ↓] Go.wp_at_zero Go.wp_at_succ
theorem RdH.go {α : Type} {k : Nat} {enc : α → List Value} {w w' : World} {v : Value} {l : List α} (h : Hid (RdK k enc w v l)) (hk : Kept (fun _ => True) w w') : Hid (RdK k enc w' v l) := Lib.hid (h.out.all hk)
theorem set1_step {W : World} {g : Nat} {t : TypeId} {cs : Array Value} (h : Blk W g t cs) (o : Nat) (a : Value) : ∃ W', W.setCell ⟨g, o, none⟩ a = W' ∧ Hid (Blk W' g t (cs.setIfInBounds o a)) ∧ Kept (fun b => b ≠ g) W W' := ⟨_, rfl, Lib.hid (h.set_ o a), (Kept.refl _ W).setCell (fun _ h => h rfl) _⟩
theorem alloc_any {W W0 : World} (_ : Hid (Kept (fun _ => True) W0 W)) (cs : Array Value) (t : TypeId) : ∃ g W', W.alloc (.cells cs t) = W' ∧ W.heap.size = g ∧ Hid (Blk W' g t cs) ∧ Kept (fun _ => True) W W' := ⟨_, _, rfl, rfl, Lib.hid (Blk.new W t cs), (Kept.refl _ W).alloc _⟩
theorem alloc_anyd {W W0 : World} (_ : Hid (Kept (fun _ => True) W0 (World.drew W))) (cs : Array Value) (t : TypeId) : ∃ g W', (W.alloc (.cells cs t)).drew = W' ∧ W.heap.size = g ∧ Hid (Blk W' g t cs) ∧ Kept (fun _ => True) (World.drew W) W' := ⟨_, _, rfl, rfl, Lib.hid (Blk.new W t cs).drew, (Kept.refl _ (World.drew W)).alloc _⟩
theorem merge_ok (p q : Page) {iA kA jA mA : Option Addr} {ic kc jc mc : Nat} (w : World) (hi : ItR w (.slice iA p.items.length ic) p.items) (hk : KdR w (.slice kA p.kids.length kc) p.kids) (hj : ItR w (.slice jA q.items.length jc) q.items) (hm : KdR w (.slice mA q.kids.length mc) q.kids)
    (hcp : check p = true) (hcq : check q = true) (hlv : p.level = q.level) (hla : p.last = false) (hmi : p.high = q.low) (hn : p.items.length + q.items.length ≤ 120) (hn2 : p.kids.length + q.kids.length ≤ 120) :
    Calls Try.prog 14 #[pv p (.slice iA p.items.length ic) (.slice kA p.kids.length kc), pv q (.slice jA q.items.length jc) (.slice mA q.kids.length mc)] w fun e w' => ∃ A c A' c', e = .returned (.tuple #[
      pv ⟨p.level, p.low, q.high, q.last, q.side, p.items ++ q.items, p.kids ++ q.kids⟩ (.slice A (p.items.length + q.items.length) c) (.slice A' (p.kids.length + q.kids.length) c'), .int .i64 0]) ∧
      Hid (ItR w' (.slice A (p.items.length + q.items.length) c) (p.items ++ q.items)) ∧ Hid (KdR w' (.slice A' (p.kids.length + q.kids.length) c') (p.kids ++ q.kids)) ∧ Kept (fun _ => True) w w' := by
  have h7 : ∀ W, Kept (fun _ => True) w W → Calls Try.prog 7 #[pv p (.slice iA p.items.length ic) (.slice kA p.kids.length kc)] W fun e w' => e = .returned (.int .i64 0) ∧ Kept (fun _ => True) W w' := fun W hW => by
    have := check_any p W (hi.all hW) (hk.all hW) (by omega) (by omega)
    rw [hcp] at this
    exact this
  have h7' : ∀ W, Kept (fun _ => True) w W → Calls Try.prog 7 #[pv q (.slice jA q.items.length jc) (.slice mA q.kids.length mc)] W fun e w' => e = .returned (.int .i64 0) ∧ Kept (fun _ => True) W w' := fun W hW => by
    have := check_any q W (hj.all hW) (hm.all hW) (by omega) (by omega)
    rw [hcq] at this
    exact this
  have HI := Lib.hid hi
  have HK := Lib.hid hk
  have HJ := Lib.hid hj
  have HM := Lib.hid hm
  clear hi hk hj hm hcp hcq
  obtain ⟨lv, lo, mi, la0, sl, il, kl⟩ := p
  obtain ⟨lv', mi', hi, la, sd, jl, ml⟩ := q
  simp only at hlv hla hmi hn hn2 HI HK HJ HM
  subst hlv hla hmi
  unfold pv at *
  simp only at *
  generalize il.length = n1 at h7 HI hn ⊢
  generalize kl.length = m1 at h7 HK hn2 ⊢
  generalize jl.length = n2 at h7' HJ hn ⊢
  generalize ml.length = m2 at h7' HM hn2 ⊢
  have kk0 : Kept (fun _ => True) w (((w.alloc (.cells #[.int .i64 lv, .string lo, .string mi, .bool false, .int .i64 sl, .slice iA n1 ic, .slice kA m1 kc] 25)).alloc (.cells #[.int .i64 lv, .string mi, .string hi, .bool la, .int .i64 sd, .slice jA n2 jc, .slice mA m2 mc] 25)).alloc (.cells #[.int .i64 0, .string ⟨#[]⟩, .string ⟨#[]⟩, .bool false, .int .i64 0, .slice none 0 0, .slice none 0 0] 25)) := (((Kept.refl _ w).alloc _).alloc _).alloc _
  have hs1 : (w.alloc (.cells #[.int .i64 lv, .string lo, .string mi, .bool false, .int .i64 sl, .slice iA n1 ic, .slice kA m1 kc] 25)).heap.size = w.heap.size + 1 := by simp
  have hs2 : ((w.alloc (.cells #[.int .i64 lv, .string lo, .string mi, .bool false, .int .i64 sl, .slice iA n1 ic, .slice kA m1 kc] 25)).alloc (.cells #[.int .i64 lv, .string mi, .string hi, .bool la, .int .i64 sd, .slice jA n2 jc, .slice mA m2 mc] 25)).heap.size = w.heap.size + 1 + 1 := by simp
  have hL := ((Blk.new w 25 #[.int .i64 lv, .string lo, .string mi, .bool false, .int .i64 sl, .slice iA n1 ic, .slice kA m1 kc]).alloc (.cells #[.int .i64 lv, .string mi, .string hi, .bool la, .int .i64 sd, .slice jA n2 jc, .slice mA m2 mc] 25)).alloc (.cells #[.int .i64 0, .string ⟨#[]⟩, .string ⟨#[]⟩, .bool false, .int .i64 0, .slice none 0 0, .slice none 0 0] 25)
  have hR := (Blk.new (w.alloc (.cells #[.int .i64 lv, .string lo, .string mi, .bool false, .int .i64 sl, .slice iA n1 ic, .slice kA m1 kc] 25)) 25 #[.int .i64 lv, .string mi, .string hi, .bool la, .int .i64 sd, .slice jA n2 jc, .slice mA m2 mc]).alloc (.cells #[.int .i64 0, .string ⟨#[]⟩, .string ⟨#[]⟩, .bool false, .int .i64 0, .slice none 0 0, .slice none 0 0] 25)
  rw [hs1] at hR
  have hZ := Blk.new ((w.alloc (.cells #[.int .i64 lv, .string lo, .string mi, .bool false, .int .i64 sl, .slice iA n1 ic, .slice kA m1 kc] 25)).alloc (.cells #[.int .i64 lv, .string mi, .string hi, .bool la, .int .i64 sd, .slice jA n2 jc, .slice mA m2 mc] 25)) 25 #[.int .i64 0, .string ⟨#[]⟩, .string ⟨#[]⟩, .bool false, .int .i64 0, .slice none 0 0, .slice none 0 0]
  rw [hs2] at hZ
  have KW := Lib.hid kk0
  have HL := Lib.hid hL
  have HR := Lib.hid hR
  have HZ := Lib.hid hZ
  clear kk0 hL hR hZ hs1 hs2
  go_enter Try.func14, Try.ntmps14
  have b0 := (BlkH.go HL (Kept.refl _ _)).out.cell 0
  have b1 := (BlkH.go HL (Kept.refl _ _)).out.cell 1
  have b2 := (BlkH.go HL (Kept.refl _ _)).out.cell 2
  have b3 := (BlkH.go HL (Kept.refl _ _)).out.cell 3
  have b4 := (BlkH.go HL (Kept.refl _ _)).out.cell 4
  have b5 := (BlkH.go HL (Kept.refl _ _)).out.cell 5
  have b6 := (BlkH.go HL (Kept.refl _ _)).out.cell 6
  go_wp2_with fail
  clear b0 b1 b2 b3 b4 b5 b6
  generalize ((w.alloc (.cells #[.int .i64 lv, .string lo, .string mi, .bool false, .int .i64 sl, .slice iA n1 ic, .slice kA m1 kc] 25)).alloc (.cells #[.int .i64 lv, .string mi, .string hi, .bool la, .int .i64 sd, .slice jA n2 jc, .slice mA m2 mc] 25)).alloc (.cells #[.int .i64 0, .string ⟨#[]⟩, .string ⟨#[]⟩, .bool false, .int .i64 0, .slice none 0 0, .slice none 0 0] 25) = wc at KW HL HR HZ ⊢
  refine (h7 _ KW.out).mono ?_
  rintro e w1 ⟨rfl, hk⟩
  replace KW := Kept.go KW hk
  replace HL := BlkH.go HL hk
  replace HR := BlkH.go HR hk
  replace HZ := BlkH.go HZ hk
  clear hk
  have b0 := HR.out.cell 0
  have b1 := HR.out.cell 1
  have b2 := HR.out.cell 2
  have b3 := HR.out.cell 3
  have b4 := HR.out.cell 4
  have b5 := HR.out.cell 5
  have b6 := HR.out.cell 6
  go_wp2_with fail
  clear b0 b1 b2 b3 b4 b5 b6
  refine (h7' _ KW.out).mono ?_
  rintro e w2 ⟨rfl, hk⟩
  replace KW := Kept.go KW hk
  replace HL := BlkH.go HL hk
  replace HR := BlkH.go HR hk
  replace HZ := BlkH.go HZ hk
  clear hk h7 h7'
  have b0 := HL.out.cell 0
  have b1 := HL.out.cell 1
  have b2 := HL.out.cell 2
  have b3 := HL.out.cell 3
  have b4 := HL.out.cell 4
  have b5 := HL.out.cell 5
  have b6 := HL.out.cell 6
  have r0 := HR.out.cell 0
  have r1 := HR.out.cell 1
  have r2 := HR.out.cell 2
  have r3 := HR.out.cell 3
  have r4 := HR.out.cell 4
  have r5 := HR.out.cell 5
  have r6 := HR.out.cell 6
  have t1 : (lv != lv) = false := bne_self_eq_false _
  have hw1 : IntKind.i64.wrap ((n1 : Int) + (n2 : Int)) = (n1 : Int) + (n2 : Int) := by rw [IntKind.wrap_i64]; omega
  have hw2 : IntKind.i64.wrap ((m1 : Int) + (m2 : Int)) = (m1 : Int) + (m2 : Int) := by rw [IntKind.wrap_i64]; omega
  have t2 : decide ((120 : Int) < (n1 : Int) + (n2 : Int)) = false := by simp; omega
  have t3 : decide ((120 : Int) < (m1 : Int) + (m2 : Int)) = false := by simp; omega
  go_upto_region 5 with fail
  clear b0 b1 b2 b3 b4 b5 b6 r0 r1 r2 r3 r4 r5 r6 t1 hw1 hw2 t2 t3
  refine wp_region_held_drew (S := (fun W => W.cell? ⟨w.heap.size + 1, 2, none⟩ = some (.string hi) ∧ W.cell? ⟨w.heap.size + 1, 3, none⟩ = some (.bool la) ∧ W.cell? ⟨w.heap.size + 1, 4, none⟩ = some (.int .i64 sd))) (by kernel_rfl) ?_ (fun hHeld => ?_)
  · exact ⟨HR.out.cell 2, HR.out.cell 3, HR.out.cell 4⟩
  refine wpAnyH_take (i := 0) (v := ?vz1) rfl (by kernel_rfl) (by kernel_rfl) (by kernel_rfl) (fun _ _ _ h => h) (Or.inl ⟨?wz1, ?yz1⟩) (by assumption) ?rz1
  case yz1 => (intro w hSw; (try dsimp only at hSw); go_simp; try with_reducible rfl)
  case wz1 => rfl
  case' rz1 => simp only [Act.put, List.getElem_toArray, List.getElem_cons_zero, List.setIfInBounds_toArray, List.set_cons_zero, List.set_cons_succ]
  refine wpAnyH_take (i := 1) (v := ?vz2) rfl (by kernel_rfl) (by kernel_rfl) (by kernel_rfl) (fun _ _ _ h => h) (Or.inl ⟨?wz2, ?yz2⟩) (by assumption) ?rz2
  case yz2 => (intro w hSw; (try dsimp only at hSw); go_simp; try with_reducible rfl)
  case wz2 => rfl
  case' rz2 => simp only [Act.put, List.getElem_toArray, List.getElem_cons_zero, List.getElem_cons_succ, List.setIfInBounds_toArray, List.set_cons_zero, List.set_cons_succ]
  refine wpAnyH_take (i := 2) (v := ?vz3) rfl (by kernel_rfl) (by kernel_rfl) (by kernel_rfl) (fun _ _ _ h => h) (Or.inl ⟨?wz3, ?yz3⟩) (by assumption) ?rz3
  case yz3 => (intro w hSw; (try dsimp only at hSw); go_simp; try with_reducible rfl)
  case wz3 => rfl
  case' rz3 => simp only [Act.put, List.getElem_toArray, List.getElem_cons_zero, List.getElem_cons_succ, List.setIfInBounds_toArray, List.set_cons_zero, List.set_cons_succ]
  refine wpAnyH_take (i := 3) (v := ?vz4) rfl (by kernel_rfl) (by kernel_rfl) (by kernel_rfl) (fun _ _ _ h => h) (Or.inl ⟨?wz4, ?yz4⟩) (by assumption) ?rz4
  case yz4 => (intro w hSw; (try dsimp only at hSw); go_simp; try with_reducible rfl)
  case wz4 => rfl
  case' rz4 => simp only [Act.put, List.getElem_toArray, List.getElem_cons_zero, List.getElem_cons_succ, List.setIfInBounds_toArray, List.set_cons_zero, List.set_cons_succ]
  refine wpAnyH_take (i := 4) (v := ?vz5) rfl (by kernel_rfl) (by kernel_rfl) (by kernel_rfl) (fun _ _ _ h => h) (Or.inl ⟨?wz5, ?yz5⟩) (by assumption) ?rz5
  case yz5 => (intro w hSw; (try dsimp only at hSw); go_simp; try with_reducible rfl)
  case wz5 => rfl
  case' rz5 => simp only [Act.put, List.getElem_toArray, List.getElem_cons_zero, List.getElem_cons_succ, List.setIfInBounds_toArray, List.set_cons_zero, List.set_cons_succ]
  refine wpAnyH_take (i := 5) (v := ?vz6) rfl (by kernel_rfl) (by kernel_rfl) (by kernel_rfl) (fun _ _ _ h => h) (Or.inl ⟨?wz6, ?yz6⟩) (by assumption) ?rz6
  case yz6 => (intro w hSw; (try dsimp only at hSw); go_simp; try with_reducible rfl)
  case wz6 => rfl
  case' rz6 => simp only [Act.put, List.getElem_toArray, List.getElem_cons_zero, List.getElem_cons_succ, List.setIfInBounds_toArray, List.set_cons_zero, List.set_cons_succ]
  refine wpAnyH_take (i := 6) (v := ?vz7) rfl (by kernel_rfl) (by kernel_rfl) (by kernel_rfl) (fun _ _ _ h => h) (Or.inl ⟨?wz7, ?yz7⟩) (by assumption) ?rz7
  case yz7 => (intro w hSw; (try dsimp only at hSw); go_simp; try with_reducible rfl)
  case wz7 => rfl
  case' rz7 => simp only [Act.put, List.getElem_toArray, List.getElem_cons_zero, List.getElem_cons_succ, List.setIfInBounds_toArray, List.set_cons_zero, List.set_cons_succ]
  refine wpAnyH_ready (rs := [7]) (by kernel_rfl) (by simp) ?_
  refine AllReadyH.cons rfl (fun K hK => ?_) AllReadyH.nil
  (have cc := HL.out.cell 2; have ff := HL.out.frozen 2; go_simp; obtain ⟨w3, hw, HL2, hk⟩ := set1_step HL.out 2 (.string hi); rw [hw]; clear hw cc ff; replace HR := BlkH.far HR hk (by omega); replace HZ := BlkH.far HZ hk (by omega); replace KW := KeptH.far KW hk (Nat.le_refl _); replace HL := HL2; clear hk HL2)
  refine hK.out _ _ ?_ (fun hHeld => ?_)
  · exact ⟨HR.out.cell 2, HR.out.cell 3, HR.out.cell 4⟩
  clear hK K
  try simp only [Act.put, List.getElem_toArray, List.getElem_cons_zero, List.getElem_cons_succ, List.setIfInBounds_toArray, List.set_cons_zero, List.set_cons_succ]
  refine wpAnyH_take (i := 8) (v := ?vz8) rfl (by kernel_rfl) (by kernel_rfl) (by kernel_rfl) (fun _ _ _ h => h) (Or.inl ⟨?wz8, ?yz8⟩) (by assumption) ?rz8
  case yz8 => (intro w hSw; (try dsimp only at hSw); go_simp; try with_reducible rfl)
  case wz8 => rfl
  case' rz8 => simp only [Act.put, List.getElem_toArray, List.getElem_cons_zero, List.getElem_cons_succ, List.setIfInBounds_toArray, List.set_cons_zero, List.set_cons_succ]
  refine wpAnyH_ready (rs := [9]) (by kernel_rfl) (by simp) ?_
  refine AllReadyH.cons rfl (fun K hK => ?_) AllReadyH.nil
  (have cc := HL.out.cell 3; have ff := HL.out.frozen 3; go_simp; obtain ⟨w4, hw, HL2, hk⟩ := set1_step HL.out 3 (.bool la); rw [hw]; clear hw cc ff; replace HR := BlkH.far HR hk (by omega); replace HZ := BlkH.far HZ hk (by omega); replace KW := KeptH.far KW hk (Nat.le_refl _); replace HL := HL2; clear hk HL2)
  refine hK.out _ _ ?_ (fun hHeld => ?_)
  · exact ⟨HR.out.cell 2, HR.out.cell 3, HR.out.cell 4⟩
  clear hK K
  try simp only [Act.put, List.getElem_toArray, List.getElem_cons_zero, List.getElem_cons_succ, List.setIfInBounds_toArray, List.set_cons_zero, List.set_cons_succ]
  refine wpAnyH_take (i := 10) (v := ?vz9) rfl (by kernel_rfl) (by kernel_rfl) (by kernel_rfl) (fun _ _ _ h => h) (Or.inl ⟨?wz9, ?yz9⟩) (by assumption) ?rz9
  case yz9 => (intro w hSw; (try dsimp only at hSw); go_simp; try with_reducible rfl)
  case wz9 => rfl
  case' rz9 => simp only [Act.put, List.getElem_toArray, List.getElem_cons_zero, List.getElem_cons_succ, List.setIfInBounds_toArray, List.set_cons_zero, List.set_cons_succ]
  refine wpAnyH_ready (rs := [11]) (by kernel_rfl) (by simp) ?_
  refine AllReadyH.cons rfl (fun K hK => ?_) AllReadyH.nil
  (have cc := HL.out.cell 4; have ff := HL.out.frozen 4; go_simp; obtain ⟨w5, hw, HL2, hk⟩ := set1_step HL.out 4 (.int .i64 sd); rw [hw]; clear hw cc ff; replace HR := BlkH.far HR hk (by omega); replace HZ := BlkH.far HZ hk (by omega); replace KW := KeptH.far KW hk (Nat.le_refl _); replace HL := HL2; clear hk HL2)
  refine hK.out _ _ ?_ (fun hHeld => ?_)
  · exact ⟨HR.out.cell 2, HR.out.cell 3, HR.out.cell 4⟩
  clear hK K
  try simp only [Act.put, List.getElem_toArray, List.getElem_cons_zero, List.getElem_cons_succ, List.setIfInBounds_toArray, List.set_cons_zero, List.set_cons_succ]
  refine wpAnyH_done (by kernel_rfl) ?_ _
  have HL' : Hid (Blk w5 w.heap.size 25 #[.int .i64 lv, .string lo, .string hi, .bool la, .int .i64 sd, .slice iA n1 ic, .slice kA m1 kc]) := HL
  replace HL := HL'
  clear HL'
  go_upto_region 6 with fail
  have hk := (Kept.refl (fun _ => True) w5).drew
  replace KW := Kept.go KW hk
  replace HL := BlkH.go HL hk
  replace HR := BlkH.go HR hk
  replace HZ := BlkH.go HZ hk
  clear hk
  generalize World.drew w5 = w6 at KW HL HR HZ ⊢
  have hk := (Kept.refl (fun _ => True) w6).drew
  replace KW := Kept.go KW hk
  replace HL := BlkH.go HL hk
  replace HR := BlkH.go HR hk
  replace HZ := BlkH.go HZ hk
  clear hk
  go_cut [] (fun wx => ∃ (A : Option Addr) (c : Nat) (A' : Option Addr) (c' : Nat), Hid (Blk wx w.heap.size 25 #[.int .i64 lv, .string lo, .string hi, .bool la, .int .i64 sd, .slice A (n1 + n2) c, .slice A' (m1 + m2) c']) ∧ Hid (ItO wx 0 (.slice A (n1 + n2) c) (il ++ jl)) ∧ Hid (KdO wx 0 (.slice A' (m1 + m2) c') (kl ++ ml)) ∧
    Hid (Blk wx (w.heap.size + 1 + 1) 25 #[.int .i64 0, .string ⟨#[]⟩, .string ⟨#[]⟩, .bool false, .int .i64 0, .slice none 0 0, .slice none 0 0]) ∧ Hid (Kept (fun _ => True) w wx))
  case first =>
    refine wp_region_held_drew (S := (fun W => W.cell? ⟨w.heap.size + 1, 5, none⟩ = some (.slice jA n2 jc) ∧ W.cell? ⟨w.heap.size + 1, 6, none⟩ = some (.slice mA m2 mc))) (by kernel_rfl) ?_ (fun hHeld => ?_)
    · exact ⟨HR.out.cell 5, HR.out.cell 6⟩
    refine wpAnyH_take (i := 0) (v := ?vz10) rfl (by kernel_rfl) (by kernel_rfl) (by kernel_rfl) (fun _ _ _ h => h) (Or.inl ⟨?wz10, ?yz10⟩) (by assumption) ?rz10
    case yz10 => (intro w hSw; (try dsimp only at hSw); go_simp; try with_reducible rfl)
    case wz10 => rfl
    case' rz10 => simp only [Act.put, List.getElem_toArray, List.getElem_cons_zero, List.setIfInBounds_toArray, List.set_cons_zero, List.set_cons_succ]
    refine wpAnyH_take (i := 2) (v := ?vz11) rfl (by kernel_rfl) (by kernel_rfl) (by kernel_rfl) (fun _ _ _ h => h) (Or.inl ⟨?wz11, ?yz11⟩) (by assumption) ?rz11
    case yz11 => (intro w hSw; (try dsimp only at hSw); go_simp; try with_reducible rfl)
    case wz11 => rfl
    case' rz11 => simp only [Act.put, List.getElem_toArray, List.getElem_cons_zero, List.getElem_cons_succ, List.setIfInBounds_toArray, List.set_cons_zero, List.set_cons_succ]
    refine wpAnyH_take (i := 3) (v := ?vz12) rfl (by kernel_rfl) (by kernel_rfl) (by kernel_rfl) (fun _ _ _ h => h) (Or.inl ⟨?wz12, ?yz12⟩) (by assumption) ?rz12
    case yz12 => (intro w hSw; (try dsimp only at hSw); go_simp; try with_reducible rfl)
    case wz12 => rfl
    case' rz12 => simp only [Act.put, List.getElem_toArray, List.getElem_cons_zero, List.getElem_cons_succ, List.setIfInBounds_toArray, List.set_cons_zero, List.set_cons_succ]
    refine wpAnyH_take (i := 6) (v := ?vz13) rfl (by kernel_rfl) (by kernel_rfl) (by kernel_rfl) (fun _ _ _ h => h) (Or.inl ⟨?wz13, ?yz13⟩) (by assumption) ?rz13
    case yz13 => (intro w hSw; (try dsimp only at hSw); go_simp; try with_reducible rfl)
    case wz13 => rfl
    case' rz13 => simp only [Act.put, List.getElem_toArray, List.getElem_cons_zero, List.getElem_cons_succ, List.setIfInBounds_toArray, List.set_cons_zero, List.set_cons_succ]
    refine wpAnyH_take (i := 8) (v := ?vz14) rfl (by kernel_rfl) (by kernel_rfl) (by kernel_rfl) (fun _ _ _ h => h) (Or.inl ⟨?wz14, ?yz14⟩) (by assumption) ?rz14
    case yz14 => (intro w hSw; (try dsimp only at hSw); go_simp; try with_reducible rfl)
    case wz14 => rfl
    case' rz14 => simp only [Act.put, List.getElem_toArray, List.getElem_cons_zero, List.getElem_cons_succ, List.setIfInBounds_toArray, List.set_cons_zero, List.set_cons_succ]
    refine wpAnyH_take (i := 9) (v := ?vz15) rfl (by kernel_rfl) (by kernel_rfl) (by kernel_rfl) (fun _ _ _ h => h) (Or.inl ⟨?wz15, ?yz15⟩) (by assumption) ?rz15
    case yz15 => (intro w hSw; (try dsimp only at hSw); go_simp; try with_reducible rfl)
    case wz15 => rfl
    case' rz15 => simp only [Act.put, List.getElem_toArray, List.getElem_cons_zero, List.getElem_cons_succ, List.setIfInBounds_toArray, List.set_cons_zero, List.set_cons_succ]
    refine wpAnyH_ready (rs := [1, 7]) (by kernel_rfl) (by simp) ?_
    refine AllReadyH.cons rfl (fun K hK => ?_) ?_
    · skip
      (have cc := HL.out.cell 5; go_simp; clear cc)
      refine hK.out _ _ ?_ (fun hHeld => ?_)
      · exact ⟨HR.out.cell 5, HR.out.cell 6⟩
      clear hK K
      try simp only [Act.put, List.getElem_toArray, List.getElem_cons_zero, List.getElem_cons_succ, List.setIfInBounds_toArray, List.set_cons_zero, List.set_cons_succ]
      refine wpAnyH_ready (rs := [4, 7]) (by kernel_rfl) (by simp) ?_
      refine AllReadyH.cons rfl (fun K hK => ?_) ?_
      · skip
        (go_simp; first | (obtain ⟨pb1, wn, hw, hg, HP1, hk⟩ := alloc_any KW #[.slice iA n1 ic, .slice jA n2 jc] 22; rw [hw, hg]; clear hw hg; replace KW := Kept.go KW hk; replace HL := BlkH.go HL hk; replace HR := BlkH.go HR hk; replace HZ := BlkH.go HZ hk; (try replace HP2 := BlkH.go HP2 hk); (try replace HC1 := RowH.go HC1 hk); clear hk) | (obtain ⟨pb1, wn, hw, hg, HP1, hk⟩ := alloc_anyd KW #[.slice iA n1 ic, .slice jA n2 jc] 22; rw [hw, hg]; clear hw hg; replace KW := Kept.go KW hk; replace HL := BlkH.go HL hk; replace HR := BlkH.go HR hk; replace HZ := BlkH.go HZ hk; (try replace HP2 := BlkH.go HP2 hk); (try replace HC1 := RowH.go HC1 hk); clear hk))
        refine hK.out _ _ ?_ (fun hHeld => ?_)
        · exact ⟨HR.out.cell 5, HR.out.cell 6⟩
        clear hK K
        try simp only [Act.put, List.getElem_toArray, List.getElem_cons_zero, List.getElem_cons_succ, List.setIfInBounds_toArray, List.set_cons_zero, List.set_cons_succ]
        refine wpAnyH_ready (rs := [5, 7]) (by kernel_rfl) (by simp) ?_
        refine AllReadyH.cons rfl (fun K hK => ?_) ?_
        · skip
          try go_simp
          (go_at_call 29; refine (catItem_any _ (RdK.all HI.out KW.out) (RdK.all HJ.out KW.out) (HP1.out.cell 0) (HP1.out.cell 1) (by omega) (by omega)).mono ?_; rintro e wn ⟨A, c, rfl, HC1, hk⟩; replace HC1 := Lib.hid (HC1.out.low (Nat.zero_le _)); replace KW := Kept.go KW hk; replace HL := BlkH.go HL hk; replace HR := BlkH.go HR hk; replace HZ := BlkH.go HZ hk; (try replace HP1 := BlkH.go HP1 hk); (try replace HP2 := BlkH.go HP2 hk); clear hk)
          try go_simp
          refine hK.out _ _ ?_ (fun hHeld => ?_)
          · exact ⟨HR.out.cell 5, HR.out.cell 6⟩
          clear hK K
          try simp only [Act.put, List.getElem_toArray, List.getElem_cons_zero, List.getElem_cons_succ, List.setIfInBounds_toArray, List.set_cons_zero, List.set_cons_succ]
          refine wpAnyH_ready (rs := [7]) (by kernel_rfl) (by simp) ?_
          refine AllReadyH.cons rfl (fun K hK => ?_) AllReadyH.nil
          (have cc := HL.out.cell 6; go_simp; clear cc)
          refine hK.out _ _ ?_ (fun hHeld => ?_)
          · exact ⟨HR.out.cell 5, HR.out.cell 6⟩
          clear hK K
          try simp only [Act.put, List.getElem_toArray, List.getElem_cons_zero, List.getElem_cons_succ, List.setIfInBounds_toArray, List.set_cons_zero, List.set_cons_succ]
          refine wpAnyH_take (i := 12) (v := ?vz16) rfl (by kernel_rfl) (by kernel_rfl) (by kernel_rfl) (fun _ _ _ h => h) (Or.inl ⟨?wz16, ?yz16⟩) (by assumption) ?rz16
          case yz16 => (intro w hSw; (try dsimp only at hSw); go_simp; try with_reducible rfl)
          case wz16 => rfl
          case' rz16 => simp only [Act.put, List.getElem_toArray, List.getElem_cons_zero, List.getElem_cons_succ, List.setIfInBounds_toArray, List.set_cons_zero, List.set_cons_succ]
          refine wpAnyH_ready (rs := [10]) (by kernel_rfl) (by simp) ?_
          refine AllReadyH.cons rfl (fun K hK => ?_) AllReadyH.nil
          (go_simp; first | (obtain ⟨pb2, wn, hw, hg, HP2, hk⟩ := alloc_any KW #[.slice kA m1 kc, .slice mA m2 mc] 23; rw [hw, hg]; clear hw hg; replace KW := Kept.go KW hk; replace HL := BlkH.go HL hk; replace HR := BlkH.go HR hk; replace HZ := BlkH.go HZ hk; (try replace HP1 := BlkH.go HP1 hk); (try replace HC1 := RowH.go HC1 hk); clear hk) | (obtain ⟨pb2, wn, hw, hg, HP2, hk⟩ := alloc_anyd KW #[.slice kA m1 kc, .slice mA m2 mc] 23; rw [hw, hg]; clear hw hg; replace KW := Kept.go KW hk; replace HL := BlkH.go HL hk; replace HR := BlkH.go HR hk; replace HZ := BlkH.go HZ hk; (try replace HP1 := BlkH.go HP1 hk); (try replace HC1 := RowH.go HC1 hk); clear hk))
          refine hK.out _ _ ?_ (fun hHeld => ?_)
          · exact ⟨HR.out.cell 5, HR.out.cell 6⟩
          clear hK K
          try simp only [Act.put, List.getElem_toArray, List.getElem_cons_zero, List.getElem_cons_succ, List.setIfInBounds_toArray, List.set_cons_zero, List.set_cons_succ]
          refine wpAnyH_ready (rs := [11]) (by kernel_rfl) (by simp) ?_
          refine AllReadyH.cons rfl (fun K hK => ?_) AllReadyH.nil
          try go_simp
          (go_at_call 30; refine (catKid_any _ (RdK.all HK.out KW.out) (RdK.all HM.out KW.out) (HP2.out.cell 0) (HP2.out.cell 1) (by omega) (by omega)).mono ?_; rintro e wn ⟨A', c', rfl, HC2, hk⟩; replace HC2 := Lib.hid (HC2.out.low (Nat.zero_le _)); replace HC1 := RowH.go HC1 hk; replace KW := Kept.go KW hk; replace HL := BlkH.go HL hk; replace HR := BlkH.go HR hk; replace HZ := BlkH.go HZ hk; (try replace HP1 := BlkH.go HP1 hk); (try replace HP2 := BlkH.go HP2 hk); clear hk)
          try go_simp
          refine hK.out _ _ ?_ (fun hHeld => ?_)
          · exact ⟨HR.out.cell 5, HR.out.cell 6⟩
          clear hK K
          try simp only [Act.put, List.getElem_toArray, List.getElem_cons_zero, List.getElem_cons_succ, List.setIfInBounds_toArray, List.set_cons_zero, List.set_cons_succ]
          refine wpAnyH_ready (rs := [13]) (by kernel_rfl) (by simp) ?_
          refine AllReadyH.cons rfl (fun K hK => ?_) AllReadyH.nil
          (have cc := HL.out.cell 5; have ff := HL.out.frozen 5; go_simp; obtain ⟨wn, hw, HL2, hk⟩ := set1_step HL.out 5 (.slice A (n1 + n2) c); rw [hw]; clear hw cc ff; replace HR := BlkH.far HR hk (by omega); replace HZ := BlkH.far HZ hk (by omega); replace KW := KeptH.far KW hk (Nat.le_refl _); replace HC1 := RowH.far HC1 hk HL (by decide); replace HC2 := RowH.far HC2 hk HL (by decide); replace HL := HL2; clear hk HL2)
          refine hK.out _ _ ?_ (fun hHeld => ?_)
          · exact ⟨HR.out.cell 5, HR.out.cell 6⟩
          clear hK K
          try simp only [Act.put, List.getElem_toArray, List.getElem_cons_zero, List.getElem_cons_succ, List.setIfInBounds_toArray, List.set_cons_zero, List.set_cons_succ]
          refine wpAnyH_take (i := 14) (v := ?vz17) rfl (by kernel_rfl) (by kernel_rfl) (by kernel_rfl) (fun _ _ _ h => h) (Or.inl ⟨?wz17, ?yz17⟩) (by assumption) ?rz17
          case yz17 => (intro w hSw; (try dsimp only at hSw); go_simp; try with_reducible rfl)
          case wz17 => rfl
          case' rz17 => simp only [Act.put, List.getElem_toArray, List.getElem_cons_zero, List.getElem_cons_succ, List.setIfInBounds_toArray, List.set_cons_zero, List.set_cons_succ]
          refine wpAnyH_ready (rs := [15]) (by kernel_rfl) (by simp) ?_
          refine AllReadyH.cons rfl (fun K hK => ?_) AllReadyH.nil
          (have cc := HL.out.cell 6; have ff := HL.out.frozen 6; go_simp; obtain ⟨wn, hw, HL2, hk⟩ := set1_step HL.out 6 (.slice A' (m1 + m2) c'); rw [hw]; clear hw cc ff; replace HR := BlkH.far HR hk (by omega); replace HZ := BlkH.far HZ hk (by omega); replace KW := KeptH.far KW hk (Nat.le_refl _); replace HC1 := RowH.far HC1 hk HL (by decide); replace HC2 := RowH.far HC2 hk HL (by decide); replace HL := HL2; clear hk HL2)
          refine hK.out _ _ ?_ (fun hHeld => ?_)
          · exact ⟨HR.out.cell 5, HR.out.cell 6⟩
          clear hK K
          try simp only [Act.put, List.getElem_toArray, List.getElem_cons_zero, List.getElem_cons_succ, List.setIfInBounds_toArray, List.set_cons_zero, List.set_cons_succ]
          refine wpAnyH_done (by kernel_rfl) ?_ _
          go_wp2_with fail
          go_meet
          case rel => exact ⟨A, c, A', c', HL, HC1, HC2, HZ, KW⟩
        refine AllReadyH.cons rfl (fun K hK => ?_) AllReadyH.nil
        (have cc := HL.out.cell 6; go_simp; clear cc)
        refine hK.out _ _ ?_ (fun hHeld => ?_)
        · exact ⟨HR.out.cell 5, HR.out.cell 6⟩
        clear hK K
        try simp only [Act.put, List.getElem_toArray, List.getElem_cons_zero, List.getElem_cons_succ, List.setIfInBounds_toArray, List.set_cons_zero, List.set_cons_succ]
        refine wpAnyH_ready (rs := [5, 10]) (by kernel_rfl) (by simp) ?_
        refine AllReadyH.cons rfl (fun K hK => ?_) ?_
        · skip
          try go_simp
          (go_at_call 29; refine (catItem_any _ (RdK.all HI.out KW.out) (RdK.all HJ.out KW.out) (HP1.out.cell 0) (HP1.out.cell 1) (by omega) (by omega)).mono ?_; rintro e wn ⟨A, c, rfl, HC1, hk⟩; replace HC1 := Lib.hid (HC1.out.low (Nat.zero_le _)); replace KW := Kept.go KW hk; replace HL := BlkH.go HL hk; replace HR := BlkH.go HR hk; replace HZ := BlkH.go HZ hk; (try replace HP1 := BlkH.go HP1 hk); (try replace HP2 := BlkH.go HP2 hk); clear hk)
          try go_simp
          refine hK.out _ _ ?_ (fun hHeld => ?_)
          · exact ⟨HR.out.cell 5, HR.out.cell 6⟩
          clear hK K
          try simp only [Act.put, List.getElem_toArray, List.getElem_cons_zero, List.getElem_cons_succ, List.setIfInBounds_toArray, List.set_cons_zero, List.set_cons_succ]
          refine wpAnyH_take (i := 12) (v := ?vz18) rfl (by kernel_rfl) (by kernel_rfl) (by kernel_rfl) (fun _ _ _ h => h) (Or.inl ⟨?wz18, ?yz18⟩) (by assumption) ?rz18
          case yz18 => (intro w hSw; (try dsimp only at hSw); go_simp; try with_reducible rfl)
          case wz18 => rfl
          case' rz18 => simp only [Act.put, List.getElem_toArray, List.getElem_cons_zero, List.getElem_cons_succ, List.setIfInBounds_toArray, List.set_cons_zero, List.set_cons_succ]
          refine wpAnyH_ready (rs := [10]) (by kernel_rfl) (by simp) ?_
          refine AllReadyH.cons rfl (fun K hK => ?_) AllReadyH.nil
          (go_simp; first | (obtain ⟨pb2, wn, hw, hg, HP2, hk⟩ := alloc_any KW #[.slice kA m1 kc, .slice mA m2 mc] 23; rw [hw, hg]; clear hw hg; replace KW := Kept.go KW hk; replace HL := BlkH.go HL hk; replace HR := BlkH.go HR hk; replace HZ := BlkH.go HZ hk; (try replace HP1 := BlkH.go HP1 hk); (try replace HC1 := RowH.go HC1 hk); clear hk) | (obtain ⟨pb2, wn, hw, hg, HP2, hk⟩ := alloc_anyd KW #[.slice kA m1 kc, .slice mA m2 mc] 23; rw [hw, hg]; clear hw hg; replace KW := Kept.go KW hk; replace HL := BlkH.go HL hk; replace HR := BlkH.go HR hk; replace HZ := BlkH.go HZ hk; (try replace HP1 := BlkH.go HP1 hk); (try replace HC1 := RowH.go HC1 hk); clear hk))
          refine hK.out _ _ ?_ (fun hHeld => ?_)
          · exact ⟨HR.out.cell 5, HR.out.cell 6⟩
          clear hK K
          try simp only [Act.put, List.getElem_toArray, List.getElem_cons_zero, List.getElem_cons_succ, List.setIfInBounds_toArray, List.set_cons_zero, List.set_cons_succ]
          refine wpAnyH_ready (rs := [11]) (by kernel_rfl) (by simp) ?_
          refine AllReadyH.cons rfl (fun K hK => ?_) AllReadyH.nil
          try go_simp
          (go_at_call 30; refine (catKid_any _ (RdK.all HK.out KW.out) (RdK.all HM.out KW.out) (HP2.out.cell 0) (HP2.out.cell 1) (by omega) (by omega)).mono ?_; rintro e wn ⟨A', c', rfl, HC2, hk⟩; replace HC2 := Lib.hid (HC2.out.low (Nat.zero_le _)); replace HC1 := RowH.go HC1 hk; replace KW := Kept.go KW hk; replace HL := BlkH.go HL hk; replace HR := BlkH.go HR hk; replace HZ := BlkH.go HZ hk; (try replace HP1 := BlkH.go HP1 hk); (try replace HP2 := BlkH.go HP2 hk); clear hk)
          try go_simp
          refine hK.out _ _ ?_ (fun hHeld => ?_)
          · exact ⟨HR.out.cell 5, HR.out.cell 6⟩
          clear hK K
          try simp only [Act.put, List.getElem_toArray, List.getElem_cons_zero, List.getElem_cons_succ, List.setIfInBounds_toArray, List.set_cons_zero, List.set_cons_succ]
          refine wpAnyH_ready (rs := [13]) (by kernel_rfl) (by simp) ?_
          refine AllReadyH.cons rfl (fun K hK => ?_) AllReadyH.nil
          (have cc := HL.out.cell 5; have ff := HL.out.frozen 5; go_simp; obtain ⟨wn, hw, HL2, hk⟩ := set1_step HL.out 5 (.slice A (n1 + n2) c); rw [hw]; clear hw cc ff; replace HR := BlkH.far HR hk (by omega); replace HZ := BlkH.far HZ hk (by omega); replace KW := KeptH.far KW hk (Nat.le_refl _); replace HC1 := RowH.far HC1 hk HL (by decide); replace HC2 := RowH.far HC2 hk HL (by decide); replace HL := HL2; clear hk HL2)
          refine hK.out _ _ ?_ (fun hHeld => ?_)
          · exact ⟨HR.out.cell 5, HR.out.cell 6⟩
          clear hK K
          try simp only [Act.put, List.getElem_toArray, List.getElem_cons_zero, List.getElem_cons_succ, List.setIfInBounds_toArray, List.set_cons_zero, List.set_cons_succ]
          refine wpAnyH_take (i := 14) (v := ?vz19) rfl (by kernel_rfl) (by kernel_rfl) (by kernel_rfl) (fun _ _ _ h => h) (Or.inl ⟨?wz19, ?yz19⟩) (by assumption) ?rz19
          case yz19 => (intro w hSw; (try dsimp only at hSw); go_simp; try with_reducible rfl)
          case wz19 => rfl
          case' rz19 => simp only [Act.put, List.getElem_toArray, List.getElem_cons_zero, List.getElem_cons_succ, List.setIfInBounds_toArray, List.set_cons_zero, List.set_cons_succ]
          refine wpAnyH_ready (rs := [15]) (by kernel_rfl) (by simp) ?_
          refine AllReadyH.cons rfl (fun K hK => ?_) AllReadyH.nil
          (have cc := HL.out.cell 6; have ff := HL.out.frozen 6; go_simp; obtain ⟨wn, hw, HL2, hk⟩ := set1_step HL.out 6 (.slice A' (m1 + m2) c'); rw [hw]; clear hw cc ff; replace HR := BlkH.far HR hk (by omega); replace HZ := BlkH.far HZ hk (by omega); replace KW := KeptH.far KW hk (Nat.le_refl _); replace HC1 := RowH.far HC1 hk HL (by decide); replace HC2 := RowH.far HC2 hk HL (by decide); replace HL := HL2; clear hk HL2)
          refine hK.out _ _ ?_ (fun hHeld => ?_)
          · exact ⟨HR.out.cell 5, HR.out.cell 6⟩
          clear hK K
          try simp only [Act.put, List.getElem_toArray, List.getElem_cons_zero, List.getElem_cons_succ, List.setIfInBounds_toArray, List.set_cons_zero, List.set_cons_succ]
          refine wpAnyH_done (by kernel_rfl) ?_ _
          go_wp2_with fail
          go_meet
          case rel => exact ⟨A, c, A', c', HL, HC1, HC2, HZ, KW⟩
        refine AllReadyH.cons rfl (fun K hK => ?_) AllReadyH.nil
        (go_simp; first | (obtain ⟨pb2, wn, hw, hg, HP2, hk⟩ := alloc_any KW #[.slice kA m1 kc, .slice mA m2 mc] 23; rw [hw, hg]; clear hw hg; replace KW := Kept.go KW hk; replace HL := BlkH.go HL hk; replace HR := BlkH.go HR hk; replace HZ := BlkH.go HZ hk; (try replace HP1 := BlkH.go HP1 hk); (try replace HC1 := RowH.go HC1 hk); clear hk) | (obtain ⟨pb2, wn, hw, hg, HP2, hk⟩ := alloc_anyd KW #[.slice kA m1 kc, .slice mA m2 mc] 23; rw [hw, hg]; clear hw hg; replace KW := Kept.go KW hk; replace HL := BlkH.go HL hk; replace HR := BlkH.go HR hk; replace HZ := BlkH.go HZ hk; (try replace HP1 := BlkH.go HP1 hk); (try replace HC1 := RowH.go HC1 hk); clear hk))
        refine hK.out _ _ ?_ (fun hHeld => ?_)
        · exact ⟨HR.out.cell 5, HR.out.cell 6⟩
        clear hK K
        try simp only [Act.put, List.getElem_toArray, List.getElem_cons_zero, List.getElem_cons_succ, List.setIfInBounds_toArray, List.set_cons_zero, List.set_cons_succ]
        refine wpAnyH_ready (rs := [5]) (by kernel_rfl) (by simp) ?_
        refine AllReadyH.cons rfl (fun K hK => ?_) AllReadyH.nil
        try go_simp
        (go_at_call 29; refine (catItem_any _ (RdK.all HI.out KW.out) (RdK.all HJ.out KW.out) (HP1.out.cell 0) (HP1.out.cell 1) (by omega) (by omega)).mono ?_; rintro e wn ⟨A, c, rfl, HC1, hk⟩; replace HC1 := Lib.hid (HC1.out.low (Nat.zero_le _)); replace KW := Kept.go KW hk; replace HL := BlkH.go HL hk; replace HR := BlkH.go HR hk; replace HZ := BlkH.go HZ hk; (try replace HP1 := BlkH.go HP1 hk); (try replace HP2 := BlkH.go HP2 hk); clear hk)
        try go_simp
        refine hK.out _ _ ?_ (fun hHeld => ?_)
        · exact ⟨HR.out.cell 5, HR.out.cell 6⟩
        clear hK K
        try simp only [Act.put, List.getElem_toArray, List.getElem_cons_zero, List.getElem_cons_succ, List.setIfInBounds_toArray, List.set_cons_zero, List.set_cons_succ]
        refine wpAnyH_take (i := 12) (v := ?vz20) rfl (by kernel_rfl) (by kernel_rfl) (by kernel_rfl) (fun _ _ _ h => h) (Or.inl ⟨?wz20, ?yz20⟩) (by assumption) ?rz20
        case yz20 => (intro w hSw; (try dsimp only at hSw); go_simp; try with_reducible rfl)
        case wz20 => rfl
        case' rz20 => simp only [Act.put, List.getElem_toArray, List.getElem_cons_zero, List.getElem_cons_succ, List.setIfInBounds_toArray, List.set_cons_zero, List.set_cons_succ]
        refine wpAnyH_ready (rs := [11]) (by kernel_rfl) (by simp) ?_
        refine AllReadyH.cons rfl (fun K hK => ?_) AllReadyH.nil
        try go_simp
        (go_at_call 30; refine (catKid_any _ (RdK.all HK.out KW.out) (RdK.all HM.out KW.out) (HP2.out.cell 0) (HP2.out.cell 1) (by omega) (by omega)).mono ?_; rintro e wn ⟨A', c', rfl, HC2, hk⟩; replace HC2 := Lib.hid (HC2.out.low (Nat.zero_le _)); replace HC1 := RowH.go HC1 hk; replace KW := Kept.go KW hk; replace HL := BlkH.go HL hk; replace HR := BlkH.go HR hk; replace HZ := BlkH.go HZ hk; (try replace HP1 := BlkH.go HP1 hk); (try replace HP2 := BlkH.go HP2 hk); clear hk)
        try go_simp
        refine hK.out _ _ ?_ (fun hHeld => ?_)
        · exact ⟨HR.out.cell 5, HR.out.cell 6⟩
        clear hK K
        try simp only [Act.put, List.getElem_toArray, List.getElem_cons_zero, List.getElem_cons_succ, List.setIfInBounds_toArray, List.set_cons_zero, List.set_cons_succ]
        refine wpAnyH_ready (rs := [13]) (by kernel_rfl) (by simp) ?_
        refine AllReadyH.cons rfl (fun K hK => ?_) AllReadyH.nil
        (have cc := HL.out.cell 5; have ff := HL.out.frozen 5; go_simp; obtain ⟨wn, hw, HL2, hk⟩ := set1_step HL.out 5 (.slice A (n1 + n2) c); rw [hw]; clear hw cc ff; replace HR := BlkH.far HR hk (by omega); replace HZ := BlkH.far HZ hk (by omega); replace KW := KeptH.far KW hk (Nat.le_refl _); replace HC1 := RowH.far HC1 hk HL (by decide); replace HC2 := RowH.far HC2 hk HL (by decide); replace HL := HL2; clear hk HL2)
        refine hK.out _ _ ?_ (fun hHeld => ?_)
        · exact ⟨HR.out.cell 5, HR.out.cell 6⟩
        clear hK K
        try simp only [Act.put, List.getElem_toArray, List.getElem_cons_zero, List.getElem_cons_succ, List.setIfInBounds_toArray, List.set_cons_zero, List.set_cons_succ]
        refine wpAnyH_take (i := 14) (v := ?vz21) rfl (by kernel_rfl) (by kernel_rfl) (by kernel_rfl) (fun _ _ _ h => h) (Or.inl ⟨?wz21, ?yz21⟩) (by assumption) ?rz21
        case yz21 => (intro w hSw; (try dsimp only at hSw); go_simp; try with_reducible rfl)
        case wz21 => rfl
        case' rz21 => simp only [Act.put, List.getElem_toArray, List.getElem_cons_zero, List.getElem_cons_succ, List.setIfInBounds_toArray, List.set_cons_zero, List.set_cons_succ]
        refine wpAnyH_ready (rs := [15]) (by kernel_rfl) (by simp) ?_
        refine AllReadyH.cons rfl (fun K hK => ?_) AllReadyH.nil
        (have cc := HL.out.cell 6; have ff := HL.out.frozen 6; go_simp; obtain ⟨wn, hw, HL2, hk⟩ := set1_step HL.out 6 (.slice A' (m1 + m2) c'); rw [hw]; clear hw cc ff; replace HR := BlkH.far HR hk (by omega); replace HZ := BlkH.far HZ hk (by omega); replace KW := KeptH.far KW hk (Nat.le_refl _); replace HC1 := RowH.far HC1 hk HL (by decide); replace HC2 := RowH.far HC2 hk HL (by decide); replace HL := HL2; clear hk HL2)
        refine hK.out _ _ ?_ (fun hHeld => ?_)
        · exact ⟨HR.out.cell 5, HR.out.cell 6⟩
        clear hK K
        try simp only [Act.put, List.getElem_toArray, List.getElem_cons_zero, List.getElem_cons_succ, List.setIfInBounds_toArray, List.set_cons_zero, List.set_cons_succ]
        refine wpAnyH_done (by kernel_rfl) ?_ _
        go_wp2_with fail
        go_meet
        case rel => exact ⟨A, c, A', c', HL, HC1, HC2, HZ, KW⟩
      refine AllReadyH.cons rfl (fun K hK => ?_) AllReadyH.nil
      (have cc := HL.out.cell 6; go_simp; clear cc)
      refine hK.out _ _ ?_ (fun hHeld => ?_)
      · exact ⟨HR.out.cell 5, HR.out.cell 6⟩
      clear hK K
      try simp only [Act.put, List.getElem_toArray, List.getElem_cons_zero, List.getElem_cons_succ, List.setIfInBounds_toArray, List.set_cons_zero, List.set_cons_succ]
      refine wpAnyH_ready (rs := [4, 10]) (by kernel_rfl) (by simp) ?_
      refine AllReadyH.cons rfl (fun K hK => ?_) ?_
      · skip
        (go_simp; first | (obtain ⟨pb1, wn, hw, hg, HP1, hk⟩ := alloc_any KW #[.slice iA n1 ic, .slice jA n2 jc] 22; rw [hw, hg]; clear hw hg; replace KW := Kept.go KW hk; replace HL := BlkH.go HL hk; replace HR := BlkH.go HR hk; replace HZ := BlkH.go HZ hk; (try replace HP2 := BlkH.go HP2 hk); (try replace HC1 := RowH.go HC1 hk); clear hk) | (obtain ⟨pb1, wn, hw, hg, HP1, hk⟩ := alloc_anyd KW #[.slice iA n1 ic, .slice jA n2 jc] 22; rw [hw, hg]; clear hw hg; replace KW := Kept.go KW hk; replace HL := BlkH.go HL hk; replace HR := BlkH.go HR hk; replace HZ := BlkH.go HZ hk; (try replace HP2 := BlkH.go HP2 hk); (try replace HC1 := RowH.go HC1 hk); clear hk))
        refine hK.out _ _ ?_ (fun hHeld => ?_)
        · exact ⟨HR.out.cell 5, HR.out.cell 6⟩
        clear hK K
        try simp only [Act.put, List.getElem_toArray, List.getElem_cons_zero, List.getElem_cons_succ, List.setIfInBounds_toArray, List.set_cons_zero, List.set_cons_succ]
        refine wpAnyH_ready (rs := [5, 10]) (by kernel_rfl) (by simp) ?_
        refine AllReadyH.cons rfl (fun K hK => ?_) ?_
        · skip
          try go_simp
          (go_at_call 29; refine (catItem_any _ (RdK.all HI.out KW.out) (RdK.all HJ.out KW.out) (HP1.out.cell 0) (HP1.out.cell 1) (by omega) (by omega)).mono ?_; rintro e wn ⟨A, c, rfl, HC1, hk⟩; replace HC1 := Lib.hid (HC1.out.low (Nat.zero_le _)); replace KW := Kept.go KW hk; replace HL := BlkH.go HL hk; replace HR := BlkH.go HR hk; replace HZ := BlkH.go HZ hk; (try replace HP1 := BlkH.go HP1 hk); (try replace HP2 := BlkH.go HP2 hk); clear hk)
          try go_simp
          refine hK.out _ _ ?_ (fun hHeld => ?_)
          · exact ⟨HR.out.cell 5, HR.out.cell 6⟩
          clear hK K
          try simp only [Act.put, List.getElem_toArray, List.getElem_cons_zero, List.getElem_cons_succ, List.setIfInBounds_toArray, List.set_cons_zero, List.set_cons_succ]
          refine wpAnyH_take (i := 12) (v := ?vz22) rfl (by kernel_rfl) (by kernel_rfl) (by kernel_rfl) (fun _ _ _ h => h) (Or.inl ⟨?wz22, ?yz22⟩) (by assumption) ?rz22
          case yz22 => (intro w hSw; (try dsimp only at hSw); go_simp; try with_reducible rfl)
          case wz22 => rfl
          case' rz22 => simp only [Act.put, List.getElem_toArray, List.getElem_cons_zero, List.getElem_cons_succ, List.setIfInBounds_toArray, List.set_cons_zero, List.set_cons_succ]
          refine wpAnyH_ready (rs := [10]) (by kernel_rfl) (by simp) ?_
          refine AllReadyH.cons rfl (fun K hK => ?_) AllReadyH.nil
          (go_simp; first | (obtain ⟨pb2, wn, hw, hg, HP2, hk⟩ := alloc_any KW #[.slice kA m1 kc, .slice mA m2 mc] 23; rw [hw, hg]; clear hw hg; replace KW := Kept.go KW hk; replace HL := BlkH.go HL hk; replace HR := BlkH.go HR hk; replace HZ := BlkH.go HZ hk; (try replace HP1 := BlkH.go HP1 hk); (try replace HC1 := RowH.go HC1 hk); clear hk) | (obtain ⟨pb2, wn, hw, hg, HP2, hk⟩ := alloc_anyd KW #[.slice kA m1 kc, .slice mA m2 mc] 23; rw [hw, hg]; clear hw hg; replace KW := Kept.go KW hk; replace HL := BlkH.go HL hk; replace HR := BlkH.go HR hk; replace HZ := BlkH.go HZ hk; (try replace HP1 := BlkH.go HP1 hk); (try replace HC1 := RowH.go HC1 hk); clear hk))
          refine hK.out _ _ ?_ (fun hHeld => ?_)
          · exact ⟨HR.out.cell 5, HR.out.cell 6⟩
          clear hK K
          try simp only [Act.put, List.getElem_toArray, List.getElem_cons_zero, List.getElem_cons_succ, List.setIfInBounds_toArray, List.set_cons_zero, List.set_cons_succ]
          refine wpAnyH_ready (rs := [11]) (by kernel_rfl) (by simp) ?_
          refine AllReadyH.cons rfl (fun K hK => ?_) AllReadyH.nil
          try go_simp
          (go_at_call 30; refine (catKid_any _ (RdK.all HK.out KW.out) (RdK.all HM.out KW.out) (HP2.out.cell 0) (HP2.out.cell 1) (by omega) (by omega)).mono ?_; rintro e wn ⟨A', c', rfl, HC2, hk⟩; replace HC2 := Lib.hid (HC2.out.low (Nat.zero_le _)); replace HC1 := RowH.go HC1 hk; replace KW := Kept.go KW hk; replace HL := BlkH.go HL hk; replace HR := BlkH.go HR hk; replace HZ := BlkH.go HZ hk; (try replace HP1 := BlkH.go HP1 hk); (try replace HP2 := BlkH.go HP2 hk); clear hk)
          try go_simp
          refine hK.out _ _ ?_ (fun hHeld => ?_)
          · exact ⟨HR.out.cell 5, HR.out.cell 6⟩
          clear hK K
          try simp only [Act.put, List.getElem_toArray, List.getElem_cons_zero, List.getElem_cons_succ, List.setIfInBounds_toArray, List.set_cons_zero, List.set_cons_succ]
          refine wpAnyH_ready (rs := [13]) (by kernel_rfl) (by simp) ?_
          refine AllReadyH.cons rfl (fun K hK => ?_) AllReadyH.nil
          (have cc := HL.out.cell 5; have ff := HL.out.frozen 5; go_simp; obtain ⟨wn, hw, HL2, hk⟩ := set1_step HL.out 5 (.slice A (n1 + n2) c); rw [hw]; clear hw cc ff; replace HR := BlkH.far HR hk (by omega); replace HZ := BlkH.far HZ hk (by omega); replace KW := KeptH.far KW hk (Nat.le_refl _); replace HC1 := RowH.far HC1 hk HL (by decide); replace HC2 := RowH.far HC2 hk HL (by decide); replace HL := HL2; clear hk HL2)
          refine hK.out _ _ ?_ (fun hHeld => ?_)
          · exact ⟨HR.out.cell 5, HR.out.cell 6⟩
          clear hK K
          try simp only [Act.put, List.getElem_toArray, List.getElem_cons_zero, List.getElem_cons_succ, List.setIfInBounds_toArray, List.set_cons_zero, List.set_cons_succ]
          refine wpAnyH_take (i := 14) (v := ?vz23) rfl (by kernel_rfl) (by kernel_rfl) (by kernel_rfl) (fun _ _ _ h => h) (Or.inl ⟨?wz23, ?yz23⟩) (by assumption) ?rz23
          case yz23 => (intro w hSw; (try dsimp only at hSw); go_simp; try with_reducible rfl)
          case wz23 => rfl
          case' rz23 => simp only [Act.put, List.getElem_toArray, List.getElem_cons_zero, List.getElem_cons_succ, List.setIfInBounds_toArray, List.set_cons_zero, List.set_cons_succ]
          refine wpAnyH_ready (rs := [15]) (by kernel_rfl) (by simp) ?_
          refine AllReadyH.cons rfl (fun K hK => ?_) AllReadyH.nil
          (have cc := HL.out.cell 6; have ff := HL.out.frozen 6; go_simp; obtain ⟨wn, hw, HL2, hk⟩ := set1_step HL.out 6 (.slice A' (m1 + m2) c'); rw [hw]; clear hw cc ff; replace HR := BlkH.far HR hk (by omega); replace HZ := BlkH.far HZ hk (by omega); replace KW := KeptH.far KW hk (Nat.le_refl _); replace HC1 := RowH.far HC1 hk HL (by decide); replace HC2 := RowH.far HC2 hk HL (by decide); replace HL := HL2; clear hk HL2)
          refine hK.out _ _ ?_ (fun hHeld => ?_)
          · exact ⟨HR.out.cell 5, HR.out.cell 6⟩
          clear hK K
          try simp only [Act.put, List.getElem_toArray, List.getElem_cons_zero, List.getElem_cons_succ, List.setIfInBounds_toArray, List.set_cons_zero, List.set_cons_succ]
          refine wpAnyH_done (by kernel_rfl) ?_ _
          go_wp2_with fail
          go_meet
          case rel => exact ⟨A, c, A', c', HL, HC1, HC2, HZ, KW⟩
        refine AllReadyH.cons rfl (fun K hK => ?_) AllReadyH.nil
        (go_simp; first | (obtain ⟨pb2, wn, hw, hg, HP2, hk⟩ := alloc_any KW #[.slice kA m1 kc, .slice mA m2 mc] 23; rw [hw, hg]; clear hw hg; replace KW := Kept.go KW hk; replace HL := BlkH.go HL hk; replace HR := BlkH.go HR hk; replace HZ := BlkH.go HZ hk; (try replace HP1 := BlkH.go HP1 hk); (try replace HC1 := RowH.go HC1 hk); clear hk) | (obtain ⟨pb2, wn, hw, hg, HP2, hk⟩ := alloc_anyd KW #[.slice kA m1 kc, .slice mA m2 mc] 23; rw [hw, hg]; clear hw hg; replace KW := Kept.go KW hk; replace HL := BlkH.go HL hk; replace HR := BlkH.go HR hk; replace HZ := BlkH.go HZ hk; (try replace HP1 := BlkH.go HP1 hk); (try replace HC1 := RowH.go HC1 hk); clear hk))
        refine hK.out _ _ ?_ (fun hHeld => ?_)
        · exact ⟨HR.out.cell 5, HR.out.cell 6⟩
        clear hK K
        try simp only [Act.put, List.getElem_toArray, List.getElem_cons_zero, List.getElem_cons_succ, List.setIfInBounds_toArray, List.set_cons_zero, List.set_cons_succ]
        refine wpAnyH_ready (rs := [5]) (by kernel_rfl) (by simp) ?_
        refine AllReadyH.cons rfl (fun K hK => ?_) AllReadyH.nil
        try go_simp
        (go_at_call 29; refine (catItem_any _ (RdK.all HI.out KW.out) (RdK.all HJ.out KW.out) (HP1.out.cell 0) (HP1.out.cell 1) (by omega) (by omega)).mono ?_; rintro e wn ⟨A, c, rfl, HC1, hk⟩; replace HC1 := Lib.hid (HC1.out.low (Nat.zero_le _)); replace KW := Kept.go KW hk; replace HL := BlkH.go HL hk; replace HR := BlkH.go HR hk; replace HZ := BlkH.go HZ hk; (try replace HP1 := BlkH.go HP1 hk); (try replace HP2 := BlkH.go HP2 hk); clear hk)
        try go_simp
        refine hK.out _ _ ?_ (fun hHeld => ?_)
        · exact ⟨HR.out.cell 5, HR.out.cell 6⟩
        clear hK K
        try simp only [Act.put, List.getElem_toArray, List.getElem_cons_zero, List.getElem_cons_succ, List.setIfInBounds_toArray, List.set_cons_zero, List.set_cons_succ]
        refine wpAnyH_take (i := 12) (v := ?vz24) rfl (by kernel_rfl) (by kernel_rfl) (by kernel_rfl) (fun _ _ _ h => h) (Or.inl ⟨?wz24, ?yz24⟩) (by assumption) ?rz24
        case yz24 => (intro w hSw; (try dsimp only at hSw); go_simp; try with_reducible rfl)
        case wz24 => rfl
        case' rz24 => simp only [Act.put, List.getElem_toArray, List.getElem_cons_zero, List.getElem_cons_succ, List.setIfInBounds_toArray, List.set_cons_zero, List.set_cons_succ]
        refine wpAnyH_ready (rs := [11]) (by kernel_rfl) (by simp) ?_
        refine AllReadyH.cons rfl (fun K hK => ?_) AllReadyH.nil
        try go_simp
        (go_at_call 30; refine (catKid_any _ (RdK.all HK.out KW.out) (RdK.all HM.out KW.out) (HP2.out.cell 0) (HP2.out.cell 1) (by omega) (by omega)).mono ?_; rintro e wn ⟨A', c', rfl, HC2, hk⟩; replace HC2 := Lib.hid (HC2.out.low (Nat.zero_le _)); replace HC1 := RowH.go HC1 hk; replace KW := Kept.go KW hk; replace HL := BlkH.go HL hk; replace HR := BlkH.go HR hk; replace HZ := BlkH.go HZ hk; (try replace HP1 := BlkH.go HP1 hk); (try replace HP2 := BlkH.go HP2 hk); clear hk)
        try go_simp
        refine hK.out _ _ ?_ (fun hHeld => ?_)
        · exact ⟨HR.out.cell 5, HR.out.cell 6⟩
        clear hK K
        try simp only [Act.put, List.getElem_toArray, List.getElem_cons_zero, List.getElem_cons_succ, List.setIfInBounds_toArray, List.set_cons_zero, List.set_cons_succ]
        refine wpAnyH_ready (rs := [13]) (by kernel_rfl) (by simp) ?_
        refine AllReadyH.cons rfl (fun K hK => ?_) AllReadyH.nil
        (have cc := HL.out.cell 5; have ff := HL.out.frozen 5; go_simp; obtain ⟨wn, hw, HL2, hk⟩ := set1_step HL.out 5 (.slice A (n1 + n2) c); rw [hw]; clear hw cc ff; replace HR := BlkH.far HR hk (by omega); replace HZ := BlkH.far HZ hk (by omega); replace KW := KeptH.far KW hk (Nat.le_refl _); replace HC1 := RowH.far HC1 hk HL (by decide); replace HC2 := RowH.far HC2 hk HL (by decide); replace HL := HL2; clear hk HL2)
        refine hK.out _ _ ?_ (fun hHeld => ?_)
        · exact ⟨HR.out.cell 5, HR.out.cell 6⟩
        clear hK K
        try simp only [Act.put, List.getElem_toArray, List.getElem_cons_zero, List.getElem_cons_succ, List.setIfInBounds_toArray, List.set_cons_zero, List.set_cons_succ]
        refine wpAnyH_take (i := 14) (v := ?vz25) rfl (by kernel_rfl) (by kernel_rfl) (by kernel_rfl) (fun _ _ _ h => h) (Or.inl ⟨?wz25, ?yz25⟩) (by assumption) ?rz25
        case yz25 => (intro w hSw; (try dsimp only at hSw); go_simp; try with_reducible rfl)
        case wz25 => rfl
        case' rz25 => simp only [Act.put, List.getElem_toArray, List.getElem_cons_zero, List.getElem_cons_succ, List.setIfInBounds_toArray, List.set_cons_zero, List.set_cons_succ]
        refine wpAnyH_ready (rs := [15]) (by kernel_rfl) (by simp) ?_
        refine AllReadyH.cons rfl (fun K hK => ?_) AllReadyH.nil
        (have cc := HL.out.cell 6; have ff := HL.out.frozen 6; go_simp; obtain ⟨wn, hw, HL2, hk⟩ := set1_step HL.out 6 (.slice A' (m1 + m2) c'); rw [hw]; clear hw cc ff; replace HR := BlkH.far HR hk (by omega); replace HZ := BlkH.far HZ hk (by omega); replace KW := KeptH.far KW hk (Nat.le_refl _); replace HC1 := RowH.far HC1 hk HL (by decide); replace HC2 := RowH.far HC2 hk HL (by decide); replace HL := HL2; clear hk HL2)
        refine hK.out _ _ ?_ (fun hHeld => ?_)
        · exact ⟨HR.out.cell 5, HR.out.cell 6⟩
        clear hK K
        try simp only [Act.put, List.getElem_toArray, List.getElem_cons_zero, List.getElem_cons_succ, List.setIfInBounds_toArray, List.set_cons_zero, List.set_cons_succ]
        refine wpAnyH_done (by kernel_rfl) ?_ _
        go_wp2_with fail
        go_meet
        case rel => exact ⟨A, c, A', c', HL, HC1, HC2, HZ, KW⟩
      refine AllReadyH.cons rfl (fun K hK => ?_) AllReadyH.nil
      (go_simp; first | (obtain ⟨pb2, wn, hw, hg, HP2, hk⟩ := alloc_any KW #[.slice kA m1 kc, .slice mA m2 mc] 23; rw [hw, hg]; clear hw hg; replace KW := Kept.go KW hk; replace HL := BlkH.go HL hk; replace HR := BlkH.go HR hk; replace HZ := BlkH.go HZ hk; (try replace HP1 := BlkH.go HP1 hk); (try replace HC1 := RowH.go HC1 hk); clear hk) | (obtain ⟨pb2, wn, hw, hg, HP2, hk⟩ := alloc_anyd KW #[.slice kA m1 kc, .slice mA m2 mc] 23; rw [hw, hg]; clear hw hg; replace KW := Kept.go KW hk; replace HL := BlkH.go HL hk; replace HR := BlkH.go HR hk; replace HZ := BlkH.go HZ hk; (try replace HP1 := BlkH.go HP1 hk); (try replace HC1 := RowH.go HC1 hk); clear hk))
      refine hK.out _ _ ?_ (fun hHeld => ?_)
      · exact ⟨HR.out.cell 5, HR.out.cell 6⟩
      clear hK K
      try simp only [Act.put, List.getElem_toArray, List.getElem_cons_zero, List.getElem_cons_succ, List.setIfInBounds_toArray, List.set_cons_zero, List.set_cons_succ]
      refine wpAnyH_ready (rs := [4]) (by kernel_rfl) (by simp) ?_
      refine AllReadyH.cons rfl (fun K hK => ?_) AllReadyH.nil
      (go_simp; first | (obtain ⟨pb1, wn, hw, hg, HP1, hk⟩ := alloc_any KW #[.slice iA n1 ic, .slice jA n2 jc] 22; rw [hw, hg]; clear hw hg; replace KW := Kept.go KW hk; replace HL := BlkH.go HL hk; replace HR := BlkH.go HR hk; replace HZ := BlkH.go HZ hk; (try replace HP2 := BlkH.go HP2 hk); (try replace HC1 := RowH.go HC1 hk); clear hk) | (obtain ⟨pb1, wn, hw, hg, HP1, hk⟩ := alloc_anyd KW #[.slice iA n1 ic, .slice jA n2 jc] 22; rw [hw, hg]; clear hw hg; replace KW := Kept.go KW hk; replace HL := BlkH.go HL hk; replace HR := BlkH.go HR hk; replace HZ := BlkH.go HZ hk; (try replace HP2 := BlkH.go HP2 hk); (try replace HC1 := RowH.go HC1 hk); clear hk))
      refine hK.out _ _ ?_ (fun hHeld => ?_)
      · exact ⟨HR.out.cell 5, HR.out.cell 6⟩
      clear hK K
      try simp only [Act.put, List.getElem_toArray, List.getElem_cons_zero, List.getElem_cons_succ, List.setIfInBounds_toArray, List.set_cons_zero, List.set_cons_succ]
      refine wpAnyH_ready (rs := [5]) (by kernel_rfl) (by simp) ?_
      refine AllReadyH.cons rfl (fun K hK => ?_) AllReadyH.nil
      try go_simp
      (go_at_call 29; refine (catItem_any _ (RdK.all HI.out KW.out) (RdK.all HJ.out KW.out) (HP1.out.cell 0) (HP1.out.cell 1) (by omega) (by omega)).mono ?_; rintro e wn ⟨A, c, rfl, HC1, hk⟩; replace HC1 := Lib.hid (HC1.out.low (Nat.zero_le _)); replace KW := Kept.go KW hk; replace HL := BlkH.go HL hk; replace HR := BlkH.go HR hk; replace HZ := BlkH.go HZ hk; (try replace HP1 := BlkH.go HP1 hk); (try replace HP2 := BlkH.go HP2 hk); clear hk)
      try go_simp
      refine hK.out _ _ ?_ (fun hHeld => ?_)
      · exact ⟨HR.out.cell 5, HR.out.cell 6⟩
      clear hK K
      try simp only [Act.put, List.getElem_toArray, List.getElem_cons_zero, List.getElem_cons_succ, List.setIfInBounds_toArray, List.set_cons_zero, List.set_cons_succ]
      refine wpAnyH_take (i := 12) (v := ?vz26) rfl (by kernel_rfl) (by kernel_rfl) (by kernel_rfl) (fun _ _ _ h => h) (Or.inl ⟨?wz26, ?yz26⟩) (by assumption) ?rz26
      case yz26 => (intro w hSw; (try dsimp only at hSw); go_simp; try with_reducible rfl)
      case wz26 => rfl
      case' rz26 => simp only [Act.put, List.getElem_toArray, List.getElem_cons_zero, List.getElem_cons_succ, List.setIfInBounds_toArray, List.set_cons_zero, List.set_cons_succ]
      refine wpAnyH_ready (rs := [11]) (by kernel_rfl) (by simp) ?_
      refine AllReadyH.cons rfl (fun K hK => ?_) AllReadyH.nil
      try go_simp
      (go_at_call 30; refine (catKid_any _ (RdK.all HK.out KW.out) (RdK.all HM.out KW.out) (HP2.out.cell 0) (HP2.out.cell 1) (by omega) (by omega)).mono ?_; rintro e wn ⟨A', c', rfl, HC2, hk⟩; replace HC2 := Lib.hid (HC2.out.low (Nat.zero_le _)); replace HC1 := RowH.go HC1 hk; replace KW := Kept.go KW hk; replace HL := BlkH.go HL hk; replace HR := BlkH.go HR hk; replace HZ := BlkH.go HZ hk; (try replace HP1 := BlkH.go HP1 hk); (try replace HP2 := BlkH.go HP2 hk); clear hk)
      try go_simp
      refine hK.out _ _ ?_ (fun hHeld => ?_)
      · exact ⟨HR.out.cell 5, HR.out.cell 6⟩
      clear hK K
      try simp only [Act.put, List.getElem_toArray, List.getElem_cons_zero, List.getElem_cons_succ, List.setIfInBounds_toArray, List.set_cons_zero, List.set_cons_succ]
      refine wpAnyH_ready (rs := [13]) (by kernel_rfl) (by simp) ?_
      refine AllReadyH.cons rfl (fun K hK => ?_) AllReadyH.nil
      (have cc := HL.out.cell 5; have ff := HL.out.frozen 5; go_simp; obtain ⟨wn, hw, HL2, hk⟩ := set1_step HL.out 5 (.slice A (n1 + n2) c); rw [hw]; clear hw cc ff; replace HR := BlkH.far HR hk (by omega); replace HZ := BlkH.far HZ hk (by omega); replace KW := KeptH.far KW hk (Nat.le_refl _); replace HC1 := RowH.far HC1 hk HL (by decide); replace HC2 := RowH.far HC2 hk HL (by decide); replace HL := HL2; clear hk HL2)
      refine hK.out _ _ ?_ (fun hHeld => ?_)
      · exact ⟨HR.out.cell 5, HR.out.cell 6⟩
      clear hK K
      try simp only [Act.put, List.getElem_toArray, List.getElem_cons_zero, List.getElem_cons_succ, List.setIfInBounds_toArray, List.set_cons_zero, List.set_cons_succ]
      refine wpAnyH_take (i := 14) (v := ?vz27) rfl (by kernel_rfl) (by kernel_rfl) (by kernel_rfl) (fun _ _ _ h => h) (Or.inl ⟨?wz27, ?yz27⟩) (by assumption) ?rz27
      case yz27 => (intro w hSw; (try dsimp only at hSw); go_simp; try with_reducible rfl)
      case wz27 => rfl
      case' rz27 => simp only [Act.put, List.getElem_toArray, List.getElem_cons_zero, List.getElem_cons_succ, List.setIfInBounds_toArray, List.set_cons_zero, List.set_cons_succ]
      refine wpAnyH_ready (rs := [15]) (by kernel_rfl) (by simp) ?_
      refine AllReadyH.cons rfl (fun K hK => ?_) AllReadyH.nil
      (have cc := HL.out.cell 6; have ff := HL.out.frozen 6; go_simp; obtain ⟨wn, hw, HL2, hk⟩ := set1_step HL.out 6 (.slice A' (m1 + m2) c'); rw [hw]; clear hw cc ff; replace HR := BlkH.far HR hk (by omega); replace HZ := BlkH.far HZ hk (by omega); replace KW := KeptH.far KW hk (Nat.le_refl _); replace HC1 := RowH.far HC1 hk HL (by decide); replace HC2 := RowH.far HC2 hk HL (by decide); replace HL := HL2; clear hk HL2)
      refine hK.out _ _ ?_ (fun hHeld => ?_)
      · exact ⟨HR.out.cell 5, HR.out.cell 6⟩
      clear hK K
      try simp only [Act.put, List.getElem_toArray, List.getElem_cons_zero, List.getElem_cons_succ, List.setIfInBounds_toArray, List.set_cons_zero, List.set_cons_succ]
      refine wpAnyH_done (by kernel_rfl) ?_ _
      go_wp2_with fail
      go_meet
      case rel => exact ⟨A, c, A', c', HL, HC1, HC2, HZ, KW⟩
    refine AllReadyH.cons rfl (fun K hK => ?_) AllReadyH.nil
    (have cc := HL.out.cell 6; go_simp; clear cc)
    refine hK.out _ _ ?_ (fun hHeld => ?_)
    · exact ⟨HR.out.cell 5, HR.out.cell 6⟩
    clear hK K
    try simp only [Act.put, List.getElem_toArray, List.getElem_cons_zero, List.getElem_cons_succ, List.setIfInBounds_toArray, List.set_cons_zero, List.set_cons_succ]
    refine wpAnyH_ready (rs := [1, 10]) (by kernel_rfl) (by simp) ?_
    refine AllReadyH.cons rfl (fun K hK => ?_) ?_
    · skip
      (have cc := HL.out.cell 5; go_simp; clear cc)
      refine hK.out _ _ ?_ (fun hHeld => ?_)
      · exact ⟨HR.out.cell 5, HR.out.cell 6⟩
      clear hK K
      try simp only [Act.put, List.getElem_toArray, List.getElem_cons_zero, List.getElem_cons_succ, List.setIfInBounds_toArray, List.set_cons_zero, List.set_cons_succ]
      refine wpAnyH_ready (rs := [4, 10]) (by kernel_rfl) (by simp) ?_
      refine AllReadyH.cons rfl (fun K hK => ?_) ?_
      · skip
        (go_simp; first | (obtain ⟨pb1, wn, hw, hg, HP1, hk⟩ := alloc_any KW #[.slice iA n1 ic, .slice jA n2 jc] 22; rw [hw, hg]; clear hw hg; replace KW := Kept.go KW hk; replace HL := BlkH.go HL hk; replace HR := BlkH.go HR hk; replace HZ := BlkH.go HZ hk; (try replace HP2 := BlkH.go HP2 hk); (try replace HC1 := RowH.go HC1 hk); clear hk) | (obtain ⟨pb1, wn, hw, hg, HP1, hk⟩ := alloc_anyd KW #[.slice iA n1 ic, .slice jA n2 jc] 22; rw [hw, hg]; clear hw hg; replace KW := Kept.go KW hk; replace HL := BlkH.go HL hk; replace HR := BlkH.go HR hk; replace HZ := BlkH.go HZ hk; (try replace HP2 := BlkH.go HP2 hk); (try replace HC1 := RowH.go HC1 hk); clear hk))
        refine hK.out _ _ ?_ (fun hHeld => ?_)
        · exact ⟨HR.out.cell 5, HR.out.cell 6⟩
        clear hK K
        try simp only [Act.put, List.getElem_toArray, List.getElem_cons_zero, List.getElem_cons_succ, List.setIfInBounds_toArray, List.set_cons_zero, List.set_cons_succ]
        refine wpAnyH_ready (rs := [5, 10]) (by kernel_rfl) (by simp) ?_
        refine AllReadyH.cons rfl (fun K hK => ?_) ?_
        · skip
          try go_simp
          (go_at_call 29; refine (catItem_any _ (RdK.all HI.out KW.out) (RdK.all HJ.out KW.out) (HP1.out.cell 0) (HP1.out.cell 1) (by omega) (by omega)).mono ?_; rintro e wn ⟨A, c, rfl, HC1, hk⟩; replace HC1 := Lib.hid (HC1.out.low (Nat.zero_le _)); replace KW := Kept.go KW hk; replace HL := BlkH.go HL hk; replace HR := BlkH.go HR hk; replace HZ := BlkH.go HZ hk; (try replace HP1 := BlkH.go HP1 hk); (try replace HP2 := BlkH.go HP2 hk); clear hk)
          try go_simp
          refine hK.out _ _ ?_ (fun hHeld => ?_)
          · exact ⟨HR.out.cell 5, HR.out.cell 6⟩
          clear hK K
          try simp only [Act.put, List.getElem_toArray, List.getElem_cons_zero, List.getElem_cons_succ, List.setIfInBounds_toArray, List.set_cons_zero, List.set_cons_succ]
          refine wpAnyH_take (i := 12) (v := ?vz28) rfl (by kernel_rfl) (by kernel_rfl) (by kernel_rfl) (fun _ _ _ h => h) (Or.inl ⟨?wz28, ?yz28⟩) (by assumption) ?rz28
          case yz28 => (intro w hSw; (try dsimp only at hSw); go_simp; try with_reducible rfl)
          case wz28 => rfl
          case' rz28 => simp only [Act.put, List.getElem_toArray, List.getElem_cons_zero, List.getElem_cons_succ, List.setIfInBounds_toArray, List.set_cons_zero, List.set_cons_succ]
          refine wpAnyH_ready (rs := [10]) (by kernel_rfl) (by simp) ?_
          refine AllReadyH.cons rfl (fun K hK => ?_) AllReadyH.nil
          (go_simp; first | (obtain ⟨pb2, wn, hw, hg, HP2, hk⟩ := alloc_any KW #[.slice kA m1 kc, .slice mA m2 mc] 23; rw [hw, hg]; clear hw hg; replace KW := Kept.go KW hk; replace HL := BlkH.go HL hk; replace HR := BlkH.go HR hk; replace HZ := BlkH.go HZ hk; (try replace HP1 := BlkH.go HP1 hk); (try replace HC1 := RowH.go HC1 hk); clear hk) | (obtain ⟨pb2, wn, hw, hg, HP2, hk⟩ := alloc_anyd KW #[.slice kA m1 kc, .slice mA m2 mc] 23; rw [hw, hg]; clear hw hg; replace KW := Kept.go KW hk; replace HL := BlkH.go HL hk; replace HR := BlkH.go HR hk; replace HZ := BlkH.go HZ hk; (try replace HP1 := BlkH.go HP1 hk); (try replace HC1 := RowH.go HC1 hk); clear hk))
          refine hK.out _ _ ?_ (fun hHeld => ?_)
          · exact ⟨HR.out.cell 5, HR.out.cell 6⟩
          clear hK K
          try simp only [Act.put, List.getElem_toArray, List.getElem_cons_zero, List.getElem_cons_succ, List.setIfInBounds_toArray, List.set_cons_zero, List.set_cons_succ]
          refine wpAnyH_ready (rs := [11]) (by kernel_rfl) (by simp) ?_
          refine AllReadyH.cons rfl (fun K hK => ?_) AllReadyH.nil
          try go_simp
          (go_at_call 30; refine (catKid_any _ (RdK.all HK.out KW.out) (RdK.all HM.out KW.out) (HP2.out.cell 0) (HP2.out.cell 1) (by omega) (by omega)).mono ?_; rintro e wn ⟨A', c', rfl, HC2, hk⟩; replace HC2 := Lib.hid (HC2.out.low (Nat.zero_le _)); replace HC1 := RowH.go HC1 hk; replace KW := Kept.go KW hk; replace HL := BlkH.go HL hk; replace HR := BlkH.go HR hk; replace HZ := BlkH.go HZ hk; (try replace HP1 := BlkH.go HP1 hk); (try replace HP2 := BlkH.go HP2 hk); clear hk)
          try go_simp
          refine hK.out _ _ ?_ (fun hHeld => ?_)
          · exact ⟨HR.out.cell 5, HR.out.cell 6⟩
          clear hK K
          try simp only [Act.put, List.getElem_toArray, List.getElem_cons_zero, List.getElem_cons_succ, List.setIfInBounds_toArray, List.set_cons_zero, List.set_cons_succ]
          refine wpAnyH_ready (rs := [13]) (by kernel_rfl) (by simp) ?_
          refine AllReadyH.cons rfl (fun K hK => ?_) AllReadyH.nil
          (have cc := HL.out.cell 5; have ff := HL.out.frozen 5; go_simp; obtain ⟨wn, hw, HL2, hk⟩ := set1_step HL.out 5 (.slice A (n1 + n2) c); rw [hw]; clear hw cc ff; replace HR := BlkH.far HR hk (by omega); replace HZ := BlkH.far HZ hk (by omega); replace KW := KeptH.far KW hk (Nat.le_refl _); replace HC1 := RowH.far HC1 hk HL (by decide); replace HC2 := RowH.far HC2 hk HL (by decide); replace HL := HL2; clear hk HL2)
          refine hK.out _ _ ?_ (fun hHeld => ?_)
          · exact ⟨HR.out.cell 5, HR.out.cell 6⟩
          clear hK K
          try simp only [Act.put, List.getElem_toArray, List.getElem_cons_zero, List.getElem_cons_succ, List.setIfInBounds_toArray, List.set_cons_zero, List.set_cons_succ]
          refine wpAnyH_take (i := 14) (v := ?vz29) rfl (by kernel_rfl) (by kernel_rfl) (by kernel_rfl) (fun _ _ _ h => h) (Or.inl ⟨?wz29, ?yz29⟩) (by assumption) ?rz29
          case yz29 => (intro w hSw; (try dsimp only at hSw); go_simp; try with_reducible rfl)
          case wz29 => rfl
          case' rz29 => simp only [Act.put, List.getElem_toArray, List.getElem_cons_zero, List.getElem_cons_succ, List.setIfInBounds_toArray, List.set_cons_zero, List.set_cons_succ]
          refine wpAnyH_ready (rs := [15]) (by kernel_rfl) (by simp) ?_
          refine AllReadyH.cons rfl (fun K hK => ?_) AllReadyH.nil
          (have cc := HL.out.cell 6; have ff := HL.out.frozen 6; go_simp; obtain ⟨wn, hw, HL2, hk⟩ := set1_step HL.out 6 (.slice A' (m1 + m2) c'); rw [hw]; clear hw cc ff; replace HR := BlkH.far HR hk (by omega); replace HZ := BlkH.far HZ hk (by omega); replace KW := KeptH.far KW hk (Nat.le_refl _); replace HC1 := RowH.far HC1 hk HL (by decide); replace HC2 := RowH.far HC2 hk HL (by decide); replace HL := HL2; clear hk HL2)
          refine hK.out _ _ ?_ (fun hHeld => ?_)
          · exact ⟨HR.out.cell 5, HR.out.cell 6⟩
          clear hK K
          try simp only [Act.put, List.getElem_toArray, List.getElem_cons_zero, List.getElem_cons_succ, List.setIfInBounds_toArray, List.set_cons_zero, List.set_cons_succ]
          refine wpAnyH_done (by kernel_rfl) ?_ _
          go_wp2_with fail
          go_meet
          case rel => exact ⟨A, c, A', c', HL, HC1, HC2, HZ, KW⟩
        refine AllReadyH.cons rfl (fun K hK => ?_) AllReadyH.nil
        (go_simp; first | (obtain ⟨pb2, wn, hw, hg, HP2, hk⟩ := alloc_any KW #[.slice kA m1 kc, .slice mA m2 mc] 23; rw [hw, hg]; clear hw hg; replace KW := Kept.go KW hk; replace HL := BlkH.go HL hk; replace HR := BlkH.go HR hk; replace HZ := BlkH.go HZ hk; (try replace HP1 := BlkH.go HP1 hk); (try replace HC1 := RowH.go HC1 hk); clear hk) | (obtain ⟨pb2, wn, hw, hg, HP2, hk⟩ := alloc_anyd KW #[.slice kA m1 kc, .slice mA m2 mc] 23; rw [hw, hg]; clear hw hg; replace KW := Kept.go KW hk; replace HL := BlkH.go HL hk; replace HR := BlkH.go HR hk; replace HZ := BlkH.go HZ hk; (try replace HP1 := BlkH.go HP1 hk); (try replace HC1 := RowH.go HC1 hk); clear hk))
        refine hK.out _ _ ?_ (fun hHeld => ?_)
        · exact ⟨HR.out.cell 5, HR.out.cell 6⟩
        clear hK K
        try simp only [Act.put, List.getElem_toArray, List.getElem_cons_zero, List.getElem_cons_succ, List.setIfInBounds_toArray, List.set_cons_zero, List.set_cons_succ]
        refine wpAnyH_ready (rs := [5]) (by kernel_rfl) (by simp) ?_
        refine AllReadyH.cons rfl (fun K hK => ?_) AllReadyH.nil
        try go_simp
        (go_at_call 29; refine (catItem_any _ (RdK.all HI.out KW.out) (RdK.all HJ.out KW.out) (HP1.out.cell 0) (HP1.out.cell 1) (by omega) (by omega)).mono ?_; rintro e wn ⟨A, c, rfl, HC1, hk⟩; replace HC1 := Lib.hid (HC1.out.low (Nat.zero_le _)); replace KW := Kept.go KW hk; replace HL := BlkH.go HL hk; replace HR := BlkH.go HR hk; replace HZ := BlkH.go HZ hk; (try replace HP1 := BlkH.go HP1 hk); (try replace HP2 := BlkH.go HP2 hk); clear hk)
        try go_simp
        refine hK.out _ _ ?_ (fun hHeld => ?_)
        · exact ⟨HR.out.cell 5, HR.out.cell 6⟩
        clear hK K
        try simp only [Act.put, List.getElem_toArray, List.getElem_cons_zero, List.getElem_cons_succ, List.setIfInBounds_toArray, List.set_cons_zero, List.set_cons_succ]
        refine wpAnyH_take (i := 12) (v := ?vz30) rfl (by kernel_rfl) (by kernel_rfl) (by kernel_rfl) (fun _ _ _ h => h) (Or.inl ⟨?wz30, ?yz30⟩) (by assumption) ?rz30
        case yz30 => (intro w hSw; (try dsimp only at hSw); go_simp; try with_reducible rfl)
        case wz30 => rfl
        case' rz30 => simp only [Act.put, List.getElem_toArray, List.getElem_cons_zero, List.getElem_cons_succ, List.setIfInBounds_toArray, List.set_cons_zero, List.set_cons_succ]
        refine wpAnyH_ready (rs := [11]) (by kernel_rfl) (by simp) ?_
        refine AllReadyH.cons rfl (fun K hK => ?_) AllReadyH.nil
        try go_simp
        (go_at_call 30; refine (catKid_any _ (RdK.all HK.out KW.out) (RdK.all HM.out KW.out) (HP2.out.cell 0) (HP2.out.cell 1) (by omega) (by omega)).mono ?_; rintro e wn ⟨A', c', rfl, HC2, hk⟩; replace HC2 := Lib.hid (HC2.out.low (Nat.zero_le _)); replace HC1 := RowH.go HC1 hk; replace KW := Kept.go KW hk; replace HL := BlkH.go HL hk; replace HR := BlkH.go HR hk; replace HZ := BlkH.go HZ hk; (try replace HP1 := BlkH.go HP1 hk); (try replace HP2 := BlkH.go HP2 hk); clear hk)
        try go_simp
        refine hK.out _ _ ?_ (fun hHeld => ?_)
        · exact ⟨HR.out.cell 5, HR.out.cell 6⟩
        clear hK K
        try simp only [Act.put, List.getElem_toArray, List.getElem_cons_zero, List.getElem_cons_succ, List.setIfInBounds_toArray, List.set_cons_zero, List.set_cons_succ]
        refine wpAnyH_ready (rs := [13]) (by kernel_rfl) (by simp) ?_
        refine AllReadyH.cons rfl (fun K hK => ?_) AllReadyH.nil
        (have cc := HL.out.cell 5; have ff := HL.out.frozen 5; go_simp; obtain ⟨wn, hw, HL2, hk⟩ := set1_step HL.out 5 (.slice A (n1 + n2) c); rw [hw]; clear hw cc ff; replace HR := BlkH.far HR hk (by omega); replace HZ := BlkH.far HZ hk (by omega); replace KW := KeptH.far KW hk (Nat.le_refl _); replace HC1 := RowH.far HC1 hk HL (by decide); replace HC2 := RowH.far HC2 hk HL (by decide); replace HL := HL2; clear hk HL2)
        refine hK.out _ _ ?_ (fun hHeld => ?_)
        · exact ⟨HR.out.cell 5, HR.out.cell 6⟩
        clear hK K
        try simp only [Act.put, List.getElem_toArray, List.getElem_cons_zero, List.getElem_cons_succ, List.setIfInBounds_toArray, List.set_cons_zero, List.set_cons_succ]
        refine wpAnyH_take (i := 14) (v := ?vz31) rfl (by kernel_rfl) (by kernel_rfl) (by kernel_rfl) (fun _ _ _ h => h) (Or.inl ⟨?wz31, ?yz31⟩) (by assumption) ?rz31
        case yz31 => (intro w hSw; (try dsimp only at hSw); go_simp; try with_reducible rfl)
        case wz31 => rfl
        case' rz31 => simp only [Act.put, List.getElem_toArray, List.getElem_cons_zero, List.getElem_cons_succ, List.setIfInBounds_toArray, List.set_cons_zero, List.set_cons_succ]
        refine wpAnyH_ready (rs := [15]) (by kernel_rfl) (by simp) ?_
        refine AllReadyH.cons rfl (fun K hK => ?_) AllReadyH.nil
        (have cc := HL.out.cell 6; have ff := HL.out.frozen 6; go_simp; obtain ⟨wn, hw, HL2, hk⟩ := set1_step HL.out 6 (.slice A' (m1 + m2) c'); rw [hw]; clear hw cc ff; replace HR := BlkH.far HR hk (by omega); replace HZ := BlkH.far HZ hk (by omega); replace KW := KeptH.far KW hk (Nat.le_refl _); replace HC1 := RowH.far HC1 hk HL (by decide); replace HC2 := RowH.far HC2 hk HL (by decide); replace HL := HL2; clear hk HL2)
        refine hK.out _ _ ?_ (fun hHeld => ?_)
        · exact ⟨HR.out.cell 5, HR.out.cell 6⟩
        clear hK K
        try simp only [Act.put, List.getElem_toArray, List.getElem_cons_zero, List.getElem_cons_succ, List.setIfInBounds_toArray, List.set_cons_zero, List.set_cons_succ]
        refine wpAnyH_done (by kernel_rfl) ?_ _
        go_wp2_with fail
        go_meet
        case rel => exact ⟨A, c, A', c', HL, HC1, HC2, HZ, KW⟩
      refine AllReadyH.cons rfl (fun K hK => ?_) AllReadyH.nil
      (go_simp; first | (obtain ⟨pb2, wn, hw, hg, HP2, hk⟩ := alloc_any KW #[.slice kA m1 kc, .slice mA m2 mc] 23; rw [hw, hg]; clear hw hg; replace KW := Kept.go KW hk; replace HL := BlkH.go HL hk; replace HR := BlkH.go HR hk; replace HZ := BlkH.go HZ hk; (try replace HP1 := BlkH.go HP1 hk); (try replace HC1 := RowH.go HC1 hk); clear hk) | (obtain ⟨pb2, wn, hw, hg, HP2, hk⟩ := alloc_anyd KW #[.slice kA m1 kc, .slice mA m2 mc] 23; rw [hw, hg]; clear hw hg; replace KW := Kept.go KW hk; replace HL := BlkH.go HL hk; replace HR := BlkH.go HR hk; replace HZ := BlkH.go HZ hk; (try replace HP1 := BlkH.go HP1 hk); (try replace HC1 := RowH.go HC1 hk); clear hk))
      refine hK.out _ _ ?_ (fun hHeld => ?_)
      · exact ⟨HR.out.cell 5, HR.out.cell 6⟩
      clear hK K
      try simp only [Act.put, List.getElem_toArray, List.getElem_cons_zero, List.getElem_cons_succ, List.setIfInBounds_toArray, List.set_cons_zero, List.set_cons_succ]
      refine wpAnyH_ready (rs := [4]) (by kernel_rfl) (by simp) ?_
      refine AllReadyH.cons rfl (fun K hK => ?_) AllReadyH.nil
      (go_simp; first | (obtain ⟨pb1, wn, hw, hg, HP1, hk⟩ := alloc_any KW #[.slice iA n1 ic, .slice jA n2 jc] 22; rw [hw, hg]; clear hw hg; replace KW := Kept.go KW hk; replace HL := BlkH.go HL hk; replace HR := BlkH.go HR hk; replace HZ := BlkH.go HZ hk; (try replace HP2 := BlkH.go HP2 hk); (try replace HC1 := RowH.go HC1 hk); clear hk) | (obtain ⟨pb1, wn, hw, hg, HP1, hk⟩ := alloc_anyd KW #[.slice iA n1 ic, .slice jA n2 jc] 22; rw [hw, hg]; clear hw hg; replace KW := Kept.go KW hk; replace HL := BlkH.go HL hk; replace HR := BlkH.go HR hk; replace HZ := BlkH.go HZ hk; (try replace HP2 := BlkH.go HP2 hk); (try replace HC1 := RowH.go HC1 hk); clear hk))
      refine hK.out _ _ ?_ (fun hHeld => ?_)
      · exact ⟨HR.out.cell 5, HR.out.cell 6⟩
      clear hK K
      try simp only [Act.put, List.getElem_toArray, List.getElem_cons_zero, List.getElem_cons_succ, List.setIfInBounds_toArray, List.set_cons_zero, List.set_cons_succ]
      refine wpAnyH_ready (rs := [5]) (by kernel_rfl) (by simp) ?_
      refine AllReadyH.cons rfl (fun K hK => ?_) AllReadyH.nil
      try go_simp
      (go_at_call 29; refine (catItem_any _ (RdK.all HI.out KW.out) (RdK.all HJ.out KW.out) (HP1.out.cell 0) (HP1.out.cell 1) (by omega) (by omega)).mono ?_; rintro e wn ⟨A, c, rfl, HC1, hk⟩; replace HC1 := Lib.hid (HC1.out.low (Nat.zero_le _)); replace KW := Kept.go KW hk; replace HL := BlkH.go HL hk; replace HR := BlkH.go HR hk; replace HZ := BlkH.go HZ hk; (try replace HP1 := BlkH.go HP1 hk); (try replace HP2 := BlkH.go HP2 hk); clear hk)
      try go_simp
      refine hK.out _ _ ?_ (fun hHeld => ?_)
      · exact ⟨HR.out.cell 5, HR.out.cell 6⟩
      clear hK K
      try simp only [Act.put, List.getElem_toArray, List.getElem_cons_zero, List.getElem_cons_succ, List.setIfInBounds_toArray, List.set_cons_zero, List.set_cons_succ]
      refine wpAnyH_take (i := 12) (v := ?vz32) rfl (by kernel_rfl) (by kernel_rfl) (by kernel_rfl) (fun _ _ _ h => h) (Or.inl ⟨?wz32, ?yz32⟩) (by assumption) ?rz32
      case yz32 => (intro w hSw; (try dsimp only at hSw); go_simp; try with_reducible rfl)
      case wz32 => rfl
      case' rz32 => simp only [Act.put, List.getElem_toArray, List.getElem_cons_zero, List.getElem_cons_succ, List.setIfInBounds_toArray, List.set_cons_zero, List.set_cons_succ]
      refine wpAnyH_ready (rs := [11]) (by kernel_rfl) (by simp) ?_
      refine AllReadyH.cons rfl (fun K hK => ?_) AllReadyH.nil
      try go_simp
      (go_at_call 30; refine (catKid_any _ (RdK.all HK.out KW.out) (RdK.all HM.out KW.out) (HP2.out.cell 0) (HP2.out.cell 1) (by omega) (by omega)).mono ?_; rintro e wn ⟨A', c', rfl, HC2, hk⟩; replace HC2 := Lib.hid (HC2.out.low (Nat.zero_le _)); replace HC1 := RowH.go HC1 hk; replace KW := Kept.go KW hk; replace HL := BlkH.go HL hk; replace HR := BlkH.go HR hk; replace HZ := BlkH.go HZ hk; (try replace HP1 := BlkH.go HP1 hk); (try replace HP2 := BlkH.go HP2 hk); clear hk)
      try go_simp
      refine hK.out _ _ ?_ (fun hHeld => ?_)
      · exact ⟨HR.out.cell 5, HR.out.cell 6⟩
      clear hK K
      try simp only [Act.put, List.getElem_toArray, List.getElem_cons_zero, List.getElem_cons_succ, List.setIfInBounds_toArray, List.set_cons_zero, List.set_cons_succ]
      refine wpAnyH_ready (rs := [13]) (by kernel_rfl) (by simp) ?_
      refine AllReadyH.cons rfl (fun K hK => ?_) AllReadyH.nil
      (have cc := HL.out.cell 5; have ff := HL.out.frozen 5; go_simp; obtain ⟨wn, hw, HL2, hk⟩ := set1_step HL.out 5 (.slice A (n1 + n2) c); rw [hw]; clear hw cc ff; replace HR := BlkH.far HR hk (by omega); replace HZ := BlkH.far HZ hk (by omega); replace KW := KeptH.far KW hk (Nat.le_refl _); replace HC1 := RowH.far HC1 hk HL (by decide); replace HC2 := RowH.far HC2 hk HL (by decide); replace HL := HL2; clear hk HL2)
      refine hK.out _ _ ?_ (fun hHeld => ?_)
      · exact ⟨HR.out.cell 5, HR.out.cell 6⟩
      clear hK K
      try simp only [Act.put, List.getElem_toArray, List.getElem_cons_zero, List.getElem_cons_succ, List.setIfInBounds_toArray, List.set_cons_zero, List.set_cons_succ]
      refine wpAnyH_take (i := 14) (v := ?vz33) rfl (by kernel_rfl) (by kernel_rfl) (by kernel_rfl) (fun _ _ _ h => h) (Or.inl ⟨?wz33, ?yz33⟩) (by assumption) ?rz33
      case yz33 => (intro w hSw; (try dsimp only at hSw); go_simp; try with_reducible rfl)
      case wz33 => rfl
      case' rz33 => simp only [Act.put, List.getElem_toArray, List.getElem_cons_zero, List.getElem_cons_succ, List.setIfInBounds_toArray, List.set_cons_zero, List.set_cons_succ]
      refine wpAnyH_ready (rs := [15]) (by kernel_rfl) (by simp) ?_
      refine AllReadyH.cons rfl (fun K hK => ?_) AllReadyH.nil
      (have cc := HL.out.cell 6; have ff := HL.out.frozen 6; go_simp; obtain ⟨wn, hw, HL2, hk⟩ := set1_step HL.out 6 (.slice A' (m1 + m2) c'); rw [hw]; clear hw cc ff; replace HR := BlkH.far HR hk (by omega); replace HZ := BlkH.far HZ hk (by omega); replace KW := KeptH.far KW hk (Nat.le_refl _); replace HC1 := RowH.far HC1 hk HL (by decide); replace HC2 := RowH.far HC2 hk HL (by decide); replace HL := HL2; clear hk HL2)
      refine hK.out _ _ ?_ (fun hHeld => ?_)
      · exact ⟨HR.out.cell 5, HR.out.cell 6⟩
      clear hK K
      try simp only [Act.put, List.getElem_toArray, List.getElem_cons_zero, List.getElem_cons_succ, List.setIfInBounds_toArray, List.set_cons_zero, List.set_cons_succ]
      refine wpAnyH_done (by kernel_rfl) ?_ _
      go_wp2_with fail
      go_meet
      case rel => exact ⟨A, c, A', c', HL, HC1, HC2, HZ, KW⟩
    refine AllReadyH.cons rfl (fun K hK => ?_) AllReadyH.nil
    (go_simp; first | (obtain ⟨pb2, wn, hw, hg, HP2, hk⟩ := alloc_any KW #[.slice kA m1 kc, .slice mA m2 mc] 23; rw [hw, hg]; clear hw hg; replace KW := Kept.go KW hk; replace HL := BlkH.go HL hk; replace HR := BlkH.go HR hk; replace HZ := BlkH.go HZ hk; (try replace HP1 := BlkH.go HP1 hk); (try replace HC1 := RowH.go HC1 hk); clear hk) | (obtain ⟨pb2, wn, hw, hg, HP2, hk⟩ := alloc_anyd KW #[.slice kA m1 kc, .slice mA m2 mc] 23; rw [hw, hg]; clear hw hg; replace KW := Kept.go KW hk; replace HL := BlkH.go HL hk; replace HR := BlkH.go HR hk; replace HZ := BlkH.go HZ hk; (try replace HP1 := BlkH.go HP1 hk); (try replace HC1 := RowH.go HC1 hk); clear hk))
    refine hK.out _ _ ?_ (fun hHeld => ?_)
    · exact ⟨HR.out.cell 5, HR.out.cell 6⟩
    clear hK K
    try simp only [Act.put, List.getElem_toArray, List.getElem_cons_zero, List.getElem_cons_succ, List.setIfInBounds_toArray, List.set_cons_zero, List.set_cons_succ]
    refine wpAnyH_ready (rs := [1]) (by kernel_rfl) (by simp) ?_
    refine AllReadyH.cons rfl (fun K hK => ?_) AllReadyH.nil
    (have cc := HL.out.cell 5; go_simp; clear cc)
    refine hK.out _ _ ?_ (fun hHeld => ?_)
    · exact ⟨HR.out.cell 5, HR.out.cell 6⟩
    clear hK K
    try simp only [Act.put, List.getElem_toArray, List.getElem_cons_zero, List.getElem_cons_succ, List.setIfInBounds_toArray, List.set_cons_zero, List.set_cons_succ]
    refine wpAnyH_ready (rs := [4]) (by kernel_rfl) (by simp) ?_
    refine AllReadyH.cons rfl (fun K hK => ?_) AllReadyH.nil
    (go_simp; first | (obtain ⟨pb1, wn, hw, hg, HP1, hk⟩ := alloc_any KW #[.slice iA n1 ic, .slice jA n2 jc] 22; rw [hw, hg]; clear hw hg; replace KW := Kept.go KW hk; replace HL := BlkH.go HL hk; replace HR := BlkH.go HR hk; replace HZ := BlkH.go HZ hk; (try replace HP2 := BlkH.go HP2 hk); (try replace HC1 := RowH.go HC1 hk); clear hk) | (obtain ⟨pb1, wn, hw, hg, HP1, hk⟩ := alloc_anyd KW #[.slice iA n1 ic, .slice jA n2 jc] 22; rw [hw, hg]; clear hw hg; replace KW := Kept.go KW hk; replace HL := BlkH.go HL hk; replace HR := BlkH.go HR hk; replace HZ := BlkH.go HZ hk; (try replace HP2 := BlkH.go HP2 hk); (try replace HC1 := RowH.go HC1 hk); clear hk))
    refine hK.out _ _ ?_ (fun hHeld => ?_)
    · exact ⟨HR.out.cell 5, HR.out.cell 6⟩
    clear hK K
    try simp only [Act.put, List.getElem_toArray, List.getElem_cons_zero, List.getElem_cons_succ, List.setIfInBounds_toArray, List.set_cons_zero, List.set_cons_succ]
    refine wpAnyH_ready (rs := [5]) (by kernel_rfl) (by simp) ?_
    refine AllReadyH.cons rfl (fun K hK => ?_) AllReadyH.nil
    try go_simp
    (go_at_call 29; refine (catItem_any _ (RdK.all HI.out KW.out) (RdK.all HJ.out KW.out) (HP1.out.cell 0) (HP1.out.cell 1) (by omega) (by omega)).mono ?_; rintro e wn ⟨A, c, rfl, HC1, hk⟩; replace HC1 := Lib.hid (HC1.out.low (Nat.zero_le _)); replace KW := Kept.go KW hk; replace HL := BlkH.go HL hk; replace HR := BlkH.go HR hk; replace HZ := BlkH.go HZ hk; (try replace HP1 := BlkH.go HP1 hk); (try replace HP2 := BlkH.go HP2 hk); clear hk)
    try go_simp
    refine hK.out _ _ ?_ (fun hHeld => ?_)
    · exact ⟨HR.out.cell 5, HR.out.cell 6⟩
    clear hK K
    try simp only [Act.put, List.getElem_toArray, List.getElem_cons_zero, List.getElem_cons_succ, List.setIfInBounds_toArray, List.set_cons_zero, List.set_cons_succ]
    refine wpAnyH_take (i := 12) (v := ?vz34) rfl (by kernel_rfl) (by kernel_rfl) (by kernel_rfl) (fun _ _ _ h => h) (Or.inl ⟨?wz34, ?yz34⟩) (by assumption) ?rz34
    case yz34 => (intro w hSw; (try dsimp only at hSw); go_simp; try with_reducible rfl)
    case wz34 => rfl
    case' rz34 => simp only [Act.put, List.getElem_toArray, List.getElem_cons_zero, List.getElem_cons_succ, List.setIfInBounds_toArray, List.set_cons_zero, List.set_cons_succ]
    refine wpAnyH_ready (rs := [11]) (by kernel_rfl) (by simp) ?_
    refine AllReadyH.cons rfl (fun K hK => ?_) AllReadyH.nil
    try go_simp
    (go_at_call 30; refine (catKid_any _ (RdK.all HK.out KW.out) (RdK.all HM.out KW.out) (HP2.out.cell 0) (HP2.out.cell 1) (by omega) (by omega)).mono ?_; rintro e wn ⟨A', c', rfl, HC2, hk⟩; replace HC2 := Lib.hid (HC2.out.low (Nat.zero_le _)); replace HC1 := RowH.go HC1 hk; replace KW := Kept.go KW hk; replace HL := BlkH.go HL hk; replace HR := BlkH.go HR hk; replace HZ := BlkH.go HZ hk; (try replace HP1 := BlkH.go HP1 hk); (try replace HP2 := BlkH.go HP2 hk); clear hk)
    try go_simp
    refine hK.out _ _ ?_ (fun hHeld => ?_)
    · exact ⟨HR.out.cell 5, HR.out.cell 6⟩
    clear hK K
    try simp only [Act.put, List.getElem_toArray, List.getElem_cons_zero, List.getElem_cons_succ, List.setIfInBounds_toArray, List.set_cons_zero, List.set_cons_succ]
    refine wpAnyH_ready (rs := [13]) (by kernel_rfl) (by simp) ?_
    refine AllReadyH.cons rfl (fun K hK => ?_) AllReadyH.nil
    (have cc := HL.out.cell 5; have ff := HL.out.frozen 5; go_simp; obtain ⟨wn, hw, HL2, hk⟩ := set1_step HL.out 5 (.slice A (n1 + n2) c); rw [hw]; clear hw cc ff; replace HR := BlkH.far HR hk (by omega); replace HZ := BlkH.far HZ hk (by omega); replace KW := KeptH.far KW hk (Nat.le_refl _); replace HC1 := RowH.far HC1 hk HL (by decide); replace HC2 := RowH.far HC2 hk HL (by decide); replace HL := HL2; clear hk HL2)
    refine hK.out _ _ ?_ (fun hHeld => ?_)
    · exact ⟨HR.out.cell 5, HR.out.cell 6⟩
    clear hK K
    try simp only [Act.put, List.getElem_toArray, List.getElem_cons_zero, List.getElem_cons_succ, List.setIfInBounds_toArray, List.set_cons_zero, List.set_cons_succ]
    refine wpAnyH_take (i := 14) (v := ?vz35) rfl (by kernel_rfl) (by kernel_rfl) (by kernel_rfl) (fun _ _ _ h => h) (Or.inl ⟨?wz35, ?yz35⟩) (by assumption) ?rz35
    case yz35 => (intro w hSw; (try dsimp only at hSw); go_simp; try with_reducible rfl)
    case wz35 => rfl
    case' rz35 => simp only [Act.put, List.getElem_toArray, List.getElem_cons_zero, List.getElem_cons_succ, List.setIfInBounds_toArray, List.set_cons_zero, List.set_cons_succ]
    refine wpAnyH_ready (rs := [15]) (by kernel_rfl) (by simp) ?_
    refine AllReadyH.cons rfl (fun K hK => ?_) AllReadyH.nil
    (have cc := HL.out.cell 6; have ff := HL.out.frozen 6; go_simp; obtain ⟨wn, hw, HL2, hk⟩ := set1_step HL.out 6 (.slice A' (m1 + m2) c'); rw [hw]; clear hw cc ff; replace HR := BlkH.far HR hk (by omega); replace HZ := BlkH.far HZ hk (by omega); replace KW := KeptH.far KW hk (Nat.le_refl _); replace HC1 := RowH.far HC1 hk HL (by decide); replace HC2 := RowH.far HC2 hk HL (by decide); replace HL := HL2; clear hk HL2)
    refine hK.out _ _ ?_ (fun hHeld => ?_)
    · exact ⟨HR.out.cell 5, HR.out.cell 6⟩
    clear hK K
    try simp only [Act.put, List.getElem_toArray, List.getElem_cons_zero, List.getElem_cons_succ, List.setIfInBounds_toArray, List.set_cons_zero, List.set_cons_succ]
    refine wpAnyH_done (by kernel_rfl) ?_ _
    go_wp2_with fail
    go_meet
    case rel => exact ⟨A, c, A', c', HL, HC1, HC2, HZ, KW⟩
  case rest =>
    obtain ⟨A, c, A', c', HL, HC1, HC2, HZ, KW⟩ := hcut
    have b0 := HL.out.cell 0
    have b1 := HL.out.cell 1
    have b2 := HL.out.cell 2
    have b3 := HL.out.cell 3
    have b4 := HL.out.cell 4
    have b5 := HL.out.cell 5
    have b6 := HL.out.cell 6
    have z0 := HZ.out.cell 0
    have y0 := HZ.out.frozen 0
    have z1 := HZ.out.cell 1
    have y1 := HZ.out.frozen 1
    have z2 := HZ.out.cell 2
    have y2 := HZ.out.frozen 2
    have z3 := HZ.out.cell 3
    have y3 := HZ.out.frozen 3
    have z4 := HZ.out.cell 4
    have y4 := HZ.out.frozen 4
    have z5 := HZ.out.cell 5
    have y5 := HZ.out.frozen 5
    have z6 := HZ.out.cell 6
    have y6 := HZ.out.frozen 6
    obtain ⟨wn, hw, hZ2, hk⟩ := set_step HZ.out (.int .i64 lv) (.string lo) (.string hi) (.bool la) (.int .i64 sd) (.slice A (n1 + n2) c) (.slice A' (m1 + m2) c')
    have HW := Lib.hid hw
    clear hw
    go_wp2_with fail
    rw [HW.out]
    have HN1 := RowH.far HC1 hk HZ (by decide)
    have HN2 := RowH.far HC2 hk HZ (by decide)
    have KN := KeptH.far KW hk (by omega)
    clear b0 b1 b2 b3 b4 b5 b6 z0 z1 z2 z3 z4 z5 z6 y0 y1 y2 y3 y4 y5 y6
    have v0 := hZ2.cell 0
    have v1 := hZ2.cell 1
    have v2 := hZ2.cell 2
    have v3 := hZ2.cell 3
    have v4 := hZ2.cell 4
    have v5 := hZ2.cell 5
    have v6 := hZ2.cell 6
    refine bodyPost_ret (v := .tuple #[.agg #[.int .i64 lv, .string lo, .string hi, .bool la, .int .i64 sd, .slice A (n1 + n2) c, .slice A' (m1 + m2) c'], .int .i64 0]) ?_ rfl ⟨A, c, A', c', rfl, Lib.hid (HN1.out.rd encI), Lib.hid (HN2.out.rd encK), KN.out⟩
    have hres : Try.f14.results = #[.cell 4 25, .tmp 5] := rfl
    unfold results
    rw [hres]
    go_simp
    try rfl
end Ytfoolgojcmkdbaa
end Go.Proofs
