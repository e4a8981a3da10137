/-
  bytes, Encode at the example's page.
-/
import Derived.Test.YtfoolgojcmkdbaaEnc
import Derived.Test.YtfoolgojcmkdbaaCheckLaws
set_option maxHeartbeats 4000000
set_option maxRecDepth 100000
namespace Go.Proofs
open Go.RowKit
namespace Ytfoolgojcmkdbaa
attribute [local go_sem ↓] Go.wp_at_zero Go.wp_at_succ
/-- The example's page. -/
def p0 : Page := ⟨0, ⟨#[]⟩, ⟨#[]⟩, true, 0, [], []⟩
theorem number1 (w : World) : Calls Try.prog 50 #[.int .i64 0, .int .i64 1] w fun e w' => ∃ A c, e = .returned (.slice A 1 c) ∧ Hid (ByO w' w.heap.size (.slice A 1 c) [0]) ∧ Kept (fun _ => True) w w' := number_any 1 (by omega) w
theorem number2 (w : World) : Calls Try.prog 50 #[.int .i64 0, .int .i64 2] w fun e w' => ∃ A c, e = .returned (.slice A 2 c) ∧ Hid (ByO w' w.heap.size (.slice A 2 c) [0, 0]) ∧ Kept (fun _ => True) w w' := number_any 2 (by omega) w
theorem Box.go {w w' : World} {b : Nat} {lv sd : Int} {lo hi : ByteArray} {la : Bool} {iv kv : Value} (h : Hid (Box w b lv lo hi la sd iv kv)) (hk : Kept (fun _ => True) w w') : Hid (Box w' b lv lo hi la sd iv kv) := Lib.hid (h.out.kept hk)
theorem Box.low {w w' : World} {b n : Nat} {lv sd : Int} {lo hi : ByteArray} {la : Bool} {iv kv : Value} (h : Hid (Box w b lv lo hi la sd iv kv)) (hk : Kept (fun x => x < n) w w') (hb : b < n) : Hid (Box w' b lv lo hi la sd iv kv) := by
  obtain ⟨h0, h1, h2, h3, h4, h5, h6⟩ := h.out
  have e : ∀ {o : Nat} {v : Value}, w.cell? ⟨b, o, none⟩ = some v → w'.cell? ⟨b, o, none⟩ = some v := fun hc => (hk.cell (p := ⟨b, _, none⟩) (cell_lt' hc) hb).trans hc
  exact Lib.hid ⟨e h0, e h1, e h2, e h3, e h4, e h5, e h6⟩
theorem lay_p0 {w w1 w2 w3 : World} {A1 A2 A3 : Option Addr} {c1 c2 c3 : Nat} {o : Obj} (_ : Hid (Kept (fun _ => True) w (w.alloc o).drew)) (HO1 : Hid (ByO w1 (w.alloc o).drew.heap.size (.slice A1 1 c1) [0])) (HK1 : Hid (Kept (fun _ => True) (w.alloc o).drew w1))
    (HO2 : Hid (ByO w2 w1.heap.size (.slice A2 2 c2) [0, 0])) (HK2 : Hid (Kept (fun _ => True) w1 w2)) (HO3 : Hid (ByO w3 w2.heap.size (.slice A3 1 c3) [0])) (HK3 : Hid (Kept (fun _ => True) w2 w3)) :
    Calls Try.prog 49 #[.slice A1 1 c1, .slice (some ⟨w3.heap.size, 0, none⟩) 5 5] (w3.alloc (.cells #[.iface 4 (.bool true), .iface 9 (.string ⟨#[]⟩), .iface 9 (.string ⟨#[]⟩), .iface 46 (.slice A2 2 c2), .iface 46 (.slice A3 1 c3)] 20))
      fun e w' => ∃ A' c', e = .returned (.slice A' 7 c') ∧ Hid (ByO w' (w.heap.size + 1) (.slice A' 7 c') [0, 1, 0, 0, 0, 0, 0]) ∧ Kept (fun b => b < w.heap.size + 1)
        (w3.alloc (.cells #[.iface 4 (.bool true), .iface 9 (.string ⟨#[]⟩), .iface 9 (.string ⟨#[]⟩), .iface 46 (.slice A2 2 c2), .iface 46 (.slice A3 1 c3)] 20)) w' := by
  have hs0 : (w.alloc o).drew.heap.size = w.heap.size + 1 := by
    show (w.alloc o).heap.size = _
    simp
  rw [hs0] at HO1
  have kA : Kept (fun _ => True) w3 (w3.alloc (.cells #[.iface 4 (.bool true), .iface 9 (.string ⟨#[]⟩), .iface 9 (.string ⟨#[]⟩), .iface 46 (.slice A2 2 c2), .iface 46 (.slice A3 1 c3)] 20)) := (Kept.refl _ w3).alloc _
  have hB := (Blk.new w3 20 #[.iface 4 (.bool true), .iface 9 (.string ⟨#[]⟩), .iface 9 (.string ⟨#[]⟩), .iface 46 (.slice A2 2 c2), .iface 46 (.slice A3 1 c3)])
  have s1 := HK1.out.size
  have s2 := HK2.out.size
  have s3 := HK3.out.size
  have s4 := kA.size
  rw [hs0] at s1
  exact lay_any _ (w.heap.size + 1) (xs := [0]) (HO1.out.all ((HK2.out.trans HK3.out).trans kA)) (by simp) ⟨hB.cell 0, hB.cell 1, hB.cell 2, hB.cell 3, hB.cell 4, (HO2.out.rd encB).all (HK3.out.trans kA), (HO3.out.rd encB).all kA⟩
    (fun g hg => by
      have h1 := (HO1.out.lt hg).1
      refine ⟨by omega, fun e => ?_, fun e => ?_⟩
      · have := (HO2.out.lt e).2
        omega
      · have := (HO3.out.lt e).2
        omega) (by omega)
theorem bytes_p0 (w : World) : Calls Try.prog 31 #[pv p0 (.slice none 0 0) (.slice none 0 0)] w fun e w' => ∃ A c, e = .returned (.slice A 7 c) ∧ Hid (ByO w' w.heap.size (.slice A 7 c) [0, 1, 0, 0, 0, 0, 0]) ∧ Kept (fun _ => True) w w' := by
  have BX := Lib.hid (Box.new (lv := 0) (lo := ⟨#[]⟩) (hi := ⟨#[]⟩) (la := true) (sd := 0) (iv := .slice none 0 0) (kv := .slice none 0 0) w).drew
  have K0 : Hid (Kept (fun _ => True) w ((w.alloc (.cells #[.int .i64 0, .string ⟨#[]⟩, .string ⟨#[]⟩, .bool true, .int .i64 0, .slice none 0 0, .slice none 0 0] 25)).drew)) := Lib.hid ((Kept.refl _ w).alloc _).drew
  unfold pv p0
  go_enter Try.func31, Try.ntmps31
  go_upto_region 1 with fail
  refine wp_region_held_drew (S := (fun W => (W.cell? ⟨w.heap.size, 0, none⟩ = some (.int .i64 0) ∧ W.cell? ⟨w.heap.size, 1, none⟩ = some (.string ⟨#[]⟩) ∧ W.cell? ⟨w.heap.size, 2, none⟩ = some (.string ⟨#[]⟩) ∧ W.cell? ⟨w.heap.size, 3, none⟩ = some (.bool true) ∧ W.cell? ⟨w.heap.size, 4, none⟩ = some (.int .i64 0) ∧ W.cell? ⟨w.heap.size, 5, none⟩ = some (.slice none 0 0) ∧ W.cell? ⟨w.heap.size, 6, none⟩ = some (.slice none 0 0)))) (by kernel_rfl) ?_ (fun hHeld => ?_)
  · (first | exact BX5.out | exact BX4.out | exact BX3.out | exact BX2.out | exact BX1.out | exact BX.out)
  refine wpAnyH_take (i := 0) (v := ?vz1) rfl (by kernel_rfl) (by kernel_rfl) (by kernel_rfl) (fun _ _ _ h => h) (Or.inl ⟨?wz1, ?yz1⟩) (by assumption) ?rz1
  case yz1 => (intro w hSw; (try dsimp only at hSw); go_simp; try with_reducible rfl)
  case wz1 => rfl
  case' rz1 => simp only [Act.put, List.getElem_toArray, List.getElem_cons_zero, List.setIfInBounds_toArray, List.set_cons_zero, List.set_cons_succ]
  refine wpAnyH_take (i := 1) (v := ?vz2) rfl (by kernel_rfl) (by kernel_rfl) (by kernel_rfl) (fun _ _ _ h => h) (Or.inl ⟨?wz2, ?yz2⟩) (by assumption) ?rz2
  case yz2 => (intro w hSw; (try dsimp only at hSw); go_simp; try with_reducible rfl)
  case wz2 => rfl
  case' rz2 => simp only [Act.put, List.getElem_toArray, List.getElem_cons_zero, List.getElem_cons_succ, List.setIfInBounds_toArray, List.set_cons_zero, List.set_cons_succ]
  refine wpAnyH_take (i := 3) (v := ?vz3) rfl (by kernel_rfl) (by kernel_rfl) (by kernel_rfl) (fun _ _ _ h => h) (Or.inl ⟨?wz3, ?yz3⟩) (by assumption) ?rz3
  case yz3 => (intro w hSw; (try dsimp only at hSw); go_simp; try with_reducible rfl)
  case wz3 => rfl
  case' rz3 => simp only [Act.put, List.getElem_toArray, List.getElem_cons_zero, List.getElem_cons_succ, List.setIfInBounds_toArray, List.set_cons_zero, List.set_cons_succ]
  refine wpAnyH_take (i := 4) (v := ?vz4) rfl (by kernel_rfl) (by kernel_rfl) (by kernel_rfl) (fun _ _ _ h => h) (Or.inl ⟨?wz4, ?yz4⟩) (by assumption) ?rz4
  case yz4 => (intro w hSw; (try dsimp only at hSw); go_simp; try with_reducible rfl)
  case wz4 => rfl
  case' rz4 => simp only [Act.put, List.getElem_toArray, List.getElem_cons_zero, List.getElem_cons_succ, List.setIfInBounds_toArray, List.set_cons_zero, List.set_cons_succ]
  refine wpAnyH_take (i := 5) (v := ?vz5) rfl (by kernel_rfl) (by kernel_rfl) (by kernel_rfl) (fun _ _ _ h => h) (Or.inl ⟨?wz5, ?yz5⟩) (by assumption) ?rz5
  case yz5 => (intro w hSw; (try dsimp only at hSw); go_simp; try with_reducible rfl)
  case wz5 => rfl
  case' rz5 => simp only [Act.put, List.getElem_toArray, List.getElem_cons_zero, List.getElem_cons_succ, List.setIfInBounds_toArray, List.set_cons_zero, List.set_cons_succ]
  refine wpAnyH_take (i := 6) (v := ?vz6) rfl (by kernel_rfl) (by kernel_rfl) (by kernel_rfl) (fun _ _ _ h => h) (Or.inl ⟨?wz6, ?yz6⟩) (by assumption) ?rz6
  case yz6 => (intro w hSw; (try dsimp only at hSw); go_simp; try with_reducible rfl)
  case wz6 => rfl
  case' rz6 => simp only [Act.put, List.getElem_toArray, List.getElem_cons_zero, List.getElem_cons_succ, List.setIfInBounds_toArray, List.set_cons_zero, List.set_cons_succ]
  refine wpAnyH_take (i := 7) (v := ?vz7) rfl (by kernel_rfl) (by kernel_rfl) (by kernel_rfl) (fun _ _ _ h => h) (Or.inl ⟨?wz7, ?yz7⟩) (by assumption) ?rz7
  case yz7 => (intro w hSw; (try dsimp only at hSw); go_simp; try with_reducible rfl)
  case wz7 => rfl
  case' rz7 => simp only [Act.put, List.getElem_toArray, List.getElem_cons_zero, List.getElem_cons_succ, List.setIfInBounds_toArray, List.set_cons_zero, List.set_cons_succ]
  refine wpAnyH_take (i := 8) (v := ?vz8) rfl (by kernel_rfl) (by kernel_rfl) (by kernel_rfl) (fun _ _ _ h => h) (Or.inl ⟨?wz8, ?yz8⟩) (by assumption) ?rz8
  case yz8 => (intro w hSw; (try dsimp only at hSw); go_simp; try with_reducible rfl)
  case wz8 => rfl
  case' rz8 => simp only [Act.put, List.getElem_toArray, List.getElem_cons_zero, List.getElem_cons_succ, List.setIfInBounds_toArray, List.set_cons_zero, List.set_cons_succ]
  refine wpAnyH_take (i := 9) (v := ?vz9) rfl (by kernel_rfl) (by kernel_rfl) (by kernel_rfl) (fun _ _ _ h => h) (Or.inl ⟨?wz9, ?yz9⟩) (by assumption) ?rz9
  case yz9 => (intro w hSw; (try dsimp only at hSw); go_simp; try with_reducible rfl)
  case wz9 => rfl
  case' rz9 => simp only [Act.put, List.getElem_toArray, List.getElem_cons_zero, List.getElem_cons_succ, List.setIfInBounds_toArray, List.set_cons_zero, List.set_cons_succ]
  refine wpAnyH_take (i := 10) (v := ?vz10) rfl (by kernel_rfl) (by kernel_rfl) (by kernel_rfl) (fun _ _ _ h => h) (Or.inl ⟨?wz10, ?yz10⟩) (by assumption) ?rz10
  case yz10 => (intro w hSw; (try dsimp only at hSw); go_simp; try with_reducible rfl)
  case wz10 => rfl
  case' rz10 => simp only [Act.put, List.getElem_toArray, List.getElem_cons_zero, List.getElem_cons_succ, List.setIfInBounds_toArray, List.set_cons_zero, List.set_cons_succ]
  refine wpAnyH_take (i := 11) (v := ?vz11) rfl (by kernel_rfl) (by kernel_rfl) (by kernel_rfl) (fun _ _ _ h => h) (Or.inl ⟨?wz11, ?yz11⟩) (by assumption) ?rz11
  case yz11 => (intro w hSw; (try dsimp only at hSw); go_simp; try with_reducible rfl)
  case wz11 => rfl
  case' rz11 => simp only [Act.put, List.getElem_toArray, List.getElem_cons_zero, List.getElem_cons_succ, List.setIfInBounds_toArray, List.set_cons_zero, List.set_cons_succ]
  refine wpAnyH_take (i := 12) (v := ?vz12) rfl (by kernel_rfl) (by kernel_rfl) (by kernel_rfl) (fun _ _ _ h => h) (Or.inl ⟨?wz12, ?yz12⟩) (by assumption) ?rz12
  case yz12 => (intro w hSw; (try dsimp only at hSw); go_simp; try with_reducible rfl)
  case wz12 => rfl
  case' rz12 => simp only [Act.put, List.getElem_toArray, List.getElem_cons_zero, List.getElem_cons_succ, List.setIfInBounds_toArray, List.set_cons_zero, List.set_cons_succ]
  refine wpAnyH_take (i := 13) (v := ?vz13) rfl (by kernel_rfl) (by kernel_rfl) (by kernel_rfl) (fun _ _ _ h => h) (Or.inl ⟨?wz13, ?yz13⟩) (by assumption) ?rz13
  case yz13 => (intro w hSw; (try dsimp only at hSw); go_simp; try with_reducible rfl)
  case wz13 => rfl
  case' rz13 => simp only [Act.put, List.getElem_toArray, List.getElem_cons_zero, List.getElem_cons_succ, List.setIfInBounds_toArray, List.set_cons_zero, List.set_cons_succ]
  refine wpAnyH_take (i := 16) (v := ?vz14) rfl (by kernel_rfl) (by kernel_rfl) (by kernel_rfl) (fun _ _ _ h => h) (Or.inl ⟨?wz14, ?yz14⟩) (by assumption) ?rz14
  case yz14 => (intro w hSw; (try dsimp only at hSw); go_simp; try with_reducible rfl)
  case wz14 => rfl
  case' rz14 => simp only [Act.put, List.getElem_toArray, List.getElem_cons_zero, List.getElem_cons_succ, List.setIfInBounds_toArray, List.set_cons_zero, List.set_cons_succ]
  refine wpAnyH_take (i := 17) (v := ?vz15) rfl (by kernel_rfl) (by kernel_rfl) (by kernel_rfl) (fun _ _ _ h => h) (Or.inl ⟨?wz15, ?yz15⟩) (by assumption) ?rz15
  case yz15 => (intro w hSw; (try dsimp only at hSw); go_simp; try with_reducible rfl)
  case wz15 => rfl
  case' rz15 => simp only [Act.put, List.getElem_toArray, List.getElem_cons_zero, List.getElem_cons_succ, List.setIfInBounds_toArray, List.set_cons_zero, List.set_cons_succ]
  refine wpAnyH_take (i := 18) (v := ?vz16) rfl (by kernel_rfl) (by kernel_rfl) (by kernel_rfl) (fun _ _ _ h => h) (Or.inl ⟨?wz16, ?yz16⟩) (by assumption) ?rz16
  case yz16 => (intro w hSw; (try dsimp only at hSw); go_simp; try with_reducible rfl)
  case wz16 => rfl
  case' rz16 => simp only [Act.put, List.getElem_toArray, List.getElem_cons_zero, List.getElem_cons_succ, List.setIfInBounds_toArray, List.set_cons_zero, List.set_cons_succ]
  refine wpAnyH_take (i := 19) (v := ?vz17) rfl (by kernel_rfl) (by kernel_rfl) (by kernel_rfl) (fun _ _ _ h => h) (Or.inl ⟨?wz17, ?yz17⟩) (by assumption) ?rz17
  case yz17 => (intro w hSw; (try dsimp only at hSw); go_simp; try with_reducible rfl)
  case wz17 => rfl
  case' rz17 => simp only [Act.put, List.getElem_toArray, List.getElem_cons_zero, List.getElem_cons_succ, List.setIfInBounds_toArray, List.set_cons_zero, List.set_cons_succ]
  refine wpAnyH_take (i := 20) (v := ?vz18) rfl (by kernel_rfl) (by kernel_rfl) (by kernel_rfl) (fun _ _ _ h => h) (Or.inl ⟨?wz18, ?yz18⟩) (by assumption) ?rz18
  case yz18 => (intro w hSw; (try dsimp only at hSw); go_simp; try with_reducible rfl)
  case wz18 => rfl
  case' rz18 => simp only [Act.put, List.getElem_toArray, List.getElem_cons_zero, List.getElem_cons_succ, List.setIfInBounds_toArray, List.set_cons_zero, List.set_cons_succ]
  refine wpAnyH_take (i := 21) (v := ?vz19) rfl (by kernel_rfl) (by kernel_rfl) (by kernel_rfl) (fun _ _ _ h => h) (Or.inl ⟨?wz19, ?yz19⟩) (by assumption) ?rz19
  case yz19 => (intro w hSw; (try dsimp only at hSw); go_simp; try with_reducible rfl)
  case wz19 => rfl
  case' rz19 => simp only [Act.put, List.getElem_toArray, List.getElem_cons_zero, List.getElem_cons_succ, List.setIfInBounds_toArray, List.set_cons_zero, List.set_cons_succ]
  refine wpAnyH_take (i := 22) (v := ?vz20) rfl (by kernel_rfl) (by kernel_rfl) (by kernel_rfl) (fun _ _ _ h => h) (Or.inl ⟨?wz20, ?yz20⟩) (by assumption) ?rz20
  case yz20 => (intro w hSw; (try dsimp only at hSw); go_simp; try with_reducible rfl)
  case wz20 => rfl
  case' rz20 => simp only [Act.put, List.getElem_toArray, List.getElem_cons_zero, List.getElem_cons_succ, List.setIfInBounds_toArray, List.set_cons_zero, List.set_cons_succ]
  refine wpAnyH_ready (rs := [2]) (by kernel_rfl) (by simp) ?_
  refine AllReadyH.cons rfl (fun K hK => ?_) AllReadyH.nil
  try go_simp
  (go_at_call 50; refine (number1 _).mono ?_; rintro e w1 ⟨A1, c1, rfl, HO1, hk1⟩; have BX1 := Box.go BX hk1; have K1 := Kept.go K0 hk1; have HK1 := Lib.hid hk1; clear hk1)
  try go_simp
  refine hK.out _ _ ?_ (fun hHeld => ?_)
  · (first | exact BX5.out | exact BX4.out | exact BX3.out | exact BX2.out | exact BX1.out | exact BX.out)
  clear hK K
  try simp only [Act.put, List.getElem_toArray, List.getElem_cons_zero, List.getElem_cons_succ, List.setIfInBounds_toArray, List.set_cons_zero, List.set_cons_succ]
  refine wpAnyH_ready (rs := [14]) (by kernel_rfl) (by simp) ?_
  refine AllReadyH.cons rfl (fun K hK => ?_) AllReadyH.nil
  try go_simp
  (go_at_call 50; refine (number2 _).mono ?_; rintro e w2 ⟨A2, c2, rfl, HO2, hk2⟩; have BX2 := Box.go BX1 hk2; have K2 := Kept.go K1 hk2; have HK2 := Lib.hid hk2; clear hk2)
  try go_simp
  refine hK.out _ _ ?_ (fun hHeld => ?_)
  · (first | exact BX5.out | exact BX4.out | exact BX3.out | exact BX2.out | exact BX1.out | exact BX.out)
  clear hK K
  try simp only [Act.put, List.getElem_toArray, List.getElem_cons_zero, List.getElem_cons_succ, List.setIfInBounds_toArray, List.set_cons_zero, List.set_cons_succ]
  refine wpAnyH_take (i := 15) (v := ?vz21) rfl (by kernel_rfl) (by kernel_rfl) (by kernel_rfl) (fun _ _ _ h => h) (Or.inl ⟨?wz21, ?yz21⟩) (by assumption) ?rz21
  case yz21 => (intro w hSw; (try dsimp only at hSw); go_simp; try with_reducible rfl)
  case wz21 => rfl
  case' rz21 => simp only [Act.put, List.getElem_toArray, List.getElem_cons_zero, List.getElem_cons_succ, List.setIfInBounds_toArray, List.set_cons_zero, List.set_cons_succ]
  refine wpAnyH_ready (rs := [23]) (by kernel_rfl) (by simp) ?_
  refine AllReadyH.cons rfl (fun K hK => ?_) AllReadyH.nil
  try go_simp
  (go_at_call 50; refine (number1 _).mono ?_; rintro e w3 ⟨A3, c3, rfl, HO3, hk3⟩; have BX3 := Box.go BX2 hk3; have K3 := Kept.go K2 hk3; have HK3 := Lib.hid hk3; clear hk3; have hk4 := (Kept.refl (fun _ => True) w3).alloc (.cells #[.iface 4 (.bool true), .iface 9 (.string ⟨#[]⟩), .iface 9 (.string ⟨#[]⟩), .iface 46 (.slice A2 2 c2), .iface 46 (.slice A3 1 c3)] 20); have BX4 := Box.go BX3 hk4; have LY := lay_p0 K0 HO1 HK1 HO2 HK2 HO3 HK3; clear hk4)
  try go_simp
  refine hK.out _ _ ?_ (fun hHeld => ?_)
  · (first | exact BX5.out | exact BX4.out | exact BX3.out | exact BX2.out | exact BX1.out | exact BX.out)
  clear hK K
  try simp only [Act.put, List.getElem_toArray, List.getElem_cons_zero, List.getElem_cons_succ, List.setIfInBounds_toArray, List.set_cons_zero, List.set_cons_succ]
  refine wpAnyH_take (i := 24) (v := ?vz22) rfl (by kernel_rfl) (by kernel_rfl) (by kernel_rfl) (fun _ _ _ h => h) (Or.inl ⟨?wz22, ?yz22⟩) (by assumption) ?rz22
  case yz22 => (intro w hSw; (try dsimp only at hSw); go_simp; try with_reducible rfl)
  case wz22 => rfl
  case' rz22 => simp only [Act.put, List.getElem_toArray, List.getElem_cons_zero, List.getElem_cons_succ, List.setIfInBounds_toArray, List.set_cons_zero, List.set_cons_succ]
  refine wpAnyH_ready (rs := [25]) (by kernel_rfl) (by simp) ?_
  refine AllReadyH.cons rfl (fun K hK => ?_) AllReadyH.nil
  go_simp
  refine hK.out _ _ ?_ (fun hHeld => ?_)
  · (first | exact BX5.out | exact BX4.out | exact BX3.out | exact BX2.out | exact BX1.out | exact BX.out)
  clear hK K
  try simp only [Act.put, List.getElem_toArray, List.getElem_cons_zero, List.getElem_cons_succ, List.setIfInBounds_toArray, List.set_cons_zero, List.set_cons_succ]
  refine wpAnyH_ready (rs := [26]) (by kernel_rfl) (by simp) ?_
  refine AllReadyH.cons rfl (fun K hK => ?_) AllReadyH.nil
  try go_simp
  (go_at_call 49; refine LY.mono ?_; rintro e w5 ⟨A5, c5, rfl, HO5, hk5⟩; have BX5 := Box.low BX4 hk5 (Nat.lt_succ_self _); have K5 := Lib.hid (((K3.out.alloc (.cells #[.iface 4 (.bool true), .iface 9 (.string ⟨#[]⟩), .iface 9 (.string ⟨#[]⟩), .iface 46 (.slice A2 2 c2), .iface 46 (.slice A3 1 c3)] 20))).trans' hk5 (fun b hb _ => Nat.lt_succ_of_lt hb)); clear hk5 LY)
  try go_simp
  refine hK.out _ _ ?_ (fun hHeld => ?_)
  · (first | exact BX5.out | exact BX4.out | exact BX3.out | exact BX2.out | exact BX1.out | exact BX.out)
  clear hK K
  try simp only [Act.put, List.getElem_toArray, List.getElem_cons_zero, List.getElem_cons_succ, List.setIfInBounds_toArray, List.set_cons_zero, List.set_cons_succ]
  refine wpAnyH_take (i := 27) (v := ?vz23) rfl (by kernel_rfl) (by kernel_rfl) (by kernel_rfl) (fun _ _ _ h => h) (Or.inl ⟨?wz23, ?yz23⟩) (by assumption) ?rz23
  case yz23 => (intro w hSw; (try dsimp only at hSw); go_simp; try with_reducible rfl)
  case wz23 => rfl
  case' rz23 => simp only [Act.put, List.getElem_toArray, List.getElem_cons_zero, List.getElem_cons_succ, List.setIfInBounds_toArray, List.set_cons_zero, List.set_cons_succ]
  refine wpAnyH_done (by kernel_rfl) ?_ _
  clear K0 K1 K2 K3 HO1 HO2 HO3 HK1 HK2 HK3 BX BX1 BX2 BX3 BX4
  obtain ⟨b0, b1, b2, b3, b4, b5, b6⟩ := BX5.out
  go_wp2_with fail
  go_loopw [3, 38] (fun s3 s38 wr => s3 = .slice A5 7 c5 ∧ s38 = .int .i64 0 ∧ w5 = wr) (fun _ _ _ => 0)
  case atStart => exact ⟨rfl, rfl, rfl⟩
  case round =>
    obtain ⟨rfl, rfl, rfl⟩ := hrel
    go_wp2_with fail
    go_loopw [3, 62] (fun s3 s62 wx => s3 = .slice A5 7 c5 ∧ s62 = .int .i64 0 ∧ w5 = wx) (fun _ _ _ => 0)
    case atStart => exact ⟨rfl, rfl, rfl⟩
    case round =>
      obtain ⟨rfl, rfl, rfl⟩ := hrel
      go_wp2_with fail
      go_ret
      exact ⟨A5, c5, rfl, Lib.hid (HO5.out.low (by omega)), K5.out⟩
theorem check_p0 : check p0 = true := by decide +kernel
theorem encode_p0 (w : World) : Calls Try.prog 15 #[pv p0 (.slice none 0 0) (.slice none 0 0)] w fun e w' => ∃ A c, e = .returned (.tuple #[.slice A 7 c, .int .i64 0]) ∧ Hid (ByR w' (.slice A 7 c) [0, 1, 0, 0, 0, 0, 0]) ∧ Kept (fun _ => True) w w' := by
  have hck : ∀ W, Calls Try.prog 7 #[pv p0 (.slice none 0 0) (.slice none 0 0)] W fun e w' => e = .returned (.int .i64 0) ∧ Kept (fun _ => True) W w' := fun W => by
    have := check_any p0 (iA := none) (kA := none) (ic := 0) (kc := 0) W (RdK.nil W) (RdK.nil W) (by simp [p0]) (by simp [p0])
    rw [check_p0] at this
    exact this
  have hby := bytes_p0
  unfold pv p0 at hck hby ⊢
  simp only at hck hby ⊢
  go_enter Try.func15, Try.ntmps15
  go_wp2_with (first | (go_at_call 7; refine (hck _).mono ?_; rintro e w1 ⟨rfl, hk1⟩; obtain ⟨b0, b1, b2, b3, b4, b5, b6⟩ := Box.kept (Box.new w) hk1) | (go_at_call 31; refine (hby _).mono ?_; rintro e w2 ⟨A, c, rfl, HO, hk2⟩))
  go_ret2
  exact ⟨A, c, rfl, Lib.hid (HO.out.rd encB), (((Kept.refl _ w).alloc _).trans hk1).trans hk2⟩
end Ytfoolgojcmkdbaa
end Go.Proofs
