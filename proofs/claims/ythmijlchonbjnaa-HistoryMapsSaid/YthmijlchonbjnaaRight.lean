/-
  right, Check.
-/
import Derived.Test.YthmijlchonbjnaaJudge
set_option maxHeartbeats 4000000
set_option maxRecDepth 100000
namespace Go.Proofs
open Go.RowKit
namespace Ythmijlchonbjnaa
attribute [local go_sem ↓] Go.wp_at_zero Go.wp_at_succ
/-- A call that has ended with OK, and of whose effect there is nothing to say. -/
structure Fine (l : List PC) (i : Nat) (x : PC) (e : Nat) (a : Ans) (tt : Int) : Prop where
  fin : x.fin = some (e, a, tt)
  err : a.err = 0
  kind : x.c.kind = 1 ∨ x.c.kind = 2 ∨ x.c.kind = 3
  eff : 0 < x.eff → x.from_ < x.eff ∧ x.eff ≤ tt ∧ onceF l i x.eff = true
/-- Whether such a call is right. -/
def judge (l : List PC) (x : PC) (a : Ans) (tt : Int) : Bool := if x.c.kind = 1 then gotF (updF l) x a tt else a.no == x.eff
theorem right_any {w : World} {base g c rb : Nat} {A : Option Addr} {l : List PC} {now : Int} (h : HRep w base g A c rb l now) {i : Nat} {x : PC} (hi : l[i]? = some x) {e : Nat} {a : Ans} {tt : Int} (hf : Fine l i x e a tt) (hn : l.length ≤ 1000) :
    Calls Try.prog 23 #[.pointer (some ⟨g, 0, none⟩), .int .i64 i] w fun r w' => r = .returned (.bool (judge l x a tt)) ∧ Kept (fun _ => True) w w' := by
  have hp : ptr x.fin = some ⟨e, 0, none⟩ := by rw [hf.fin]; rfl
  have hE := h.ends x (List.mem_of_getElem? hi) e a tt hf.fin
  obtain ⟨q, cs, rfl, _, hq, _, hlc, hcell⟩ := h.row.at_ encP hi
  have hil := (List.getElem?_eq_some_iff.1 hi).1
  have hG : ∀ W, Kept (fun _ => True) w W → x.c.kind = 1 → Calls Try.prog 16 #[.pointer (some ⟨g, 0, none⟩), .agg (pcs x).toArray, .int .i64 tt] W fun r w' => r = .returned (.bool (judge l x a tt)) ∧ Kept (fun _ => True) W w' := fun W hW hk => by
    unfold judge
    rw [if_pos hk]
    exact got_any (h.all hW) hn x tt tt a e hf.fin (hE.kept hW trivial)
  have hS : ∀ W, Kept (fun _ => True) w W → x.c.kind ≠ 1 → Calls Try.prog 17 #[.pointer (some ⟨g, 0, none⟩), .agg (pcs x).toArray, .int .i64 tt] W fun r w' => r = .returned (.bool (judge l x a tt)) ∧ Kept (fun _ => True) W w' := fun W hW hk => by
    unfold judge
    rw [if_neg hk]
    exact set_any _ x tt tt a e hf.fin (hE.kept hW trivial)
  have hO : 0 < x.eff → ∀ W, Kept (fun _ => True) w W → Calls Try.prog 33 #[.pointer (some ⟨g, 0, none⟩), .int .i64 i] W fun r w' => r = .returned (.bool true) ∧ Kept (fun _ => True) W w' := fun h0 W hW => by
    have := once_any (h.all hW) hi hn
    rwa [(hf.eff h0).2.2] at this
  have hR : ∀ W b, Kept (fun _ => True) w W → W.cell? ⟨b, 1, none⟩ = some (.int .i64 x.c.kind) → Calls Try.prog 34 #[.slice (some ⟨rb, 0, none⟩) 5 5, .func (.func 35) #[] #[.pointer (some ⟨b, 0, none⟩)]] W fun r w' => r = .returned (.int .i64 (x.c.kind - 1)) ∧ Kept (fun _ => True) W w' := fun W b hW hb =>
    ruleAt_any x.c.kind hf.kind b hb (h.rules.kept hW trivial)
  have kind := hf.kind
  have eff := hf.eff
  have err := hf.err
  have HB := Lib.hid h.blk
  have HRB := Lib.hid h.rules
  have r0 : w.cell? ⟨q, i * 9, none⟩ = _ := hcell 0 _ rfl
  have r1 := hcell 1 _ rfl
  have r2 := hcell 2 _ rfl
  have r3 := hcell 3 _ rfl
  have r4 := hcell 4 _ rfl
  have r5 := hcell 5 _ rfl
  have r6 := hcell 6 _ rfl
  have r7 := hcell 7 _ rfl
  have r8 := hcell 8 _ rfl
  rw [hp] at r8
  clear h hf hcell hi
  generalize judge l x a tt = res at hG hS ⊢
  unfold pcs at hG hS
  rw [hp] at hG hS
  clear hp
  obtain ⟨⟨xc, xk, xy, xv, xf, xm⟩, fr, ef, fi⟩ := x
  obtain ⟨ae, ai, av, an⟩ := a
  simp only at r0 r1 r2 r3 r4 r5 r6 r7 hG hS hO hR kind eff err
  unfold ecs at hE
  simp only at hE
  subst err
  have HE := Lib.hid hE
  clear hE
  obtain ⟨n, hln⟩ : ∃ n, l.length = n := ⟨_, rfl⟩
  rw [hln] at HB hn hil
  clear hln
  have hin : (i : Int) < (n : Int) := by omega
  have c1 := HB.out.cell 1
  have hx := Blk.new w 52 #[.int .i64 xc, .int .i64 xk, .string xy, .string xv, .string xf, .int .i64 xm, .int .i64 fr, .int .i64 ef, .pointer (some ⟨e, 0, none⟩)]
  have hk := (Kept.refl (fun _ => True) w).alloc (.cells #[.int .i64 xc, .int .i64 xk, .string xy, .string xv, .string xf, .int .i64 xm, .int .i64 fr, .int .i64 ef, .pointer (some ⟨e, 0, none⟩)] 52)
  have BX := Lib.hid hx
  have KW := Lib.hid hk
  clear hx hk
  go_enter Try.func23, Try.ntmps23
  go_upto_region 2 with fail
  clear c1 r0 r1 r2 r3 r4 r5 r6 r7 r8
  generalize w.alloc (.cells #[.int .i64 xc, .int .i64 xk, .string xy, .string xv, .string xf, .int .i64 xm, .int .i64 fr, .int .i64 ef, .pointer (some ⟨e, 0, none⟩)] 52) = w1 at KW BX ⊢
  have c2 := (BlkH.go HB KW.out).out.cell 2
  have x8 := BX.out.cell 8
  have e5 := (BlkH.go HE KW.out).out.cell 5
  go_upto_region 5 with fail
  clear c2 x8 e5
  go_cut [48] (fun s48 wx => s48 = .bool false ∧ Hid (Kept (fun _ => True) w wx) ∧ Hid (Blk wx w.heap.size 52 #[.int .i64 xc, .int .i64 xk, .string xy, .string xv, .string xf, .int .i64 xm, .int .i64 fr, .int .i64 ef, .pointer (some ⟨e, 0, none⟩)]))
  case first =>
    have x6 := BX.out.cell 6
    have x7 := BX.out.cell 7
    by_cases h0 : 0 < ef
    · have h0' : decide (0 < ef) = true := by simpa using h0
      obtain ⟨h1, h2, _⟩ := eff h0
      have h1' : decide (ef ≤ fr) = false := by simp; omega
      have h2' : decide (tt < ef) = false := by simp; omega
      go_wp2_with fail
      refine (hO h0 _ KW.out).mono ?_
      rintro e w2 ⟨rfl, hk⟩
      replace KW := KeptH.go KW hk
      replace BX := BlkH.go BX hk
      clear hk x6 x7
      go_wp2_with fail
      go_meet
      case rel => exact ⟨rfl, KW, BX⟩
    · have h0' : decide (0 < ef) = false := by simpa using h0
      go_wp2_with fail
      go_meet
      case rel => exact ⟨rfl, KW, BX⟩
  case rest =>
    clear KW BX
    obtain ⟨rfl, KW, BX⟩ := hcut
    have x8 := BX.out.cell 8
    have e0 := (BlkH.go HE KW.out).out.cell 0
    have c3 := (BlkH.go HB KW.out).out.cell 3
    go_wp2_with fail
    refine (hR _ _ KW.out (BX.out.cell 1)).mono ?_
    rintro e w2 ⟨rfl, hk⟩
    replace KW := KeptH.go KW hk
    replace BX := BlkH.go BX hk
    clear hk x8 e0 c3
    go_upto_region 12 with fail
    have hk := (Kept.refl (fun _ => True) w2).drew
    replace KW := KeptH.go KW hk
    replace BX := BlkH.go BX hk
    clear hk
    have c3 := (BlkH.go HB KW.out).out.cell 3
    have HC := Lib.hid c3
    have HRB2 := BlkH.go HRB KW.out
    clear c3
    rcases kind with rfl | rfl | rfl
    · skip
      refine wp_region_held_drew (S := (fun W => W.cell? ⟨g, 3, none⟩ = some (.slice (some ⟨rb, 0, none⟩) 5 5) ∧ W.cell? ⟨rb, 1, none⟩ = some (.func (.func 16) #[] #[]) ∧ (W.cell? ⟨w.heap.size, 0, none⟩ = some (.int .i64 xc) ∧ W.cell? ⟨w.heap.size, 1, none⟩ = some (.int .i64 1) ∧ W.cell? ⟨w.heap.size, 2, none⟩ = some (.string xy) ∧ W.cell? ⟨w.heap.size, 3, none⟩ = some (.string xv) ∧ W.cell? ⟨w.heap.size, 4, none⟩ = some (.string xf) ∧ W.cell? ⟨w.heap.size, 5, none⟩ = some (.int .i64 xm) ∧ W.cell? ⟨w.heap.size, 6, none⟩ = some (.int .i64 fr) ∧ W.cell? ⟨w.heap.size, 7, none⟩ = some (.int .i64 ef) ∧ W.cell? ⟨w.heap.size, 8, none⟩ = some (.pointer (some ⟨e, 0, none⟩))))) (by kernel_rfl) ?_ (fun hHeld => ?_)
      · exact ⟨HC.out, HRB2.out.cell 1, BX.out.cell 0, BX.out.cell 1, BX.out.cell 2, BX.out.cell 3, BX.out.cell 4, BX.out.cell 5, BX.out.cell 6, BX.out.cell 7, BX.out.cell 8⟩
      refine wpAnyH_take (i := 0) (v := ?vz1) rfl (by kernel_rfl) (by kernel_rfl) (by kernel_rfl) (fun _ _ _ h => h) (Or.inl ⟨?wz1, ?yz1⟩) (by assumption) ?rz1
      case yz1 => (intro w hSw; (try dsimp only at hSw); go_simp; try with_reducible rfl)
      case wz1 => rfl
      case' rz1 => simp only [Act.put, List.getElem_toArray, List.getElem_cons_zero, List.setIfInBounds_toArray, List.set_cons_zero, List.set_cons_succ]
      refine wpAnyH_take (i := 1) (v := ?vz2) rfl (by kernel_rfl) (by kernel_rfl) (by kernel_rfl) (fun _ _ _ h => h) (Or.inl ⟨?wz2, ?yz2⟩) (by assumption) ?rz2
      case yz2 => (intro w hSw; (try dsimp only at hSw); go_simp; try with_reducible rfl)
      case wz2 => rfl
      case' rz2 => simp only [Act.put, List.getElem_toArray, List.getElem_cons_zero, List.getElem_cons_succ, List.setIfInBounds_toArray, List.set_cons_zero, List.set_cons_succ]
      refine wpAnyH_take (i := 2) (v := ?vz3) rfl (by kernel_rfl) (by kernel_rfl) (by kernel_rfl) (fun _ _ _ h => h) (Or.inl ⟨?wz3, ?yz3⟩) (by assumption) ?rz3
      case yz3 => (intro w hSw; (try dsimp only at hSw); go_simp; try with_reducible rfl)
      case wz3 => rfl
      case' rz3 => simp only [Act.put, List.getElem_toArray, List.getElem_cons_zero, List.getElem_cons_succ, List.setIfInBounds_toArray, List.set_cons_zero, List.set_cons_succ]
      refine wpAnyH_take (i := 3) (v := ?vz4) rfl (by kernel_rfl) (by kernel_rfl) (by kernel_rfl) (fun _ _ _ h => h) (Or.inl ⟨?wz4, ?yz4⟩) (by assumption) ?rz4
      case yz4 => (intro w hSw; (try dsimp only at hSw); go_simp; try with_reducible rfl)
      case wz4 => rfl
      case' rz4 => simp only [Act.put, List.getElem_toArray, List.getElem_cons_zero, List.getElem_cons_succ, List.setIfInBounds_toArray, List.set_cons_zero, List.set_cons_succ]
      refine wpAnyH_take (i := 4) (v := ?vz5) rfl (by kernel_rfl) (by kernel_rfl) (by kernel_rfl) (fun _ _ _ h => h) (Or.inl ⟨?wz5, ?yz5⟩) (by assumption) ?rz5
      case yz5 => (intro w hSw; (try dsimp only at hSw); go_simp; try with_reducible rfl)
      case wz5 => rfl
      case' rz5 => simp only [Act.put, List.getElem_toArray, List.getElem_cons_zero, List.getElem_cons_succ, List.setIfInBounds_toArray, List.set_cons_zero, List.set_cons_succ]
      refine wpAnyH_take (i := 5) (v := ?vz6) rfl (by kernel_rfl) (by kernel_rfl) (by kernel_rfl) (fun _ _ _ h => h) (Or.inl ⟨?wz6, ?yz6⟩) (by assumption) ?rz6
      case yz6 => (intro w hSw; (try dsimp only at hSw); go_simp; try with_reducible rfl)
      case wz6 => rfl
      case' rz6 => simp only [Act.put, List.getElem_toArray, List.getElem_cons_zero, List.getElem_cons_succ, List.setIfInBounds_toArray, List.set_cons_zero, List.set_cons_succ]
      refine wpAnyH_take (i := 6) (v := ?vz7) rfl (by kernel_rfl) (by kernel_rfl) (by kernel_rfl) (fun _ _ _ h => h) (Or.inl ⟨?wz7, ?yz7⟩) (by assumption) ?rz7
      case yz7 => (intro w hSw; (try dsimp only at hSw); go_simp; try with_reducible rfl)
      case wz7 => rfl
      case' rz7 => simp only [Act.put, List.getElem_toArray, List.getElem_cons_zero, List.getElem_cons_succ, List.setIfInBounds_toArray, List.set_cons_zero, List.set_cons_succ]
      refine wpAnyH_take (i := 7) (v := ?vz8) rfl (by kernel_rfl) (by kernel_rfl) (by kernel_rfl) (fun _ _ _ h => h) (Or.inl ⟨?wz8, ?yz8⟩) (by assumption) ?rz8
      case yz8 => (intro w hSw; (try dsimp only at hSw); go_simp; try with_reducible rfl)
      case wz8 => rfl
      case' rz8 => simp only [Act.put, List.getElem_toArray, List.getElem_cons_zero, List.getElem_cons_succ, List.setIfInBounds_toArray, List.set_cons_zero, List.set_cons_succ]
      refine wpAnyH_take (i := 8) (v := ?vz9) rfl (by kernel_rfl) (by kernel_rfl) (by kernel_rfl) (fun _ _ _ h => h) (Or.inl ⟨?wz9, ?yz9⟩) (by assumption) ?rz9
      case yz9 => (intro w hSw; (try dsimp only at hSw); go_simp; try with_reducible rfl)
      case wz9 => rfl
      case' rz9 => simp only [Act.put, List.getElem_toArray, List.getElem_cons_zero, List.getElem_cons_succ, List.setIfInBounds_toArray, List.set_cons_zero, List.set_cons_succ]
      refine wpAnyH_take (i := 9) (v := ?vz10) rfl (by kernel_rfl) (by kernel_rfl) (by kernel_rfl) (fun _ _ _ h => h) (Or.inl ⟨?wz10, ?yz10⟩) (by assumption) ?rz10
      case yz10 => (intro w hSw; (try dsimp only at hSw); go_simp; try with_reducible rfl)
      case wz10 => rfl
      case' rz10 => simp only [Act.put, List.getElem_toArray, List.getElem_cons_zero, List.getElem_cons_succ, List.setIfInBounds_toArray, List.set_cons_zero, List.set_cons_succ]
      refine wpAnyH_take (i := 10) (v := ?vz11) rfl (by kernel_rfl) (by kernel_rfl) (by kernel_rfl) (fun _ _ _ h => h) (Or.inl ⟨?wz11, ?yz11⟩) (by assumption) ?rz11
      case yz11 => (intro w hSw; (try dsimp only at hSw); go_simp; try with_reducible rfl)
      case wz11 => rfl
      case' rz11 => simp only [Act.put, List.getElem_toArray, List.getElem_cons_zero, List.getElem_cons_succ, List.setIfInBounds_toArray, List.set_cons_zero, List.set_cons_succ]
      refine wpAnyH_ready (rs := [11]) (by kernel_rfl) (by simp) ?_
      refine AllReadyH.cons rfl (fun K hK => ?_) AllReadyH.nil
      try go_simp
      (go_at_call 16; refine (hG _ KW.out rfl).mono ?_; rintro e w3 ⟨rfl, hk⟩; replace KW := KeptH.go KW hk; replace BX := BlkH.go BX hk; replace HRB2 := BlkH.go HRB2 hk; replace HC := Lib.hid (hk.cellv HC.out); clear hk)
      try go_simp
      refine hK.out _ _ ?_ (fun hHeld => ?_)
      · exact ⟨HC.out, HRB2.out.cell 1, BX.out.cell 0, BX.out.cell 1, BX.out.cell 2, BX.out.cell 3, BX.out.cell 4, BX.out.cell 5, BX.out.cell 6, BX.out.cell 7, BX.out.cell 8⟩
      clear hK K
      try simp only [Act.put, List.getElem_toArray, List.getElem_cons_zero, List.getElem_cons_succ, List.setIfInBounds_toArray, List.set_cons_zero, List.set_cons_succ]
      refine wpAnyH_take (i := 12) (v := ?vz12) rfl (by kernel_rfl) (by kernel_rfl) (by kernel_rfl) (fun _ _ _ h => h) (Or.inl ⟨?wz12, ?yz12⟩) (by assumption) ?rz12
      case yz12 => (intro w hSw; (try dsimp only at hSw); go_simp; try with_reducible rfl)
      case wz12 => rfl
      case' rz12 => simp only [Act.put, List.getElem_toArray, List.getElem_cons_zero, List.getElem_cons_succ, List.setIfInBounds_toArray, List.set_cons_zero, List.set_cons_succ]
      refine wpAnyH_done (by kernel_rfl) ?_ _
      go_wp2_with fail
      go_ret
      exact ⟨rfl, KW.out⟩
    · skip
      refine wp_region_held_drew (S := (fun W => W.cell? ⟨g, 3, none⟩ = some (.slice (some ⟨rb, 0, none⟩) 5 5) ∧ W.cell? ⟨rb, 3, none⟩ = some (.func (.func 17) #[] #[]) ∧ (W.cell? ⟨w.heap.size, 0, none⟩ = some (.int .i64 xc) ∧ W.cell? ⟨w.heap.size, 1, none⟩ = some (.int .i64 2) ∧ W.cell? ⟨w.heap.size, 2, none⟩ = some (.string xy) ∧ W.cell? ⟨w.heap.size, 3, none⟩ = some (.string xv) ∧ W.cell? ⟨w.heap.size, 4, none⟩ = some (.string xf) ∧ W.cell? ⟨w.heap.size, 5, none⟩ = some (.int .i64 xm) ∧ W.cell? ⟨w.heap.size, 6, none⟩ = some (.int .i64 fr) ∧ W.cell? ⟨w.heap.size, 7, none⟩ = some (.int .i64 ef) ∧ W.cell? ⟨w.heap.size, 8, none⟩ = some (.pointer (some ⟨e, 0, none⟩))))) (by kernel_rfl) ?_ (fun hHeld => ?_)
      · exact ⟨HC.out, HRB2.out.cell 3, BX.out.cell 0, BX.out.cell 1, BX.out.cell 2, BX.out.cell 3, BX.out.cell 4, BX.out.cell 5, BX.out.cell 6, BX.out.cell 7, BX.out.cell 8⟩
      refine wpAnyH_take (i := 0) (v := ?vz13) rfl (by kernel_rfl) (by kernel_rfl) (by kernel_rfl) (fun _ _ _ h => h) (Or.inl ⟨?wz13, ?yz13⟩) (by assumption) ?rz13
      case yz13 => (intro w hSw; (try dsimp only at hSw); go_simp; try with_reducible rfl)
      case wz13 => rfl
      case' rz13 => simp only [Act.put, List.getElem_toArray, List.getElem_cons_zero, List.setIfInBounds_toArray, List.set_cons_zero, List.set_cons_succ]
      refine wpAnyH_take (i := 1) (v := ?vz14) rfl (by kernel_rfl) (by kernel_rfl) (by kernel_rfl) (fun _ _ _ h => h) (Or.inl ⟨?wz14, ?yz14⟩) (by assumption) ?rz14
      case yz14 => (intro w hSw; (try dsimp only at hSw); go_simp; try with_reducible rfl)
      case wz14 => rfl
      case' rz14 => simp only [Act.put, List.getElem_toArray, List.getElem_cons_zero, List.getElem_cons_succ, List.setIfInBounds_toArray, List.set_cons_zero, List.set_cons_succ]
      refine wpAnyH_take (i := 2) (v := ?vz15) rfl (by kernel_rfl) (by kernel_rfl) (by kernel_rfl) (fun _ _ _ h => h) (Or.inl ⟨?wz15, ?yz15⟩) (by assumption) ?rz15
      case yz15 => (intro w hSw; (try dsimp only at hSw); go_simp; try with_reducible rfl)
      case wz15 => rfl
      case' rz15 => simp only [Act.put, List.getElem_toArray, List.getElem_cons_zero, List.getElem_cons_succ, List.setIfInBounds_toArray, List.set_cons_zero, List.set_cons_succ]
      refine wpAnyH_take (i := 3) (v := ?vz16) rfl (by kernel_rfl) (by kernel_rfl) (by kernel_rfl) (fun _ _ _ h => h) (Or.inl ⟨?wz16, ?yz16⟩) (by assumption) ?rz16
      case yz16 => (intro w hSw; (try dsimp only at hSw); go_simp; try with_reducible rfl)
      case wz16 => rfl
      case' rz16 => simp only [Act.put, List.getElem_toArray, List.getElem_cons_zero, List.getElem_cons_succ, List.setIfInBounds_toArray, List.set_cons_zero, List.set_cons_succ]
      refine wpAnyH_take (i := 4) (v := ?vz17) rfl (by kernel_rfl) (by kernel_rfl) (by kernel_rfl) (fun _ _ _ h => h) (Or.inl ⟨?wz17, ?yz17⟩) (by assumption) ?rz17
      case yz17 => (intro w hSw; (try dsimp only at hSw); go_simp; try with_reducible rfl)
      case wz17 => rfl
      case' rz17 => simp only [Act.put, List.getElem_toArray, List.getElem_cons_zero, List.getElem_cons_succ, List.setIfInBounds_toArray, List.set_cons_zero, List.set_cons_succ]
      refine wpAnyH_take (i := 5) (v := ?vz18) rfl (by kernel_rfl) (by kernel_rfl) (by kernel_rfl) (fun _ _ _ h => h) (Or.inl ⟨?wz18, ?yz18⟩) (by assumption) ?rz18
      case yz18 => (intro w hSw; (try dsimp only at hSw); go_simp; try with_reducible rfl)
      case wz18 => rfl
      case' rz18 => simp only [Act.put, List.getElem_toArray, List.getElem_cons_zero, List.getElem_cons_succ, List.setIfInBounds_toArray, List.set_cons_zero, List.set_cons_succ]
      refine wpAnyH_take (i := 6) (v := ?vz19) rfl (by kernel_rfl) (by kernel_rfl) (by kernel_rfl) (fun _ _ _ h => h) (Or.inl ⟨?wz19, ?yz19⟩) (by assumption) ?rz19
      case yz19 => (intro w hSw; (try dsimp only at hSw); go_simp; try with_reducible rfl)
      case wz19 => rfl
      case' rz19 => simp only [Act.put, List.getElem_toArray, List.getElem_cons_zero, List.getElem_cons_succ, List.setIfInBounds_toArray, List.set_cons_zero, List.set_cons_succ]
      refine wpAnyH_take (i := 7) (v := ?vz20) rfl (by kernel_rfl) (by kernel_rfl) (by kernel_rfl) (fun _ _ _ h => h) (Or.inl ⟨?wz20, ?yz20⟩) (by assumption) ?rz20
      case yz20 => (intro w hSw; (try dsimp only at hSw); go_simp; try with_reducible rfl)
      case wz20 => rfl
      case' rz20 => simp only [Act.put, List.getElem_toArray, List.getElem_cons_zero, List.getElem_cons_succ, List.setIfInBounds_toArray, List.set_cons_zero, List.set_cons_succ]
      refine wpAnyH_take (i := 8) (v := ?vz21) rfl (by kernel_rfl) (by kernel_rfl) (by kernel_rfl) (fun _ _ _ h => h) (Or.inl ⟨?wz21, ?yz21⟩) (by assumption) ?rz21
      case yz21 => (intro w hSw; (try dsimp only at hSw); go_simp; try with_reducible rfl)
      case wz21 => rfl
      case' rz21 => simp only [Act.put, List.getElem_toArray, List.getElem_cons_zero, List.getElem_cons_succ, List.setIfInBounds_toArray, List.set_cons_zero, List.set_cons_succ]
      refine wpAnyH_take (i := 9) (v := ?vz22) rfl (by kernel_rfl) (by kernel_rfl) (by kernel_rfl) (fun _ _ _ h => h) (Or.inl ⟨?wz22, ?yz22⟩) (by assumption) ?rz22
      case yz22 => (intro w hSw; (try dsimp only at hSw); go_simp; try with_reducible rfl)
      case wz22 => rfl
      case' rz22 => simp only [Act.put, List.getElem_toArray, List.getElem_cons_zero, List.getElem_cons_succ, List.setIfInBounds_toArray, List.set_cons_zero, List.set_cons_succ]
      refine wpAnyH_take (i := 10) (v := ?vz23) rfl (by kernel_rfl) (by kernel_rfl) (by kernel_rfl) (fun _ _ _ h => h) (Or.inl ⟨?wz23, ?yz23⟩) (by assumption) ?rz23
      case yz23 => (intro w hSw; (try dsimp only at hSw); go_simp; try with_reducible rfl)
      case wz23 => rfl
      case' rz23 => simp only [Act.put, List.getElem_toArray, List.getElem_cons_zero, List.getElem_cons_succ, List.setIfInBounds_toArray, List.set_cons_zero, List.set_cons_succ]
      refine wpAnyH_ready (rs := [11]) (by kernel_rfl) (by simp) ?_
      refine AllReadyH.cons rfl (fun K hK => ?_) AllReadyH.nil
      try go_simp
      (go_at_call 17; refine (hS _ KW.out (by omega)).mono ?_; rintro e w3 ⟨rfl, hk⟩; replace KW := KeptH.go KW hk; replace BX := BlkH.go BX hk; replace HRB2 := BlkH.go HRB2 hk; replace HC := Lib.hid (hk.cellv HC.out); clear hk)
      try go_simp
      refine hK.out _ _ ?_ (fun hHeld => ?_)
      · exact ⟨HC.out, HRB2.out.cell 3, BX.out.cell 0, BX.out.cell 1, BX.out.cell 2, BX.out.cell 3, BX.out.cell 4, BX.out.cell 5, BX.out.cell 6, BX.out.cell 7, BX.out.cell 8⟩
      clear hK K
      try simp only [Act.put, List.getElem_toArray, List.getElem_cons_zero, List.getElem_cons_succ, List.setIfInBounds_toArray, List.set_cons_zero, List.set_cons_succ]
      refine wpAnyH_take (i := 12) (v := ?vz24) rfl (by kernel_rfl) (by kernel_rfl) (by kernel_rfl) (fun _ _ _ h => h) (Or.inl ⟨?wz24, ?yz24⟩) (by assumption) ?rz24
      case yz24 => (intro w hSw; (try dsimp only at hSw); go_simp; try with_reducible rfl)
      case wz24 => rfl
      case' rz24 => simp only [Act.put, List.getElem_toArray, List.getElem_cons_zero, List.getElem_cons_succ, List.setIfInBounds_toArray, List.set_cons_zero, List.set_cons_succ]
      refine wpAnyH_done (by kernel_rfl) ?_ _
      go_wp2_with fail
      go_ret
      exact ⟨rfl, KW.out⟩
    · skip
      refine wp_region_held_drew (S := (fun W => W.cell? ⟨g, 3, none⟩ = some (.slice (some ⟨rb, 0, none⟩) 5 5) ∧ W.cell? ⟨rb, 5, none⟩ = some (.func (.func 17) #[] #[]) ∧ (W.cell? ⟨w.heap.size, 0, none⟩ = some (.int .i64 xc) ∧ W.cell? ⟨w.heap.size, 1, none⟩ = some (.int .i64 3) ∧ W.cell? ⟨w.heap.size, 2, none⟩ = some (.string xy) ∧ W.cell? ⟨w.heap.size, 3, none⟩ = some (.string xv) ∧ W.cell? ⟨w.heap.size, 4, none⟩ = some (.string xf) ∧ W.cell? ⟨w.heap.size, 5, none⟩ = some (.int .i64 xm) ∧ W.cell? ⟨w.heap.size, 6, none⟩ = some (.int .i64 fr) ∧ W.cell? ⟨w.heap.size, 7, none⟩ = some (.int .i64 ef) ∧ W.cell? ⟨w.heap.size, 8, none⟩ = some (.pointer (some ⟨e, 0, none⟩))))) (by kernel_rfl) ?_ (fun hHeld => ?_)
      · exact ⟨HC.out, HRB2.out.cell 5, BX.out.cell 0, BX.out.cell 1, BX.out.cell 2, BX.out.cell 3, BX.out.cell 4, BX.out.cell 5, BX.out.cell 6, BX.out.cell 7, BX.out.cell 8⟩
      refine wpAnyH_take (i := 0) (v := ?vz25) rfl (by kernel_rfl) (by kernel_rfl) (by kernel_rfl) (fun _ _ _ h => h) (Or.inl ⟨?wz25, ?yz25⟩) (by assumption) ?rz25
      case yz25 => (intro w hSw; (try dsimp only at hSw); go_simp; try with_reducible rfl)
      case wz25 => rfl
      case' rz25 => simp only [Act.put, List.getElem_toArray, List.getElem_cons_zero, List.setIfInBounds_toArray, List.set_cons_zero, List.set_cons_succ]
      refine wpAnyH_take (i := 1) (v := ?vz26) rfl (by kernel_rfl) (by kernel_rfl) (by kernel_rfl) (fun _ _ _ h => h) (Or.inl ⟨?wz26, ?yz26⟩) (by assumption) ?rz26
      case yz26 => (intro w hSw; (try dsimp only at hSw); go_simp; try with_reducible rfl)
      case wz26 => rfl
      case' rz26 => simp only [Act.put, List.getElem_toArray, List.getElem_cons_zero, List.getElem_cons_succ, List.setIfInBounds_toArray, List.set_cons_zero, List.set_cons_succ]
      refine wpAnyH_take (i := 2) (v := ?vz27) rfl (by kernel_rfl) (by kernel_rfl) (by kernel_rfl) (fun _ _ _ h => h) (Or.inl ⟨?wz27, ?yz27⟩) (by assumption) ?rz27
      case yz27 => (intro w hSw; (try dsimp only at hSw); go_simp; try with_reducible rfl)
      case wz27 => rfl
      case' rz27 => simp only [Act.put, List.getElem_toArray, List.getElem_cons_zero, List.getElem_cons_succ, List.setIfInBounds_toArray, List.set_cons_zero, List.set_cons_succ]
      refine wpAnyH_take (i := 3) (v := ?vz28) rfl (by kernel_rfl) (by kernel_rfl) (by kernel_rfl) (fun _ _ _ h => h) (Or.inl ⟨?wz28, ?yz28⟩) (by assumption) ?rz28
      case yz28 => (intro w hSw; (try dsimp only at hSw); go_simp; try with_reducible rfl)
      case wz28 => rfl
      case' rz28 => simp only [Act.put, List.getElem_toArray, List.getElem_cons_zero, List.getElem_cons_succ, List.setIfInBounds_toArray, List.set_cons_zero, List.set_cons_succ]
      refine wpAnyH_take (i := 4) (v := ?vz29) rfl (by kernel_rfl) (by kernel_rfl) (by kernel_rfl) (fun _ _ _ h => h) (Or.inl ⟨?wz29, ?yz29⟩) (by assumption) ?rz29
      case yz29 => (intro w hSw; (try dsimp only at hSw); go_simp; try with_reducible rfl)
      case wz29 => rfl
      case' rz29 => simp only [Act.put, List.getElem_toArray, List.getElem_cons_zero, List.getElem_cons_succ, List.setIfInBounds_toArray, List.set_cons_zero, List.set_cons_succ]
      refine wpAnyH_take (i := 5) (v := ?vz30) rfl (by kernel_rfl) (by kernel_rfl) (by kernel_rfl) (fun _ _ _ h => h) (Or.inl ⟨?wz30, ?yz30⟩) (by assumption) ?rz30
      case yz30 => (intro w hSw; (try dsimp only at hSw); go_simp; try with_reducible rfl)
      case wz30 => rfl
      case' rz30 => simp only [Act.put, List.getElem_toArray, List.getElem_cons_zero, List.getElem_cons_succ, List.setIfInBounds_toArray, List.set_cons_zero, List.set_cons_succ]
      refine wpAnyH_take (i := 6) (v := ?vz31) rfl (by kernel_rfl) (by kernel_rfl) (by kernel_rfl) (fun _ _ _ h => h) (Or.inl ⟨?wz31, ?yz31⟩) (by assumption) ?rz31
      case yz31 => (intro w hSw; (try dsimp only at hSw); go_simp; try with_reducible rfl)
      case wz31 => rfl
      case' rz31 => simp only [Act.put, List.getElem_toArray, List.getElem_cons_zero, List.getElem_cons_succ, List.setIfInBounds_toArray, List.set_cons_zero, List.set_cons_succ]
      refine wpAnyH_take (i := 7) (v := ?vz32) rfl (by kernel_rfl) (by kernel_rfl) (by kernel_rfl) (fun _ _ _ h => h) (Or.inl ⟨?wz32, ?yz32⟩) (by assumption) ?rz32
      case yz32 => (intro w hSw; (try dsimp only at hSw); go_simp; try with_reducible rfl)
      case wz32 => rfl
      case' rz32 => simp only [Act.put, List.getElem_toArray, List.getElem_cons_zero, List.getElem_cons_succ, List.setIfInBounds_toArray, List.set_cons_zero, List.set_cons_succ]
      refine wpAnyH_take (i := 8) (v := ?vz33) rfl (by kernel_rfl) (by kernel_rfl) (by kernel_rfl) (fun _ _ _ h => h) (Or.inl ⟨?wz33, ?yz33⟩) (by assumption) ?rz33
      case yz33 => (intro w hSw; (try dsimp only at hSw); go_simp; try with_reducible rfl)
      case wz33 => rfl
      case' rz33 => simp only [Act.put, List.getElem_toArray, List.getElem_cons_zero, List.getElem_cons_succ, List.setIfInBounds_toArray, List.set_cons_zero, List.set_cons_succ]
      refine wpAnyH_take (i := 9) (v := ?vz34) rfl (by kernel_rfl) (by kernel_rfl) (by kernel_rfl) (fun _ _ _ h => h) (Or.inl ⟨?wz34, ?yz34⟩) (by assumption) ?rz34
      case yz34 => (intro w hSw; (try dsimp only at hSw); go_simp; try with_reducible rfl)
      case wz34 => rfl
      case' rz34 => simp only [Act.put, List.getElem_toArray, List.getElem_cons_zero, List.getElem_cons_succ, List.setIfInBounds_toArray, List.set_cons_zero, List.set_cons_succ]
      refine wpAnyH_take (i := 10) (v := ?vz35) rfl (by kernel_rfl) (by kernel_rfl) (by kernel_rfl) (fun _ _ _ h => h) (Or.inl ⟨?wz35, ?yz35⟩) (by assumption) ?rz35
      case yz35 => (intro w hSw; (try dsimp only at hSw); go_simp; try with_reducible rfl)
      case wz35 => rfl
      case' rz35 => simp only [Act.put, List.getElem_toArray, List.getElem_cons_zero, List.getElem_cons_succ, List.setIfInBounds_toArray, List.set_cons_zero, List.set_cons_succ]
      refine wpAnyH_ready (rs := [11]) (by kernel_rfl) (by simp) ?_
      refine AllReadyH.cons rfl (fun K hK => ?_) AllReadyH.nil
      try go_simp
      (go_at_call 17; refine (hS _ KW.out (by omega)).mono ?_; rintro e w3 ⟨rfl, hk⟩; replace KW := KeptH.go KW hk; replace BX := BlkH.go BX hk; replace HRB2 := BlkH.go HRB2 hk; replace HC := Lib.hid (hk.cellv HC.out); clear hk)
      try go_simp
      refine hK.out _ _ ?_ (fun hHeld => ?_)
      · exact ⟨HC.out, HRB2.out.cell 5, BX.out.cell 0, BX.out.cell 1, BX.out.cell 2, BX.out.cell 3, BX.out.cell 4, BX.out.cell 5, BX.out.cell 6, BX.out.cell 7, BX.out.cell 8⟩
      clear hK K
      try simp only [Act.put, List.getElem_toArray, List.getElem_cons_zero, List.getElem_cons_succ, List.setIfInBounds_toArray, List.set_cons_zero, List.set_cons_succ]
      refine wpAnyH_take (i := 12) (v := ?vz36) rfl (by kernel_rfl) (by kernel_rfl) (by kernel_rfl) (fun _ _ _ h => h) (Or.inl ⟨?wz36, ?yz36⟩) (by assumption) ?rz36
      case yz36 => (intro w hSw; (try dsimp only at hSw); go_simp; try with_reducible rfl)
      case wz36 => rfl
      case' rz36 => simp only [Act.put, List.getElem_toArray, List.getElem_cons_zero, List.getElem_cons_succ, List.setIfInBounds_toArray, List.set_cons_zero, List.set_cons_succ]
      refine wpAnyH_done (by kernel_rfl) ?_ _
      go_wp2_with fail
      go_ret
      exact ⟨rfl, KW.out⟩
/-- Check, of calls that have all ended with OK. -/
theorem check_any {w : World} {base g c rb : Nat} {A : Option Addr} {l : List PC} {now : Int} (h : HRep w base g A c rb l now) (hF : ∀ (i : Nat) (x : PC), l[i]? = some x → ∃ e a tt, Fine l i x e a tt) (hn : l.length ≤ 1000) :
    Calls Try.prog 13 #[.pointer (some ⟨g, 0, none⟩)] w fun r w' => ((∃ (k : Nat) (x : PC) (e : Nat) (a : Ans) (tt : Int), l[k]? = some x ∧ Fine l k x e a tt ∧ judge l x a tt = false ∧ r = .returned (.tuple #[.bool false, .int .i64 (k : Nat)])) ∨
      (r = .returned (.tuple #[.bool true, .int .i64 (-1)]) ∧ ∀ (k : Nat) (x : PC) (e : Nat) (a : Ans) (tt : Int), l[k]? = some x → x.fin = some (e, a, tt) → judge l x a tt = true)) ∧ Kept (fun _ => True) w w' := by
  have hR : ∀ (W : World) (i : Nat) (x : PC) (e : Nat) (a : Ans) (tt : Int), Kept (fun _ => True) w W → l[i]? = some x → Fine l i x e a tt → Calls Try.prog 23 #[.pointer (some ⟨g, 0, none⟩), .int .i64 i] W fun r w' => r = .returned (.bool (judge l x a tt)) ∧ Kept (fun _ => True) W w' := fun W i x e a tt hW hi hf => right_any (h.all hW) hi hf hn
  have c1 := h.blk.cell 1
  clear h
  obtain ⟨n, hln⟩ : ∃ n, l.length = n := ⟨_, rfl⟩
  rw [hln] at c1 hn
  have HLN := Lib.hid hln
  have HF := Lib.hid hF
  have HRR := Lib.hid hR
  clear hln hF hR
  obtain ⟨P, hP⟩ : ∃ P : Value → Prop, (fun v => (∃ (k : Nat) (x : PC) (e : Nat) (a : Ans) (tt : Int), l[k]? = some x ∧ Fine l k x e a tt ∧ judge l x a tt = false ∧ Ending.returned v = .returned (.tuple #[.bool false, .int .i64 (k : Nat)])) ∨
      (Ending.returned v = .returned (.tuple #[.bool true, .int .i64 (-1)]) ∧ ∀ (k : Nat) (x : PC) (e : Nat) (a : Ans) (tt : Int), l[k]? = some x → x.fin = some (e, a, tt) → judge l x a tt = true)) = P := ⟨_, rfl⟩
  have HP := Lib.hid hP
  have main : Calls Try.prog 13 #[.pointer (some ⟨g, 0, none⟩)] w fun r w' => (∃ b z, r = .returned (.tuple #[.bool b, .int .i64 z]) ∧ Hid (P (.tuple #[.bool b, .int .i64 z]))) ∧ Kept (fun _ => True) w w' := by
    clear hP
    go_enter Try.func13, Try.ntmps13
    go_wp2_with fail
    go_loopw [4, 10] (fun _ s10 wr => ∃ k : Nat, k ≤ n ∧ s10 = .int .i64 k ∧ Hid (Kept (fun _ => True) w wr) ∧ Hid (∀ (j : Nat) (x : PC) (e : Nat) (a : Ans) (tt : Int), j < k → l[j]? = some x → x.fin = some (e, a, tt) → judge l x a tt = true)) (fun _ s10 _ => n - (intOf s10).toNat)
    case atStart => exact ⟨0, Nat.zero_le _, rfl, Lib.hid (Kept.refl _ _), Lib.hid fun j _ _ _ _ hj => absurd hj (Nat.not_lt_zero _)⟩
    case round =>
      obtain ⟨k, hk, rfl, KW, AL⟩ := hrel
      by_cases hlt : k < n
      · have hltz : (k : Int) < (n : Int) := by omega
        obtain ⟨x, hx⟩ : ∃ x, l[k]? = some x := ⟨_, List.getElem?_eq_getElem (by have := HLN.out; omega)⟩
        obtain ⟨e, a, tt, hf⟩ := HF.out k x hx
        have hc := HRR.out wr k x e a tt KW.out hx hf
        have HX := Lib.hid (And.intro hx hf)
        cases hj : judge l x a tt with
        | true =>
          rw [hj] at hc
          have AL2 : Hid (∀ (j : Nat) (y : PC) (e : Nat) (a : Ans) (tt : Int), j < k + 1 → l[j]? = some y → y.fin = some (e, a, tt) → judge l y a tt = true) := Lib.hid fun j y e' a' tt' hjk hy hfy => by
            rcases Nat.lt_succ_iff_lt_or_eq.1 hjk with h1 | h1
            · exact AL.out j y e' a' tt' h1 hy hfy
            · subst h1
              rw [hx] at hy
              injection hy with hy
              subst hy
              rw [hf.fin] at hfy
              injection hfy with hfy
              injection hfy with e1 hfy
              injection hfy with e2 e3
              subst e2 e3
              exact hj
          clear hx hf hj
          go_wp2_with (go_at_call 23; refine hc.mono ?_; rintro e w2 ⟨rfl, hk2⟩)
          go_roundw
          case measure => simp [intOf]; omega
          case rel => exact ⟨k + 1, by omega, by simp, Lib.hid (KW.out.trans hk2), AL2⟩
        | false =>
          rw [hj] at hc
          have HJ := Lib.hid (show P (.tuple #[.bool false, .int .i64 (k : Nat)]) by
            rw [← HP.out]
            exact .inl ⟨k, x, e, a, tt, hx, hf, hj, rfl⟩)
          clear hx hf hj
          go_wp2_with (go_at_call 23; refine hc.mono ?_; rintro e w2 ⟨rfl, hk2⟩)
          go_ret2
          exact ⟨⟨_, _, rfl, HJ⟩, KW.out.trans hk2⟩
      · have hltn : ¬ (k : Int) < (n : Int) := by omega
        have HJ := Lib.hid (show P (.tuple #[.bool true, .int .i64 (-1)]) by
          rw [← HP.out]
          exact .inr ⟨rfl, fun j y e a tt hy hfy => AL.out j y e a tt (by have := (List.getElem?_eq_some_iff.1 hy).1; have := HLN.out; omega) hy hfy⟩)
        go_wp2_with fail
        go_ret2
        exact ⟨.inr ⟨_, rfl, HJ⟩, KW.out⟩
  refine main.mono ?_
  rintro r w' ⟨⟨b, z, rfl, hp⟩, hk⟩
  refine ⟨?_, hk⟩
  have := hp.out
  rw [← HP.out] at this
  exact this
end Ythmijlchonbjnaa
end Go.Proofs
