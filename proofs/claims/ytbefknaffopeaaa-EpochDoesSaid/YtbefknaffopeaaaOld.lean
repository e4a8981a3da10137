/-
  The things that wait, gone over by an iterator: old and its closure.
-/
import Derived.Test.YtbefknaffopeaaaSteps
import Derived.RangeFuncNested
import Derived.RangeFuncBound
import Derived.RangeFuncCalls
import Derived.RangeFuncLeaves
import Derived.RangeFuncBox
import Derived.Shelf.Abstract
import Derived.Shelf.RegionOpen
import Derived.OwnWalkIn
import Derived.TacticsInMore
import Derived.LoopNIn
import Derived.LoopIn
set_option maxHeartbeats 1000000
set_option maxRecDepth 100000
namespace Go.Proofs
open Go.RowKit Go.Shelf
theorem Try.cells58 : Try.prog.cellsOf 58 = 2 := by kernel_rfl
theorem Try.cells55' : Try.prog.cellsOf 55 = 4 := by kernel_rfl
namespace Ytbefknaffopeaaa
attribute [local go_sem] Oper.semAt_some

/-- Is a thing gone over? -/
def isOld (q : Int) (before : Bool) (p : Int × Int) : Bool := decide (p.2 < q) == before
def encThing (p : Int × Int) : Array Value := #[.agg #[.int .i64 p.1, .int .i64 p.2]]

theorem old_any (w : World) (eb : Nat) (q : Int) (b : Bool) :
    Calls Try.prog 31 #[.pointer (some ⟨eb, 0, none⟩), .int .i64 q, .bool b] w fun r w' => r = .returned (.func (.func 35) #[] #[.pointer (some ⟨w.heap.size, 0, none⟩), .pointer (some ⟨w.heap.size + 1, 0, none⟩), .pointer (some ⟨w.heap.size + 2, 0, none⟩)]) ∧
      w' = ((w.alloc (.cells #[.pointer (some ⟨eb, 0, none⟩)] 24)).alloc (.cells #[.int .i64 q] 3)).alloc (.cells #[.bool b] 4) := by
  go_enter Try.func31, Try.ntmps31
  go_wp2
  go_ret
  exact ⟨rfl, rfl⟩

theorem waitCells_at (l : List (Int × Int)) : ∀ (k : Nat) (p : Int × Int), l[k]? = some p → (waitCells l)[2 * k]? = some (.int .i64 p.1) ∧ (waitCells l)[2 * k + 1]? = some (.int .i64 p.2) := by
  induction l with
  | nil => intro k p h; simp at h
  | cons x l ih =>
    intro k p h
    cases k with
    | zero =>
      have : x = p := by simpa using h
      subst this
      simp [waitCells]
    | succ k =>
      have := ih k p (by simpa using h)
      simp only [waitCells, List.flatMap_cons, List.cons_append, List.nil_append] at this ⊢
      have e1 : 2 * (k + 1) = 2 * k + 1 + 1 := by omega
      rw [e1]
      simpa using this

theorem old1_in (F : Fence) (n : Nat) (h6 : F.fn 35) (hro : F.round = none) (hn : 1 ≤ n) (l be bq bb eb g cap : Nat) (q : Int) (before : Bool) (ws : List (Int × Int)) (K : Nat → Prop)
    (hKq : K bq) (hKb : K bb) (hKg : K g) (J Jx : List (Int × Int) → World → Prop) (B : Nat) (hJ : AbidesFrom B J) 
    (hY : ∀ pre x W, J pre W → pre.length < (ws.filter (isOld q before)).length → YieldAt F (n - 1) Try.prog l (encThing x) W fun e W' =>
      (e = .returned (.bool true) ∧ J (pre ++ [x]) W' ∧ Kept K W W') ∨ (e = .returned (.bool false) ∧ Jx (pre ++ [x]) W'))
    (W : World) (he : Blk W be 24 #[.pointer (some ⟨eb, 0, none⟩)]) (hq : Blk W bq 3 #[.int .i64 q]) (hb : Blk W bb 4 #[.bool before])
    (hc3 : W.cell? ⟨eb, 3, none⟩ = some (.slice (some ⟨g, 0, none⟩) ws.length cap)) (hg : W.ownsRow 0 58 2 (.slice (some ⟨g, 0, none⟩) ws.length cap) ws.length (waitCells ws)) (h0 : J [] W)
    (hm : ws.length * 16 ≤ 140737488355328) :
    CallsIn F n Try.prog 35 #[.func (.yield l) #[] #[], .pointer (some ⟨be, 0, none⟩), .pointer (some ⟨bq, 0, none⟩), .pointer (some ⟨bb, 0, none⟩)] W fun e W' => (∃ v, e = .returned v) ∧
      ((∃ ys, ys = ws.filter (isOld q before) ∧ J ys W') ∨ (∃ pre, pre <+: ws.filter (isOld q before) ∧ Jx pre W')) := by
  have e0 : W.cell? ⟨be, 0, none⟩ = some (.pointer (some ⟨eb, 0, none⟩)) := he.cell 0
  refine callsIn_of_wp Try.func35 rfl h6 ?_ hro
  simp only [Try.ntmps35, List.size_toArray, List.length_cons, List.length_nil, Nat.reduceAdd, Nat.reduceSub, Array.replicate_succ, Array.replicate_zero, List.push_toArray, List.append_toArray, List.nil_append, List.cons_append]
  gi_wp2
  gi_loopw [12] (fun i wr => ∃ k : Nat, k ≤ ws.length ∧ i = .int .i64 k ∧ J ((ws.take k).filter (isOld q before)) wr ∧ Kept K W wr)
    (fun i _ => ws.length - (intOf i).toNat)
  case atStart => exact ⟨0, Nat.zero_le _, rfl, h0, Kept.refl _ _⟩
  case round =>
    obtain ⟨k, hk, rfl, hJs, hnx⟩ := hrel
    by_cases hlt : k < ws.length
    · obtain ⟨p, hp⟩ : ∃ p, ws[k]? = some p := ⟨_, List.getElem?_eq_getElem hlt⟩
      obtain ⟨hw0, hw1⟩ := waitCells_at ws k p hp
      have hgr := ownsRow_kept hg hnx (fun g' hg' => by have : g = g' := by simpa [Value.ownBlock] using hg'
                                                        subst this; exact hKg)
      have c0 : wr.cell? ⟨g, k * 2, none⟩ = some (.int .i64 p.1) := by rw [hgr.cellAt (k * 2) (by omega), Nat.mul_comm]; exact hw0
      have c1 : wr.cell? ⟨g, k * 2 + 1, none⟩ = some (.int .i64 p.2) := by rw [hgr.cellAt (k * 2 + 1) (by omega), Nat.mul_comm]; exact hw1
      have q0 : ∀ o, (wr.alloc o).cell? ⟨bq, 0, none⟩ = some (.int .i64 q) := fun o => ((hq.kept hnx hKq).alloc o).cell 0
      have b0 : ∀ o, (wr.alloc o).cell? ⟨bb, 0, none⟩ = some (.bool before) := fun o => ((hb.kept hnx hKb).alloc o).cell 0
      have hts : (ws.take (k + 1)) = ws.take k ++ [p] := by
        obtain ⟨h1, h2⟩ := List.getElem?_eq_some_iff.1 hp
        rw [List.take_succ_eq_append_getElem hlt, h2]
      have HTS := Lib.hid hts
      have HP := Lib.hid hp
      clear hw0 hw1 hts hp
      by_cases ht : isOld q before p = true
      · have ht' : (decide (p.2 < q) == before) = true := ht
        have hlen : ((ws.take k).filter (isOld q before)).length < (ws.filter (isOld q before)).length := by
          have e1 : ws = ws.take k ++ [p] ++ ws.drop (k + 1) := by rw [← HTS.out, List.take_append_drop]
          rw [congrArg (fun l => (l.filter (isOld q before)).length) e1]
          simp [ht]
        obtain ⟨fn, tmps, assign, body, hy, hR⟩ := hY _ p (wr.alloc (.cells #[.int .i64 p.1, .int .i64 p.2] 58)) (hJ _ _ _ none hJs (World.grownBy_alloc _ _ _) (fun r e => nomatch e)) hlen
        dsimp only [encThing] at hy
        have HT := Lib.hid ht
        clear ht
        have HF : Hid ((ws.take (k + 1)).filter (isOld q before) = (ws.take k).filter (isOld q before) ++ [p]) := by rw [HTS.out, List.filter_append]; unfold Hid; simp [HT.out]
        gi_wp2
        refine hR.mono ?_
        rintro e W3 (⟨rfl, hJ3, hk3⟩ | ⟨rfl, hJx3⟩)
        · gi_wp2
          go_roundw
          case rel => exact ⟨k + 1, by omega, by simp, by rw [HF.out]; exact hJ3, (hnx.alloc _).trans hk3⟩
          case measure => simp [intOf]; omega
        · gi_wp2
          refine bodyPost_ret (results_none rfl _ _ _) rfl ?_
          exact ⟨⟨_, rfl⟩, .inr ⟨_, ⟨(ws.drop (k + 1)).filter (isOld q before), by rw [← HF.out, ← List.filter_append, List.take_append_drop]⟩, hJx3⟩⟩
      · have ht' : (decide (p.2 < q) == before) = false := by simpa [isOld] using ht
        have HT := Lib.hid ht
        clear ht
        have HF : Hid ((ws.take (k + 1)).filter (isOld q before) = (ws.take k).filter (isOld q before)) := by rw [HTS.out, List.filter_append]; unfold Hid; simp [HT.out]
        have hJ1 := hJ _ _ _ none hJs (World.grownBy_alloc wr (.cells #[.int .i64 p.1, .int .i64 p.2] 58) none) (fun r e => nomatch e)
        gi_wp2
        all_goals (refine ⟨fun _ h => (by cases h), ?_⟩; gi_wp2)
        all_goals go_roundw
        case rel => exact ⟨k + 1, by omega, by simp, by rw [HF.out]; exact hJ1, hnx.alloc _⟩
        case measure => simp [intOf]; omega
    · obtain rfl : k = ws.length := by omega
      gi_wp2
      go_end0
      exact ⟨⟨_, rfl⟩, .inl ⟨_, rfl, by simpa using hJs⟩⟩
theorem old1_nil (F : Fence) (n : Nat) (h6 : F.fn 35) (hro : F.round = none) (l be bq bb eb : Nat) (J : List (Int × Int) → World → Prop)
    (W : World) (he : Blk W be 24 #[.pointer (some ⟨eb, 0, none⟩)])
    (hc3 : W.cell? ⟨eb, 3, none⟩ = some (.slice none 0 0)) (h0 : J [] W) :
    CallsIn F n Try.prog 35 #[.func (.yield l) #[] #[], .pointer (some ⟨be, 0, none⟩), .pointer (some ⟨bq, 0, none⟩), .pointer (some ⟨bb, 0, none⟩)] W fun e W' => (∃ v, e = .returned v) ∧ J [] W' := by
  have e0 : W.cell? ⟨be, 0, none⟩ = some (.pointer (some ⟨eb, 0, none⟩)) := he.cell 0
  refine callsIn_of_wp Try.func35 rfl h6 ?_ hro
  simp only [Try.ntmps35, List.size_toArray, List.length_cons, List.length_nil, Nat.reduceAdd, Nat.reduceSub, Array.replicate_succ, Array.replicate_zero, List.push_toArray, List.append_toArray, List.nil_append, List.cons_append]
  gi_wp2
  gi_loopw [12] (fun i wr => i = .int .i64 0 ∧ J [] wr) (fun _ _ => 0)
  case atStart => exact ⟨rfl, h0⟩
  case round =>
    obtain ⟨rfl, hJs⟩ := hrel
    gi_wp2
    go_end0
    exact ⟨⟨_, rfl⟩, hJs⟩

/-- What the closure gives: just the things that wait and are asked for, in their order. -/
theorem old_stops (F : Fence) (n : Nat) (h6 : F.fn 35) (hro : F.round = none) (hn : 1 ≤ n) (be bq bb eb : Nat) (q : Int) (before : Bool) (ws : List (Int × Int)) (v : Value) (K : Nat → Prop) (w : World)
    (hKq : K bq) (hKb : K bb) (hKg : ∀ g, v.ownBlock = some g → K g)
    (he : Blk w be 24 #[.pointer (some ⟨eb, 0, none⟩)]) (hq : Blk w bq 3 #[.int .i64 q]) (hb : Blk w bb 4 #[.bool before]) {cs : Array Value} (hE : Blk w eb 55 cs) (hc : cs[3]? = some v)
    (hv : w.ownsRow 0 58 2 v ws.length (waitCells ws)) (hm : ws.length * 16 ≤ 140737488355328) :
    SeqStopsK F n Try.prog 35 #[.pointer (some ⟨be, 0, none⟩), .pointer (some ⟨bq, 0, none⟩), .pointer (some ⟨bb, 0, none⟩)] encThing (Kept K) (fun ys => ys = ws.filter (isOld q before)) (fun pre => pre <+: ws.filter (isOld q before)) (ws.filter (isOld q before)).length w := fun l J Jx W hW hJ _ hY h0 => by
  have he' := he.below hW he.lt
  have hq' := hq.below hW hq.lt
  have hb' := hb.below hW hb.lt
  have hE' := hE.below hW hE.lt
  have hc3 : W.cell? ⟨eb, 3, none⟩ = some v := (hE'.cell 3).trans hc
  have hk : Kept (fun b => b < w.heap.size) w W := ⟨hW.os, hW.tape, hW.output, hW.size, fun k hk _ => hW.block k hk⟩
  have hv' := ownsRow_kept hv hk fun g hg => (ownsRow_lt hv hg).1
  rcases hv.2 with ⟨rfl, hz⟩ | ⟨g, cap, cur, rfl, _⟩
  · have : ws = [] := List.eq_nil_of_length_eq_zero hz
    subst this
    exact (old1_nil F n h6 hro l be bq bb eb J W he' hc3 h0).mono fun e W' ⟨he, hj⟩ => ⟨he, .inl ⟨_, rfl, hj⟩⟩
  · exact old1_in F n h6 hro hn l be bq bb eb g cap q before ws K hKq hKb (hKg g rfl) J Jx _ hJ hY W he' hq' hb' hc3 hv' h0 hm
end Ytbefknaffopeaaa
end Go.Proofs
