/-
  CodeWrites: the walk.
-/
import Derived.Test.YtglhkfiigbbpdaaWS
import Derived.Test.YtglhkfiigbbpdaaSizesWalk
import Derived.Deep.CutBlock
set_option maxHeartbeats 4000000
set_option maxRecDepth 100000
namespace Go.Proofs
open Go.RowKit
namespace Ytglhkfiigbbpdaa
attribute [local go_sem ↓] Go.wp_at_zero Go.wp_at_succ
theorem run_append_row26 {w : World} {base : Nat} {v x : Value} {l m : List UInt8} (h : Row1 w base 5 v (bc l)) (hx : Rd w x m) (hb : l.length + m.length ≤ 140737488355328) (hbase : base ≤ w.heap.size) :
    ∃ A c w', (Builtin.append_ #[26, 26] 26 #[v, x]).run Try.prog w = .ok (.slice A (l ++ m).length c) w' ∧ Row1 w' base 5 (.slice A (l ++ m).length c) (bc (l ++ m)) ∧ Kept (fun b => v.ownBlock ≠ some b) w w' ∧
      ((Value.slice A (l ++ m).length c).ownBlock = v.ownBlock ∨ (Value.slice A (l ++ m).length c).ownBlock = some w.heap.size) := by
  obtain ⟨v', w', h1, h2, h3, h4⟩ := run_append_src (P := Try.prog) (t := 26) (ty := 26) Try.underlying26 Try.info5 h hx (by rw [bc_length]; exact hb) hbase
  rw [← bc_append] at h2
  obtain ⟨A, c, rfl⟩ := h2.form
  rw [bc_length] at h1 h2 h4
  exact ⟨A, c, w', h1, h2, h3, h4⟩
/-- One call that came in. -/
structure At (w : World) (b o : Nat) (c : Cl) (A : Option Addr) (cap : Nat) : Prop where
  lt : b < w.heap.size
  c0 : w.cell? ⟨b, o, none⟩ = some (.int .i64 c.k)
  c1 : w.cell? ⟨b, o + 1, none⟩ = some (.int .u64 (c.n : Int))
  c2 : w.cell? ⟨b, o + 2, none⟩ = some (.int .i64 c.many)
  c3 : w.cell? ⟨b, o + 3, none⟩ = some (.slice A c.b.length cap)
  rd : Rd w (.slice A c.b.length cap) c.b
theorem At.all {w w' : World} {b o cap : Nat} {c : Cl} {A : Option Addr} (h : At w b o c A cap) (hk : Kept (fun b => b < w.heap.size) w w') : At w' b o c A cap :=
  ⟨Nat.lt_of_lt_of_le h.lt hk.size, (hk.cell (p := ⟨b, o, none⟩) h.lt h.lt).trans h.c0, (hk.cell (p := ⟨b, o + 1, none⟩) h.lt h.lt).trans h.c1, (hk.cell (p := ⟨b, o + 2, none⟩) h.lt h.lt).trans h.c2, (hk.cell (p := ⟨b, o + 3, none⟩) h.lt h.lt).trans h.c3, h.rd.all hk⟩
theorem CallsIn.get {w : World} {A : Option Addr} {l : List Cl} (h : CallsIn w A l) {i : Nat} {c : Cl} (hc : l[i]? = some c) : ∃ b off Ab cb, A = some ⟨b, off, none⟩ ∧ At w b (off + i * 4) c Ab cb ∧ c.n < 18446744073709551616 ∧ c.many ≤ 9223372036854775807 := by
  obtain ⟨b, off, v, h1, h2, c0, c1, c2, c3, hr, h4, h5⟩ := h.at_ i c hc
  obtain ⟨Ab, cb, rfl⟩ := hr.form
  exact ⟨b, off, Ab, cb, h1, ⟨h2, c0, c1, c2, c3, hr⟩, h4, h5⟩
section
variable {w w' : World} {base wb : Nat} {v wantv bv x : Value} {C D m : List UInt8} {xs : List Value}
theorem WS.begun (h : WS w base wb v wantv (.slice none 0 0) C D []) (hk : Kept (fun _ => True) w w') (hr : Row1 w' base 5 bv xs) (hat : bv.ownBlock = none ∨ bv.ownBlock = some w.heap.size) : WS w' base wb v wantv bv C D xs := by
  refine ⟨h.rep.kept (hk.mono fun _ _ _ => trivial), h.want.kept hk fun _ _ => trivial, hr, fun y hy => ⟨(h.a1 y hy).1, fun e => ?_⟩, fun y hy e => ?_⟩
  · rcases hat with e1 | e1
    · rw [e1] at e; cases e
    · rw [e1] at e
      cases e
      exact Nat.lt_irrefl _ (h.rep.foot_lt _ hy)
  · rcases hat with e1 | e1
    · rw [e1] at e; cases e
    · rw [e1] at e
      cases e
      exact Nat.lt_irrefl _ (h.want.lt hy).1
theorem WS.ended (h : WS w base wb v wantv bv C D xs) : WS w base wb v wantv (.slice none 0 0) C D [] :=
  ⟨h.rep, h.want, Row1.nil _ _ _, fun y hy => ⟨(h.a1 y hy).1, fun e => by simp [Value.ownBlock] at e⟩, fun y _ e => by simp [Value.ownBlock] at e⟩
/-- More is wanted. -/
theorem WS.app (h : WS w base wb v wantv bv C D xs) (hx : Rd w x m) (hb : D.length + m.length ≤ 140737488355328) (hbase : base ≤ w.heap.size) :
    ∃ A c w', (Builtin.append_ #[26, 26] 26 #[wantv, x]).run Try.prog w = .ok (.slice A (D ++ m).length c) w' ∧ WS w' base wb v (.slice A (D ++ m).length c) bv C (D ++ m) xs ∧ Kept (fun b => ¬ wsFoot wb v wantv bv b) w w' := by
  obtain ⟨A, c, w', h1, h2, h3, h4⟩ := run_append_row26 h.want hx hb hbase
  exact ⟨A, c, w', h1, (h.grown h2 h3 h4).1, (h.grown h2 h3 h4).2⟩
end
/-- What is wanted ahead of call k. -/
def upTo (l : List Cl) (k : Nat) : List UInt8 := (l.take k).flatMap laidC
theorem upTo_succ {l : List Cl} {k : Nat} {c : Cl} (h : l[k]? = some c) : upTo l (k + 1) = upTo l k ++ laidC c := by
  unfold upTo
  rw [List.take_add_one, h]
  simp
theorem length_weight : ∀ l : List Cl, l.length ≤ weight l
  | [] => Nat.zero_le _
  | d :: l => by
    have := length_weight l
    simp only [weight, List.map_cons, List.sum_cons, List.length_cons] at this ⊢
    omega
theorem upTo_len {l : List Cl} {k : Nat} {c : Cl} (h : l[k]? = some c) (hl : ∀ c ∈ l, c.n < 18446744073709551616) (hw : weight l ≤ 1000000000000) : (upTo l k).length + 20 * (c.b.length + 1) ≤ 40000000000000 := by
  have hg := weight_get h
  have h1 := all_len (l.take k) fun d hd => ⟨hl d (List.mem_of_mem_take hd), by
    obtain ⟨i, hi⟩ := List.getElem?_of_mem (List.mem_of_mem_take hd)
    have := weight_get hi
    omega⟩
  have h2 := weight_take l k
  unfold upTo
  omega
theorem writes_any (l : List Cl) (A : Option Addr) (cap : Nat) (w : World) (HC : CallsIn w A l) (hw : weight l ≤ 1000000000000) :
    Calls Try.prog 3 #[.slice A l.length cap] w fun e w' => e = .returned (.bool true) ∧ Kept (fun b => b < w.heap.size) w w' := by
  have hn : Hid (∀ c ∈ l, c.n < 18446744073709551616) := Lib.hid fun c hc => by
    obtain ⟨i, hi⟩ := List.getElem?_of_mem hc
    obtain ⟨_, _, _, _, _, _, _, _, _, _, h, _⟩ := HC.at_ i c hi
    exact h
  have HC := Lib.hid HC
  have hlw : l.length ≤ 1000000000000 := Nat.le_trans (length_weight l) hw
  go_enter Try.func3, Try.ntmps3
  go_wp2_with fail
  refine (awake_any w).mono ?_
  rintro e w1 ⟨rfl, k1⟩
  go_wp2_with fail
  refine (newW_any w1).mono ?_
  rintro e w2 ⟨rfl, hw2⟩
  have hW := WRep.new w1 w.heap.size k1.size
  have k2 : Kept (fun _ => True) w1 (w1.alloc (.cells #[.slice none 0 0] 50)) := (Kept.refl _ w1).alloc _
  rw [← hw2] at hW k2
  clear hw2
  have q2 : Kept (fun b => b < w.heap.size) w w2 := (k1.trans k2).mono fun _ _ _ => trivial
  obtain ⟨wb, hwb⟩ : ∃ wb, w1.heap.size = wb := ⟨_, rfl⟩
  rw [hwb] at hW ⊢
  have HS : Hid (WS w2 w.heap.size wb (.slice none 0 0) (.slice none 0 0) (.slice none 0 0) [] [] []) := Lib.hid ⟨hW, Row1.nil _ _ _, Row1.nil _ _ _, fun _ _ => ⟨fun h => by simp [Value.ownBlock] at h, fun h => by simp [Value.ownBlock] at h⟩, fun x h => by simp [Value.ownBlock] at h⟩
  clear k1 k2 hwb hW
  go_wp2_with fail
  go_loopw [5, 6] (fun want i wr => ∃ (k : Nat) (v : Value) (A5 : Option Addr) (c5 : Nat), i = .int .i64 (k : Int) ∧ want = .slice A5 (upTo l k).length c5 ∧ k ≤ l.length ∧ Hid (WS wr w.heap.size wb v (.slice A5 (upTo l k).length c5) (.slice none 0 0) (upTo l k) (upTo l k) []) ∧ Kept (fun b => b < w.heap.size) w wr)
    (fun _ i _ => l.length - (intOf i).toNat)
  case atStart => exact ⟨0, _, none, 0, rfl, rfl, Nat.zero_le _, HS, q2⟩
  case round =>
    clear HS q2
    obtain ⟨k, v, A5, c5, rfl, rfl, hk, HS, q⟩ := hrel
    by_cases hlt : k < l.length
    · have hd : decide ((k : Int) < (l.length : Int)) = true := by simp; omega
      obtain ⟨c, hc⟩ : ∃ c, l[k]? = some c := ⟨_, List.getElem?_eq_getElem hlt⟩
      have hlen := upTo_len hc hn.out hw
      have hup := upTo_succ hc
      obtain ⟨b, off, Ab, cb, rfl, hAt, hcn, hcm⟩ := HC.out.get hc
      obtain ⟨D, hD⟩ : ∃ D, upTo l k = D := ⟨_, rfl⟩
      obtain ⟨E, hE⟩ : ∃ E, upTo l (k + 1) = E := ⟨_, rfl⟩
      rw [hD] at hlen hup HS ⊢
      rw [hE] at hup
      have HUP := Lib.hid hup
      have HE := Lib.hid hE
      have HAT := Lib.hid hAt
      obtain ⟨-, c0, c1, -, c3, hrb⟩ := hAt.all q
      obtain ⟨Ax, cx, w3, hrun, hrow, hk3, hat⟩ := run_append_row26 (l := []) (Row1.nil wr w.heap.size 5) hrb (by rw [List.length_nil]; omega) q.size
      rw [List.nil_append] at hrun hrow hat
      have hk3' : Kept (fun _ => True) wr w3 := hk3.mono fun _ _ _ => by simp [Value.ownBlock]
      have HS3 := Lib.hid (HS.out.begun hk3' hrow hat)
      have q3 := q.trans (hk3'.mono fun _ _ _ => trivial)
      have d0 := (hAt.all q3).c0
      have HRUN := Lib.hid hrun
      clear hrun hrb hup hD hE hAt hk3 hk3' hrow hat HS
      go_upto_block 2 with (at_builtin; refine wpList_append_run (by rfl) (.const (.slice none 0 0)) (.tmp 31) 26 (by rfl) (by rfl) (by rfl) HRUN.out ?_)
      clear HRUN c0 c1 c3 q
      go_cut [5] (fun want wx => ∃ v' A' c', want = .slice A' E.length c' ∧ Hid (WS wx w.heap.size wb v' (.slice A' E.length c') (.slice Ax c.b.length cx) E E (bc c.b)) ∧ Kept (fun b => b < w.heap.size) w wx)
      case first =>
        by_cases hk0 : c.k = 0
        · have hb0 : (c.k == 0) = true := by simp [hk0]
          have e6 : D ++ form c.n = E := by rw [HUP.out, laidC, if_pos hk0]
          have E6 := Lib.hid e6
          clear hk0 e6
          have d1 := (HAT.out.all q3).c1
          go_wp2_with fail
          refine (num_any w3 w.heap.size wb v D HS3.out.rep c.n hcn (by omega) q3.size).mono ?_
          rintro e w4 ⟨rfl, hl4⟩
          obtain ⟨v4, hs4, hk4⟩ := HS3.out.laid hl4
          have q4 := HS3.out.past q3 hk4
          have d1' := (HAT.out.all q4).c1
          have HS4 := Lib.hid hs4
          clear HS3 q3 d0 d1 hl4 hk4 hs4
          go_wp2_with fail
          refine (refForm_any c.n hcn w4).mono ?_
          rintro e w5 ⟨vf, rfl, hrf, hk5⟩
          have hs5 := HS4.out.kept (hk5.mono fun x _ hx => (HS4.out.foot_lt x hx).1)
          have q5 := q4.trans (hk5.mono fun x _ hx => Nat.lt_of_lt_of_le hx q4.size)
          have hfl := form_len hcn
          obtain ⟨A6, c6, w6, hrun, hs6, hk6⟩ := hs5.app hrf.rd (by omega) q5.size
          have q6 := hs5.past q5 hk6
          rw [E6.out] at hrun hs6
          obtain ⟨Af, cf, rfl⟩ := hrf.form
          have HRUN := Lib.hid hrun
          have HS6 := Lib.hid hs6
          clear HS4 q4 d1' hrf hk5 hs5 q5 hrun hs6 hk6
          go_wp2_with (at_builtin; refine wpList_append_run (by rfl) (.tmp 63) (.tmp 64) 26 (by rfl) (by rfl) (by rfl) HRUN.out ?_)
          go_meet
          case rel => exact ⟨v4, A6, c6, rfl, HS6, q6⟩
        · have hb0 : (c.k == 0) = false := by simp [hk0]
          by_cases hk1 : c.k = 1
          · have hb1 : (c.k == 1) = true := by simp [hk1]
            have e7 : D ++ form c.b.length ++ c.b = E := by rw [HUP.out, laidC, if_neg hk0, if_pos hk1, List.append_assoc]
            obtain ⟨D6, hD6⟩ : ∃ D6, D ++ form c.b.length = D6 := ⟨_, rfl⟩
            have E7 := Lib.hid e7
            have HD6 := Lib.hid hD6
            clear hk1 e7 hD6
            go_wp2_with fail
            refine (bytes_any HS3.out.rep HS3.out.b.rd (fun _ x hx => ⟨fun hf => (HS3.out.a1 x hf).2 hx, (HS3.out.b.lt hx).1⟩) (by omega) q3.size).mono ?_
            rintro e w4 ⟨rfl, hl4⟩
            obtain ⟨v4, hs4, hk4⟩ := HS3.out.laid hl4
            have q4 := HS3.out.past q3 hk4
            have hwr : IntKind.u64.wrap (c.b.length : Int) = (c.b.length : Int) := by rw [IntKind.wrap_u64]; omega
            have HS4 := Lib.hid hs4
            clear HS3 q3 d0 hl4 hk4 hs4
            go_wp2_with fail
            refine (refForm_any c.b.length (by omega) w4).mono ?_
            rintro e w5 ⟨vf, rfl, hrf, hk5⟩
            have hs5 := HS4.out.kept (hk5.mono fun x _ hx => (HS4.out.foot_lt x hx).1)
            have q5 := q4.trans (hk5.mono fun x _ hx => Nat.lt_of_lt_of_le hx q4.size)
            have hfl := form_len (n := c.b.length) (by omega)
            obtain ⟨A6, c6, w6, hrun, hs6, hk6⟩ := hs5.app hrf.rd (by omega) q5.size
            have q6 := hs5.past q5 hk6
            have hD6l : D6.length ≤ D.length + 10 := by rw [← HD6.out, List.length_append]; omega
            rw [HD6.out] at hrun hs6
            have e7 := E7.out
            rw [HD6.out] at e7
            obtain ⟨A7, c7, w7, hrun7, hs7, hk7⟩ := hs6.app (HAT.out.all q6).rd (by omega) q6.size
            have q7 := hs6.past q6 hk7
            have d3 := (HAT.out.all q6).c3
            rw [e7] at hrun7 hs7
            obtain ⟨Af, cf, rfl⟩ := hrf.form
            have HRUN := Lib.hid hrun
            have HRUN7 := Lib.hid hrun7
            have HS7 := Lib.hid hs7
            clear HS4 q4 hrf hk5 hs5 q5 hrun hs6 hk6 e7 hk7 hs7 hrun7 q6 hD6l
            go_wp2_with (first | (at_builtin; refine wpList_append_run (by rfl) (.tmp 75) (.tmp 76) 26 (by rfl) (by rfl) (by rfl) HRUN.out ?_) | (at_builtin; refine wpList_append_run (by rfl) (.tmp 78) (.tmp 83) 26 (by rfl) (by rfl) (by rfl) HRUN7.out ?_))
            go_meet
            case rel => exact ⟨v4, A7, c7, rfl, HS7, q7⟩
          · have hb1 : (c.k == 1) = false := by simp [hk1]
            go_wp2_with fail
            refine (raw_any HS3.out.rep HS3.out.b.rd (by omega) q3.size).mono ?_
            rintro e w4 ⟨rfl, hl4⟩
            obtain ⟨v4, hs4, hk4⟩ := HS3.out.laid hl4
            have q4 := HS3.out.past q3 hk4
            obtain ⟨A7, c7, w7, hrun7, hs7, hk7⟩ := hs4.app (HAT.out.all q4).rd (by omega) q4.size
            have q7 := hs4.past q4 hk7
            have e7 : D ++ c.b = E := by rw [HUP.out, laidC, if_neg hk0, if_neg hk1]
            have d3 := (HAT.out.all q4).c3
            rw [e7] at hrun7 hs7
            have HRUN7 := Lib.hid hrun7
            have HS7 := Lib.hid hs7
            clear HS3 q3 d0 hl4 hk4 hs4 q4 hrun7 hs7 hk7 e7
            go_wp2_with (at_builtin; refine wpList_append_run (by rfl) (.tmp 41) (.tmp 46) 26 (by rfl) (by rfl) (by rfl) HRUN7.out ?_)
            go_meet
            case rel => exact ⟨v4, A7, c7, rfl, HS7, q7⟩
      case rest =>
        obtain ⟨v', A', c', rfl, HW, qc⟩ := hcut
        clear HS3 q3 d0
        have hEl : E.length ≤ 40000000000000 := by
          have := HUP.out
          have h1 := laidC_len c hcn (by omega)
          rw [this, List.length_append]
          omega
        go_wp2_with fail
        go_loopw [10] (fun jv wr2 => ∃ (j : Nat) (xs : List Value), jv = .int .i64 (j : Int) ∧ j ≤ c.b.length ∧ Hid (xs.length = c.b.length ∧ (∀ x ∈ xs, ∃ u : Int, x = .int .u8 u) ∧ WS wr2 w.heap.size wb v' (.slice A' E.length c') (.slice Ax c.b.length cx) E E xs) ∧ Kept (fun b => b < w.heap.size) w wr2)
          (fun jv _ => c.b.length - (intOf jv).toNat)
        case atStart => exact ⟨0, bc c.b, rfl, Nat.zero_le _, Lib.hid ⟨bc_length _, fun x hx => by obtain ⟨u, _, rfl⟩ := List.mem_map.1 hx; exact ⟨_, rfl⟩, HW.out⟩, qc⟩
        case round =>
          clear HW qc
          obtain ⟨j, xs, rfl, hj, HX, qr⟩ := hrel
          by_cases hjl : j < c.b.length
          · have hdj : decide ((j : Int) < (c.b.length : Int)) = true := by simp; omega
            obtain ⟨hxl, hxi, hws⟩ := HX.out
            obtain ⟨u, hu⟩ := hxi _ (List.getElem_mem (l := xs) (n := j) (by omega))
            have hu2 : xs[j]? = some (.int .u8 u) := by rw [List.getElem?_eq_getElem (by omega), hu]
            obtain ⟨g, cap2, hv, hcell⟩ := hws.b.at_ hu2
            injection hv with hv1 hv2 hv3
            subst hv1
            have hset := hws.bset (j := j) 
            obtain ⟨cs, hblk⟩ := hws.b.blk (g := g) rfl
            have hfz := hblk.frozen j
            have HSET := Lib.hid hset
            have HX1 := HX
            clear HX hset hv2 hv3 hws hxi hu hu2 hblk
            go_wp2_with fail
            refine ⟨⟨j + 1, xs.set j (.int .u8 ((u + 1) % 256)), by go_num, by omega, Lib.hid ⟨by rw [List.length_set]; exact HX1.out.1, fun x hx => ?_, (HSET.out _).1⟩, HX1.out.2.2.past qr (HSET.out _).2⟩, by simp [intOf]; omega⟩
            rcases List.mem_or_eq_of_mem_set hx with h | h
            · exact HX1.out.2.1 x h
            · exact ⟨_, h⟩
          · have hdj : decide ((j : Int) < (c.b.length : Int)) = false := by simp; omega
            go_wp2_with fail
            obtain ⟨hxl, -, hws⟩ := HX.out
            refine (doneW_any hws.rep (by omega)).mono ?_
            rintro e w5 ⟨va, rfl, hF⟩
            have hva := hF.val
            subst hva
            have hws5 := hws.kept (hF.kept.mono fun _ _ _ => trivial)
            have q5 : Kept (fun b => b < w.heap.size) w w5 := qr.trans (hF.kept.mono fun _ _ _ => trivial)
            have hg0 : w.heap.size ≤ wr.heap.size := qr.size
            have hft : ∀ x, wsFoot wb v' (.slice A' E.length c') (.slice Ax c.b.length cx) x → x < wr.heap.size := fun x hx => (hws.foot_lt x hx).1
            have hrd := hF.rd
            have hblk := hF.blk
            obtain ⟨g, hg⟩ : ∃ g, wr.heap.size = g := ⟨_, rfl⟩
            rw [hg] at hft hrd hblk hg0 ⊢
            have s1 := run_str26 hrd
            have s2 := run_str26 hws5.want.rd
            have hbe : ((str E).toList == (str E).toList) = true := beq_self_eq_true _
            have HFT := Lib.hid hft
            have HS5 := Lib.hid hws5
            have HB5 := Lib.hid hblk
            clear HX hws hws5 hF hft hrd hblk hg hxl qr
            go_wp2_with fail
            clear s1 s2 hbe
            go_loopw [12] (fun jv wr3 => ∃ (j : Nat) (cs : Array Value), jv = .int .i64 (j : Int) ∧ j ≤ E.length ∧ Hid (cs.size = E.length ∧ Blk wr3 g 5 cs ∧ WS wr3 w.heap.size wb v' (.slice A' E.length c') (.slice Ax c.b.length cx) E E xs) ∧ Kept (fun b => b < w.heap.size) w wr3)
              (fun jv _ => E.length - (intOf jv).toNat)
            case atStart => exact ⟨0, _, rfl, Nat.zero_le _, Lib.hid ⟨by rw [List.size_toArray, bc_length], HB5.out, HS5.out⟩, q5⟩
            case round =>
              clear HB5 HS5 q5
              obtain ⟨m, cs, rfl, hm, HX, qr⟩ := hrel
              by_cases hml : m < E.length
              · have hdm : decide ((m : Int) < (E.length : Int)) = true := by simp; omega
                obtain ⟨hcs, hblk, hws⟩ := HX.out
                have hfz := hblk.frozen m
                obtain ⟨x0, hcell⟩ : ∃ x0, wr.cell? ⟨g, m, none⟩ = some x0 := ⟨_, by rw [hblk.cell]; exact Array.getElem?_eq_getElem (by omega)⟩
                have hk1 : Kept (fun b => b ≠ g) wr (wr.setCell ⟨g, m, none⟩ (.int .u8 255)) := (Kept.refl _ _).setCell (fun _ hn => hn rfl) _
                have HN : Hid ((cs.setIfInBounds m (.int .u8 255)).size = E.length ∧ Blk (wr.setCell ⟨g, m, none⟩ (.int .u8 255)) g 5 (cs.setIfInBounds m (.int .u8 255)) ∧ WS (wr.setCell ⟨g, m, none⟩ (.int .u8 255)) w.heap.size wb v' (.slice A' E.length c') (.slice Ax c.b.length cx) E E xs) :=
                  Lib.hid ⟨by simpa using hcs, hblk.set_ m _, hws.kept (hk1.mono fun x _ hx => Nat.ne_of_lt (HFT.out x hx))⟩
                have qn : Kept (fun b => b < w.heap.size) w (wr.setCell ⟨g, m, none⟩ (.int .u8 255)) := qr.trans' hk1 fun x _ hx => by omega
                clear HX hcs hblk hws hk1
                go_wp2_with fail
                refine ⟨⟨m + 1, _, by go_num, by omega, HN, qn⟩, by simp [intOf]; omega⟩
              · have hdm : decide ((m : Int) < (E.length : Int)) = false := by simp; omega
                obtain ⟨hcs, hblk, hws⟩ := HX.out
                have hrow : Row1 wr w.heap.size 5 (.slice (some ⟨g, 0, none⟩) E.length E.length) cs.toList := .inr ⟨g, E.length, cs, by simp [hcs], hg0, hblk, by rw [Array.length_toList, hcs]; exact Nat.le_refl _, by omega, by unfold maxLen; omega, by rw [List.take_of_length_le (by simp)]⟩
                have k1 : Kept (fun _ => True) wr (wr.alloc (.cells #[.int .u8 255] 5)) := (Kept.refl _ wr).alloc _
                have hws1 := hws.kept (k1.mono fun _ _ _ => trivial)
                obtain ⟨v2, w7, hrun, hrow2, hk2, -⟩ := run_append_src (P := Try.prog) (t := 26) (ty := 26) (w := wr.alloc (.cells #[.int .u8 255] 5)) Try.underlying26 Try.info5 (hrow.alloc _) (Rd.of_blk (l := [255]) (off := 0) (cap := 1) (Blk.new wr 5 #[.int .u8 255]) (Nat.le_refl _) rfl)
                  (by rw [Array.length_toList, hcs, List.length_singleton]; omega) (by rw [World.size_alloc]; have := qr.size; omega)
                obtain ⟨A2, cc2, rfl⟩ := hrow2.form
                have el : (cs.toList ++ bc [255]).length = E.length + 1 := by rw [List.length_append, Array.length_toList, hcs, bc_length]; rfl
                rw [el] at hrun
                have hws7 := hws1.kept (hk2.mono fun x _ hx e => by
                  have := HFT.out x hx
                  simp only [Value.ownBlock, Option.some.injEq] at e
                  omega)
                have q7 : Kept (fun b => b < w.heap.size) w w7 := (qr.trans (k1.mono fun _ _ _ => trivial)).trans' hk2 fun x _ hx e => by
                  simp only [Value.ownBlock, Option.some.injEq] at e
                  omega
                have HRUN := Lib.hid hrun
                have HS7 := Lib.hid hws7
                clear HX hcs hblk hws hrow k1 hws1 hrun hrow2 hk2 el hws7 qr
                go_upto_region 34 with (at_builtin; refine wpList_append_run (by rfl) (.tmp 115) (.tmp 116) 26 (by rfl) (by rfl) (by rfl) HRUN.out ?_)
                have HWD := Lib.hid (HS7.out.kept (Kept.refl _ _).drew)
                have s4 := run_str26 HWD.out.want.rd
                have HQ := Lib.hid q7
                have hbe : ((str E).toList == (str E).toList) = true := beq_self_eq_true _
                have hwe : IntKind.i64.wrap ((E.length : Int) + 1) = (E.length : Int) + 1 := by rw [IntKind.wrap_i64]; omega
                have hne : ((E.length : Int) + 1 != (E.length : Int) + 1) = false := bne_self_eq_false _
                clear HRUN HS7 q7
                refine wp_region_any (by kernel_rfl) ?_
                change wpAny _ _ _ _ 14 _ _ (World.drew _)
                refine wpAny_take (i := 0) (v := (.pointer (some ⟨wb, 0, none⟩))) rfl (by kernel_rfl) (by kernel_rfl) (by kernel_rfl) (fun _ _ _ h => h) (Or.inl ⟨rfl, fun w => ?_⟩) ?_
                · go_simp
                simp only [Act.put, List.getElem_toArray, List.getElem_cons_zero, List.setIfInBounds_toArray, List.set_cons_zero, List.set_cons_succ]
                refine wpAny_take (i := 3) (v := (.slice A' E.length c')) rfl (by kernel_rfl) (by kernel_rfl) (by kernel_rfl) (fun _ _ _ h => h) (Or.inl ⟨rfl, fun w => ?_⟩) ?_
                · go_simp
                simp only [Act.put, List.getElem_toArray, List.getElem_cons_zero, List.getElem_cons_succ, List.setIfInBounds_toArray, List.set_cons_zero, List.set_cons_succ]
                repeat' first
                  | exact AllReady.nil
                  | (refine AllReady.cons rfl (fun K hK => ?_) ?_)
                  | (refine wpAny_ready (rs := [1, 4]) ?rdy ?mem ?_; (case rdy => decide +kernel); (case mem => simp))
                  | (refine wpAny_ready (rs := [2, 4]) ?rdy ?mem ?_; (case rdy => decide +kernel); (case mem => simp))
                  | (refine wpAny_ready (rs := [1]) ?rdy ?mem ?_; (case rdy => decide +kernel); (case mem => simp))
                  | (refine wpAny_ready (rs := [2]) ?rdy ?mem ?_; (case rdy => decide +kernel); (case mem => simp))
                  | (refine wpAny_ready (rs := [4]) ?rdy ?mem ?_; (case rdy => decide +kernel); (case mem => simp))
                  | ((try go_simp); go_at_call 14; refine (doneW_any HWD.out.rep (by omega)).mono ?_; rintro e8 w8 ⟨v8, rfl, hF8⟩; have hv8 := hF8.val; subst hv8; have s8 : (convert 26 9 (.slice (some ⟨w7.heap.size, 0, none⟩) E.length E.length)).run Try.prog w8 = .ok (.string (str E)) w8 := run_str26 hF8.rd; have s9 := run_str26 (HWD.out.want.rd.kept hF8.kept fun _ _ _ => trivial); have q8 := HQ.out.drew.trans (hF8.kept.mono fun _ _ _ => trivial); have H8 := Lib.hid (HWD.out.kept (hF8.kept.mono fun _ _ _ => trivial)); clear hF8; refine hK _ _ ?_; clear hK K)
                  | (go_simp; refine hK _ _ ?_; clear hK K)
                all_goals
                  refine wpAny_take (i := 5) (v := (.bool false)) rfl (by kernel_rfl) (by kernel_rfl) (by kernel_rfl) (fun _ _ _ h => h) (Or.inl ⟨rfl, fun w => ?_⟩) ?_
                  · go_simp
                  simp only [Act.put, List.getElem_toArray, List.getElem_cons_zero, List.getElem_cons_succ, List.setIfInBounds_toArray, List.set_cons_zero, List.set_cons_succ]
                  refine wpAny_take (i := 6) (v := (.bool false)) rfl (by kernel_rfl) (by kernel_rfl) (by kernel_rfl) (fun _ _ _ h => h) (Or.inl ⟨rfl, fun w => ?_⟩) ?_
                  · go_simp
                  simp only [Act.put, List.getElem_toArray, List.getElem_cons_zero, List.getElem_cons_succ, List.setIfInBounds_toArray, List.set_cons_zero, List.set_cons_succ]
                  refine wpAny_take (i := 7) (v := (.slice A2 (E.length + 1) cc2)) rfl (by kernel_rfl) (by kernel_rfl) (by kernel_rfl) (fun _ _ _ h => h) (Or.inl ⟨rfl, fun w => ?_⟩) ?_
                  · go_simp
                  simp only [Act.put, List.getElem_toArray, List.getElem_cons_zero, List.getElem_cons_succ, List.setIfInBounds_toArray, List.set_cons_zero, List.set_cons_succ]
                  refine wpAny_take (i := 9) (v := (.slice A' E.length c')) rfl (by kernel_rfl) (by kernel_rfl) (by kernel_rfl) (fun _ _ _ h => h) (Or.inl ⟨rfl, fun w => ?_⟩) ?_
                  · go_simp
                  simp only [Act.put, List.getElem_toArray, List.getElem_cons_zero, List.getElem_cons_succ, List.setIfInBounds_toArray, List.set_cons_zero, List.set_cons_succ]
                  refine wpAny_take (i := 8) (v := (.int .i64 ((E.length : Int) + 1))) rfl (by kernel_rfl) (by kernel_rfl) (by kernel_rfl) (fun _ _ _ h => h) (Or.inl ⟨rfl, fun w => ?_⟩) ?_
                  · go_simp
                  simp only [Act.put, List.getElem_toArray, List.getElem_cons_zero, List.getElem_cons_succ, List.setIfInBounds_toArray, List.set_cons_zero, List.set_cons_succ]
                  refine wpAny_take (i := 10) (v := (.int .i64 (E.length : Int))) rfl (by kernel_rfl) (by kernel_rfl) (by kernel_rfl) (fun _ _ _ h => h) (Or.inl ⟨rfl, fun w => ?_⟩) ?_
                  · go_simp
                  simp only [Act.put, List.getElem_toArray, List.getElem_cons_zero, List.getElem_cons_succ, List.setIfInBounds_toArray, List.set_cons_zero, List.set_cons_succ]
                  refine wpAny_take (i := 11) (v := (.int .i64 ((E.length : Int) + 1))) rfl (by kernel_rfl) (by kernel_rfl) (by kernel_rfl) (fun _ _ _ h => h) (Or.inl ⟨rfl, fun w => ?_⟩) ?_
                  · go_simp
                  simp only [Act.put, List.getElem_toArray, List.getElem_cons_zero, List.getElem_cons_succ, List.setIfInBounds_toArray, List.set_cons_zero, List.set_cons_succ]
                  refine wpAny_take (i := 12) (v := (.bool false)) rfl (by kernel_rfl) (by kernel_rfl) (by kernel_rfl) (fun _ _ _ h => h) (Or.inl ⟨rfl, fun w => ?_⟩) ?_
                  · go_simp
                  simp only [Act.put, List.getElem_toArray, List.getElem_cons_zero, List.getElem_cons_succ, List.setIfInBounds_toArray, List.set_cons_zero, List.set_cons_succ]
                  refine wpAny_take (i := 13) (v := (.bool false)) rfl (by kernel_rfl) (by kernel_rfl) (by kernel_rfl) (fun _ _ _ h => h) (Or.inl ⟨rfl, fun w => ?_⟩) ?_
                  · go_simp
                  simp only [Act.put, List.getElem_toArray, List.getElem_cons_zero, List.getElem_cons_succ, List.setIfInBounds_toArray, List.set_cons_zero, List.set_cons_succ]
                all_goals (refine wpAny_done ?_ ?_ _; (decide +kernel))
                all_goals go_wp2_with fail
                all_goals exact ⟨⟨k + 1, v', A', c', by go_num, by rw [HE.out], by omega, by rw [HE.out]; exact Lib.hid H8.out.ended, q8⟩, by simp [intOf]; omega⟩
    · have hd : decide ((k : Int) < (l.length : Int)) = false := by simp; omega
      go_wp2_with fail
      go_ret
      exact ⟨rfl, q⟩
end Ytglhkfiigbbpdaa
end Go.Proofs
