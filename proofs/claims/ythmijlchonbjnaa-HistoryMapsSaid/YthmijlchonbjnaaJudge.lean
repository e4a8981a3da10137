/-
  The rules: got, set; which is a call's.
-/
import Derived.Test.YthmijlchonbjnaaIdx
set_option maxHeartbeats 4000000
set_option maxRecDepth 100000
namespace Go.Proofs
open Go.RowKit
namespace Ythmijlchonbjnaa
attribute [local go_sem ↓] Go.wp_at_zero Go.wp_at_succ
def rcs (r : Int × Nat) : List Value := [.int .i64 r.1, .func (.func r.2) #[] #[]]
def rulesL : List (Int × Nat) := [(1, 16), (2, 17), (3, 17), (4, 18), (5, 19)]
theorem rules_rd {w : World} {rb : Nat} (h : Blk w rb 49 #[.int .i64 1, .func (.func 16) #[] #[], .int .i64 2, .func (.func 17) #[] #[], .int .i64 3, .func (.func 17) #[] #[], .int .i64 4, .func (.func 18) #[] #[], .int .i64 5, .func (.func 19) #[] #[]]) :
    RdK 2 rcs w (.slice (some ⟨rb, 0, none⟩) 5 5) rulesL := ⟨_, 5, rfl, Nat.le_refl _, fun i x hx => ⟨rb, 0, rfl, h.lt, fun j u hu => by
  have hi : i < 5 := (List.getElem?_eq_some_iff.1 hx).1
  have hj : j < 2 := by have := (List.getElem?_eq_some_iff.1 hu).1; simpa [rcs] using this
  rw [h.cell]
  match i, hi, j, hj with
  | 0, _, 0, _ => injection hx with hx; subst hx; exact hu
  | 0, _, 1, _ => injection hx with hx; subst hx; exact hu
  | 1, _, 0, _ => injection hx with hx; subst hx; exact hu
  | 1, _, 1, _ => injection hx with hx; subst hx; exact hu
  | 2, _, 0, _ => injection hx with hx; subst hx; exact hu
  | 2, _, 1, _ => injection hx with hx; subst hx; exact hu
  | 3, _, 0, _ => injection hx with hx; subst hx; exact hu
  | 3, _, 1, _ => injection hx with hx; subst hx; exact hu
  | 4, _, 0, _ => injection hx with hx; subst hx; exact hu
  | 4, _, 1, _ => injection hx with hx; subst hx; exact hu⟩⟩
theorem rule1_any (r : Int × Nat) (k : Int) (b : Nat) (w : World) (hb : w.cell? ⟨b, 1, none⟩ = some (.int .i64 k)) :
    Calls Try.prog 35 #[.agg (rcs r).toArray, .pointer (some ⟨b, 0, none⟩)] w fun e w' => e = .returned (.bool (r.1 == k)) ∧ Kept (fun _ => True) w w' := by
  have hb1 : (w.alloc (.cells (rcs r).toArray 49)).cell? ⟨b, 1, none⟩ = some (.int .i64 k) := ((Kept.refl _ w).alloc _).cellv hb
  unfold rcs at hb1 ⊢
  go_enter Try.func35, Try.ntmps35
  go_wp2_with fail
  go_ret
  exact ⟨rfl, (Kept.refl _ _).alloc _⟩
theorem indexRule_any (g : Nat) (lb : Array Value) (eg : ∀ args w, (callFunc g args).run Try.prog w = .ok (.enter g args) w) (p : Int × Nat → Bool) {A : Option Addr} {n c : Nat} {l : List (Int × Nat)} (w : World) (h : RdK 2 rcs w (.slice A n c) l) (hp : Pred g lb rcs p w) (hn : n ≤ 1000) :
    Calls Try.prog 34 #[.slice A n c, .func (.func g) #[] lb] w fun e w' => e = .returned (.int .i64 (idx p l)) ∧ Kept (fun _ => True) w w' := by
  have HL := Lib.hid h.len
  have HH := Lib.hid h
  have HP := Lib.hid hp
  clear h hp
  obtain ⟨r, hr⟩ : ∃ r, idx p l = r := ⟨_, rfl⟩
  rw [hr]
  have HR := Lib.hid hr
  clear hr
  go_enter Try.func34, Try.ntmps34
  go_wp2_with fail
  go_loopw [5, 8] (fun _ s8 wr => ∃ k : Nat, k ≤ n ∧ s8 = .int .i64 k ∧ Hid (Kept (fun _ => True) w wr) ∧ Hid (∀ j y, j < k → l[j]? = some y → p y = false)) (fun _ s8 _ => n - (intOf s8).toNat)
  case atStart => exact ⟨0, Nat.zero_le _, rfl, Lib.hid (Kept.refl _ _), Lib.hid fun j _ hj => absurd hj (Nat.not_lt_zero _)⟩
  case round =>
    obtain ⟨k, hk, rfl, BW, A1⟩ := hrel
    by_cases hlt : k < n
    · have hltz : (k : Int) < (n : Int) := by omega
      obtain ⟨x, hx⟩ : ∃ x, l[k]? = some x := ⟨_, List.getElem?_eq_getElem (by have := HL.out; omega)⟩
      obtain ⟨b, off, rfl, hb, hc, hcell⟩ := (HH.out.all BW.out).at_ hx
      have c0 : wr.cell? ⟨b, off + k * 2, none⟩ = _ := hcell 0 _ rfl
      have c1 := hcell 1 _ rfl
      have hcall := HP.out wr x BW.out
      have HX := Lib.hid hx
      unfold rcs at hcall
      clear hx hcell
      cases hq : p x with
      | true =>
        rw [hq] at hcall
        have HQ := Lib.hid hq
        clear hq
        go_wp2_with (go_at_fn g; refine hcall.mono ?_; rintro e w' ⟨rfl, hb'⟩)
        go_ret
        refine ⟨?_, BW.out.trans hb'⟩
        rw [← HR.out, idx_hit HX.out HQ.out A1.out]
        rfl
      | false =>
        rw [hq] at hcall
        have HQ := Lib.hid hq
        clear hq
        go_wp2_with (go_at_fn g; refine hcall.mono ?_; rintro e w' ⟨rfl, hb'⟩)
        go_roundw
        case measure => simp [intOf]; omega
        case rel =>
          refine ⟨k + 1, by omega, by simp, Lib.hid (BW.out.trans hb'), Lib.hid fun j y hj hy => ?_⟩
          by_cases e : j = k
          · subst e
            have := HX.out
            rw [hy] at this
            injection this with this
            rw [this]
            exact HQ.out
          · exact A1.out j y (by omega) hy
    · have hltz : ¬ (k : Int) < (n : Int) := by omega
      have hkn : n ≤ k := by omega
      have HK := Lib.hid hkn
      clear hkn
      go_wp2_with fail
      go_ret
      refine ⟨?_, BW.out⟩
      rw [← HR.out, idx_miss fun j y hy => A1.out j y (by have := (List.getElem?_eq_some_iff.1 hy).1; have := HL.out; have := HK.out; omega) hy]
      rfl
/-- The place of a kind's rule. -/
theorem ruleAt_any (k : Int) (hk : k = 1 ∨ k = 2 ∨ k = 3) (b : Nat) {w : World} {rb : Nat} (hb : w.cell? ⟨b, 1, none⟩ = some (.int .i64 k)) (h : Blk w rb 49 #[.int .i64 1, .func (.func 16) #[] #[], .int .i64 2, .func (.func 17) #[] #[], .int .i64 3, .func (.func 17) #[] #[], .int .i64 4, .func (.func 18) #[] #[], .int .i64 5, .func (.func 19) #[] #[]]) :
    Calls Try.prog 34 #[.slice (some ⟨rb, 0, none⟩) 5 5, .func (.func 35) #[] #[.pointer (some ⟨b, 0, none⟩)]] w fun e w' => e = .returned (.int .i64 (k - 1)) ∧ Kept (fun _ => True) w w' := by
  have := indexRule_any 35 #[.pointer (some ⟨b, 0, none⟩)] (enters_of Try.func35 (by kernel_rfl) rfl) (fun r => r.1 == k) w (rules_rd h) (fun W r hW => rule1_any r k b W (hW.cellv hb)) (by omega)
  have he : idx (fun r : Int × Nat => r.1 == k) rulesL = k - 1 := by
    rcases hk with rfl | rfl | rfl <;> decide
  rwa [he] at this
/-- A Put or Delete. -/
theorem set_any (g : Value) (x : PC) (tt to2 : Int) (a : Ans) (e : Nat) (hf : x.fin = some (e, a, tt)) {w : World} (he : Blk w e 63 (ecs a tt)) :
    Calls Try.prog 17 #[g, .agg (pcs x).toArray, .int .i64 to2] w fun e w' => e = .returned (.bool (a.no == x.eff)) ∧ Kept (fun _ => True) w w' := by
  have hp : ptr x.fin = some ⟨e, 0, none⟩ := by rw [hf]; rfl
  obtain ⟨w1, hw1⟩ : ∃ w1, w.alloc (.cells (pcs x).toArray 52) = w1 := ⟨_, rfl⟩
  have k1 : Kept (fun _ => True) w w1 := hw1 ▸ (Kept.refl _ w).alloc _
  have b1 : Blk w1 w.heap.size 52 (pcs x).toArray := hw1 ▸ Blk.new w 52 _
  have e3 : w1.cell? ⟨e, 3, none⟩ = some (.int .i64 a.no) := (he.kept k1 trivial).cell 3
  have x7 : w1.cell? ⟨w.heap.size, 7, none⟩ = some (.int .i64 x.eff) := b1.cell 7
  have x8 : w1.cell? ⟨w.heap.size, 8, none⟩ = some (.pointer (ptr x.fin)) := b1.cell 8
  rw [hp] at x8
  unfold pcs at hw1 ⊢
  clear b1 he
  simp only [hp] at hw1 ⊢
  clear hp hf
  go_enter Try.func17, Try.ntmps17
  go_upto_region 1 with fail
  go_region
  all_goals go_wp2_with fail
  all_goals go_ret
  all_goals exact ⟨rfl, k1.drew⟩
def gotF (us : List Item) (x : PC) (a : Ans) (to2 : Int) : Bool := decide (x.from_ ≤ a.no) && (decide (a.no ≤ to2) && (a.is == (behindF us x.c.key a.no).2 && a.val.toList == (behindF us x.c.key a.no).1.val.toList))
def zit : Array Value := #[.string ⟨#[]⟩, .string ⟨#[]⟩, .int .i64 0, .bool false]
theorem alloc33 {W : World} {b : Nat} (hs : Hid (b ≤ W.heap.size)) : ∃ gl W', W.alloc (.cells zit 33) = W' ∧ W.heap.size = gl ∧ Hid (b ≤ gl) ∧ Hid (Blk W' gl 33 zit) ∧ Kept (fun _ => True) W W' :=
  ⟨_, _, rfl, rfl, hs, Lib.hid (Blk.new W 33 zit), (Kept.refl _ W).alloc _⟩
theorem alloc33d {W : World} {b : Nat} (hs : Hid (b ≤ (World.drew W).heap.size)) : ∃ gl W', (W.alloc (.cells zit 33)).drew = W' ∧ W.heap.size = gl ∧ Hid (b ≤ gl) ∧ Hid (Blk W' gl 33 zit) ∧ Kept (fun _ => True) (World.drew W) W' :=
  ⟨_, _, rfl, rfl, hs, Lib.hid (Blk.new W 33 zit).drew, ((Kept.refl _ (World.drew W)).alloc _)⟩
/-- A Get. -/
theorem got_any {w : World} {base g c rb : Nat} {A : Option Addr} {l : List PC} {now : Int} (h : HRep w base g A c rb l now) (hn : l.length ≤ 1000) (x : PC) (tt to2 : Int) (a : Ans) (e : Nat) (hf : x.fin = some (e, a, tt)) (he : Blk w e 63 (ecs a tt)) :
    Calls Try.prog 16 #[.pointer (some ⟨g, 0, none⟩), .agg (pcs x).toArray, .int .i64 to2] w fun e w' => e = .returned (.bool (gotF (updF l) x a to2)) ∧ Kept (fun _ => True) w w' := by
  have hp : ptr x.fin = some ⟨e, 0, none⟩ := by rw [hf]; rfl
  have hul := updF_len l
  obtain ⟨us, hus⟩ : ∃ us, updF l = us := ⟨_, rfl⟩
  have hU : ∀ W, Kept (fun _ => True) w W → Calls Try.prog 20 #[.pointer (some ⟨g, 0, none⟩)] W fun e w' => ∃ B d, e = .returned (.slice B us.length d) ∧ Hid (ItO w' W.heap.size (.slice B us.length d) us) ∧ Kept (fun _ => True) W w' := fun W hW => by
    have := updates_any (h.all hW) hn
    rwa [hus] at this
  have hB : ∀ W B d, Hid (ItO W 0 (.slice B us.length d) us) → Calls Try.prog 22 #[.slice B us.length d, .string x.c.key, .int .i64 a.no] W fun e w' => e = .returned (.tuple #[.agg (ics (behindF us x.c.key a.no).1).toArray, .bool (behindF us x.c.key a.no).2]) ∧ Kept (fun _ => True) W w' := fun W B d hR =>
    behind_any us x.c.key a.no W (hR.out.rd encI) (by rw [← hus]; omega)
  have hgot : gotF (updF l) x a to2 = (decide (x.from_ ≤ a.no) && (decide (a.no ≤ to2) && (a.is == (behindF us x.c.key a.no).2 && a.val.toList == (behindF us x.c.key a.no).1.val.toList))) := by unfold gotF; rw [hus]
  rw [hgot]
  clear hgot h hus hul
  generalize behindF us x.c.key a.no = r at hB ⊢
  obtain ⟨⟨yk, yv, yn, yg⟩, is⟩ := r
  simp only [ics] at hB ⊢
  generalize us.length = n at hU hB
  obtain ⟨w1, hw1⟩ : ∃ w1, (w.alloc (.cells (pcs x).toArray 52)).alloc (.cells (acs a).toArray 31) = w1 := ⟨_, rfl⟩
  have k1 : Kept (fun _ => True) w w1 := hw1 ▸ ((Kept.refl _ w).alloc _).alloc _
  have hbx := (Blk.new w 52 (pcs x).toArray).alloc (.cells (acs a).toArray 31)
  have hba : Blk w1 (w.heap.size + 1) 31 (acs a).toArray := by
    have := Blk.new (w.alloc (.cells (pcs x).toArray 52)) 31 (acs a).toArray
    rw [hw1] at this
    simpa using this
  rw [hw1] at hbx
  have he0 := he.alloc (.cells (pcs x).toArray 52)
  obtain ⟨⟨xc, xk, xy, xv, xf, xm⟩, fr, ef, fi⟩ := x
  simp only [pcs, hp] at hw1 hbx he0 ⊢
  obtain ⟨ae, ai, av, an⟩ := a
  simp only [acs] at hw1 hba
  simp only [ecs] at he0
  simp only at hB ⊢
  have q0 := he0.cell 0
  have q1 := he0.cell 1
  have q2 := he0.cell 2
  have q3 := he0.cell 3
  have q4 := he0.cell 4
  have BX := Lib.hid hbx
  have BA := Lib.hid hba
  have KW := Lib.hid k1
  clear hp hf he he0 hbx hba k1
  rw [← hw1] at BX BA KW
  clear hw1
  go_enter Try.func16, Try.ntmps16
  go_upto_region 2 with fail
  clear q0 q1 q2 q3 q4
  generalize (w.alloc (.cells #[.int .i64 xc, .int .i64 xk, .string xy, .string xv, .string xf, .int .i64 xm, .int .i64 fr, .int .i64 ef, .pointer (some ⟨e, 0, none⟩)] 52)).alloc (.cells #[.int .i64 ae, .bool ai, .string av, .int .i64 an, .slice none 0 0] 31) = w1 at KW BX BA ⊢
  go_cut [8, 9] (fun s8 s9 wx => ∃ gl : Nat, s8 = .pointer (some ⟨gl, 0, none⟩) ∧ s9 = .bool is ∧ Hid (Blk wx gl 33 #[.string yk, .string yv, .int .i64 yn, .bool yg]) ∧ Hid (Kept (fun _ => True) w wx) ∧
    Hid (Blk wx w.heap.size 52 #[.int .i64 xc, .int .i64 xk, .string xy, .string xv, .string xf, .int .i64 xm, .int .i64 fr, .int .i64 ef, .pointer (some ⟨e, 0, none⟩)]) ∧ Hid (Blk wx (w.heap.size + 1) 31 #[.int .i64 ae, .bool ai, .string av, .int .i64 an, .slice none 0 0]))
  case first =>
    have HS : Hid (w.heap.size ≤ (World.drew w1).heap.size) := Lib.hid KW.out.size
    have hk := (Kept.refl (fun _ => True) w1).drew
    replace KW := KeptH.go KW hk
    replace BX := BlkH.go BX hk
    replace BA := BlkH.go BA hk
    clear hk
    refine wp_region_held_drew (S := (fun W => W.cell? ⟨w.heap.size, 2, none⟩ = some (.string xy) ∧ W.cell? ⟨w.heap.size + 1, 3, none⟩ = some (.int .i64 an))) (by kernel_rfl) ?_ (fun hHeld => ?_)
    · exact ⟨BX.out.cell 2, BA.out.cell 3⟩
    refine wpAnyH_take (i := 0) (v := ?vz1) rfl (by kernel_rfl) (by kernel_rfl) (by kernel_rfl) (fun _ _ _ h => h) (Or.inl ⟨?wz1, ?yz1⟩) (by assumption) ?rz1
    case yz1 => (intro w hSw; (try dsimp only at hSw); go_simp; try with_reducible rfl)
    case wz1 => rfl
    case' rz1 => simp only [Act.put, List.getElem_toArray, List.getElem_cons_zero, List.setIfInBounds_toArray, List.set_cons_zero, List.set_cons_succ]
    refine wpAnyH_take (i := 2) (v := ?vz2) rfl (by kernel_rfl) (by kernel_rfl) (by kernel_rfl) (fun _ _ _ h => h) (Or.inl ⟨?wz2, ?yz2⟩) (by assumption) ?rz2
    case yz2 => (intro w hSw; (try dsimp only at hSw); go_simp; try with_reducible rfl)
    case wz2 => rfl
    case' rz2 => simp only [Act.put, List.getElem_toArray, List.getElem_cons_zero, List.getElem_cons_succ, List.setIfInBounds_toArray, List.set_cons_zero, List.set_cons_succ]
    refine wpAnyH_take (i := 3) (v := ?vz3) rfl (by kernel_rfl) (by kernel_rfl) (by kernel_rfl) (fun _ _ _ h => h) (Or.inl ⟨?wz3, ?yz3⟩) (by assumption) ?rz3
    case yz3 => (intro w hSw; (try dsimp only at hSw); go_simp; try with_reducible rfl)
    case wz3 => rfl
    case' rz3 => simp only [Act.put, List.getElem_toArray, List.getElem_cons_zero, List.getElem_cons_succ, List.setIfInBounds_toArray, List.set_cons_zero, List.set_cons_succ]
    refine wpAnyH_take (i := 4) (v := ?vz4) rfl (by kernel_rfl) (by kernel_rfl) (by kernel_rfl) (fun _ _ _ h => h) (Or.inl ⟨?wz4, ?yz4⟩) (by assumption) ?rz4
    case yz4 => (intro w hSw; (try dsimp only at hSw); go_simp; try with_reducible rfl)
    case wz4 => rfl
    case' rz4 => simp only [Act.put, List.getElem_toArray, List.getElem_cons_zero, List.getElem_cons_succ, List.setIfInBounds_toArray, List.set_cons_zero, List.set_cons_succ]
    refine wpAnyH_take (i := 5) (v := ?vz5) rfl (by kernel_rfl) (by kernel_rfl) (by kernel_rfl) (fun _ _ _ h => h) (Or.inl ⟨?wz5, ?yz5⟩) (by assumption) ?rz5
    case yz5 => (intro w hSw; (try dsimp only at hSw); go_simp; try with_reducible rfl)
    case wz5 => rfl
    case' rz5 => simp only [Act.put, List.getElem_toArray, List.getElem_cons_zero, List.getElem_cons_succ, List.setIfInBounds_toArray, List.set_cons_zero, List.set_cons_succ]
    refine wpAnyH_take (i := 6) (v := ?vz6) rfl (by kernel_rfl) (by kernel_rfl) (by kernel_rfl) (fun _ _ _ h => h) (Or.inl ⟨?wz6, ?yz6⟩) (by assumption) ?rz6
    case yz6 => (intro w hSw; (try dsimp only at hSw); go_simp; try with_reducible rfl)
    case wz6 => rfl
    case' rz6 => simp only [Act.put, List.getElem_toArray, List.getElem_cons_zero, List.getElem_cons_succ, List.setIfInBounds_toArray, List.set_cons_zero, List.set_cons_succ]
    refine wpAnyH_ready (rs := [1, 11]) (by kernel_rfl) (by simp) ?_
    refine AllReadyH.cons rfl (fun K hK => ?_) ?_
    · skip
      try go_simp
      (go_at_call 20; refine (hU _ KW.out).mono ?_; rintro e wn ⟨B, d, rfl, RU, hk⟩; replace KW := KeptH.go KW hk; replace BX := BlkH.go BX hk; replace BA := BlkH.go BA hk; replace HS := SzH.go HS hk; replace RU := Lib.hid (RU.out.low (Nat.zero_le _)); (try replace HL := BlkH.go HL hk); clear hk)
      try go_simp
      refine hK.out _ _ ?_ (fun hHeld => ?_)
      · exact ⟨BX.out.cell 2, BA.out.cell 3⟩
      clear hK K
      try simp only [Act.put, List.getElem_toArray, List.getElem_cons_zero, List.getElem_cons_succ, List.setIfInBounds_toArray, List.set_cons_zero, List.set_cons_succ]
      refine wpAnyH_ready (rs := [7, 11]) (by kernel_rfl) (by simp) ?_
      refine AllReadyH.cons rfl (fun K hK => ?_) ?_
      · skip
        try go_simp
        (go_at_call 22; refine (hB _ _ _ RU).mono ?_; rintro e wn ⟨rfl, hk⟩; replace KW := KeptH.go KW hk; replace BX := BlkH.go BX hk; replace BA := BlkH.go BA hk; replace HS := SzH.go HS hk; (try replace HL := BlkH.go HL hk); clear hk)
        try go_simp
        refine hK.out _ _ ?_ (fun hHeld => ?_)
        · exact ⟨BX.out.cell 2, BA.out.cell 3⟩
        clear hK K
        try simp only [Act.put, List.getElem_toArray, List.getElem_cons_zero, List.getElem_cons_succ, List.setIfInBounds_toArray, List.set_cons_zero, List.set_cons_succ]
        refine wpAnyH_take (i := 8) (v := ?vz7) rfl (by kernel_rfl) (by kernel_rfl) (by kernel_rfl) (fun _ _ _ h => h) (Or.inl ⟨?wz7, ?yz7⟩) (by assumption) ?rz7
        case yz7 => (intro w hSw; (try dsimp only at hSw); go_simp; try with_reducible rfl)
        case wz7 => rfl
        case' rz7 => simp only [Act.put, List.getElem_toArray, List.getElem_cons_zero, List.getElem_cons_succ, List.setIfInBounds_toArray, List.set_cons_zero, List.set_cons_succ]
        refine wpAnyH_take (i := 9) (v := ?vz8) rfl (by kernel_rfl) (by kernel_rfl) (by kernel_rfl) (fun _ _ _ h => h) (Or.inl ⟨?wz8, ?yz8⟩) (by assumption) ?rz8
        case yz8 => (intro w hSw; (try dsimp only at hSw); go_simp; try with_reducible rfl)
        case wz8 => rfl
        case' rz8 => simp only [Act.put, List.getElem_toArray, List.getElem_cons_zero, List.getElem_cons_succ, List.setIfInBounds_toArray, List.set_cons_zero, List.set_cons_succ]
        refine wpAnyH_take (i := 10) (v := ?vz9) rfl (by kernel_rfl) (by kernel_rfl) (by kernel_rfl) (fun _ _ _ h => h) (Or.inl ⟨?wz9, ?yz9⟩) (by assumption) ?rz9
        case yz9 => (intro w hSw; (try dsimp only at hSw); go_simp; try with_reducible rfl)
        case wz9 => rfl
        case' rz9 => simp only [Act.put, List.getElem_toArray, List.getElem_cons_zero, List.getElem_cons_succ, List.setIfInBounds_toArray, List.set_cons_zero, List.set_cons_succ]
        refine wpAnyH_ready (rs := [11]) (by kernel_rfl) (by simp) ?_
        refine AllReadyH.cons rfl (fun K hK => ?_) AllReadyH.nil
        (go_simp; first | (obtain ⟨gl, wn, hw, hg, HGL, HL, hk⟩ := alloc33 HS; simp only [zit] at hw HL; rw [hw, hg]; clear hw hg; replace KW := KeptH.go KW hk; replace BX := BlkH.go BX hk; replace BA := BlkH.go BA hk; (try replace RU := RowH.go RU hk); replace HS := SzH.go HS hk; clear hk) | (obtain ⟨gl, wn, hw, hg, HGL, HL, hk⟩ := alloc33d HS; simp only [zit] at hw HL; rw [hw, hg]; clear hw hg; replace KW := KeptH.go KW hk; replace BX := BlkH.go BX hk; replace BA := BlkH.go BA hk; (try replace RU := RowH.go RU hk); replace HS := SzH.go HS hk; clear hk))
        refine hK.out _ _ ?_ (fun hHeld => ?_)
        · exact ⟨BX.out.cell 2, BA.out.cell 3⟩
        clear hK K
        try simp only [Act.put, List.getElem_toArray, List.getElem_cons_zero, List.getElem_cons_succ, List.setIfInBounds_toArray, List.set_cons_zero, List.set_cons_succ]
        refine wpAnyH_ready (rs := [12]) (by kernel_rfl) (by simp) ?_
        refine AllReadyH.cons rfl (fun K hK => ?_) AllReadyH.nil
        (have cc0 := HL.out.cell 0; have cc1 := HL.out.cell 1; have cc2 := HL.out.cell 2; have cc3 := HL.out.cell 3; have ff0 := HL.out.frozen 0; have ff1 := HL.out.frozen 1; have ff2 := HL.out.frozen 2; have ff3 := HL.out.frozen 3; obtain ⟨wn, hw, HL2, hk⟩ := set4_step HL.out (.string yk) (.string yv) (.int .i64 yn) (.bool yg); go_simp; clear hw cc0 cc1 cc2 cc3 ff0 ff1 ff2 ff3; replace KW := KeptH.far KW hk HGL.out; replace BX := BlkH.far BX hk (Blk.ne_ BX.out HL.out (by decide)); replace BA := BlkH.far BA hk (Blk.ne_ BA.out HL.out (by decide)); replace HL := Lib.hid HL2; clear hk HL2)
        refine hK.out _ _ ?_ (fun hHeld => ?_)
        · exact ⟨BX.out.cell 2, BA.out.cell 3⟩
        clear hK K
        try simp only [Act.put, List.getElem_toArray, List.getElem_cons_zero, List.getElem_cons_succ, List.setIfInBounds_toArray, List.set_cons_zero, List.set_cons_succ]
        refine wpAnyH_take (i := 13) (v := ?vz10) rfl (by kernel_rfl) (by kernel_rfl) (by kernel_rfl) (fun _ _ _ h => h) (Or.inl ⟨?wz10, ?yz10⟩) (by assumption) ?rz10
        case yz10 => (intro w hSw; (try dsimp only at hSw); go_simp; try with_reducible rfl)
        case wz10 => rfl
        case' rz10 => simp only [Act.put, List.getElem_toArray, List.getElem_cons_zero, List.getElem_cons_succ, List.setIfInBounds_toArray, List.set_cons_zero, List.set_cons_succ]
        refine wpAnyH_done (by kernel_rfl) ?_ _
        go_wp2_with fail
        go_meet
        case rel => exact ⟨gl, rfl, rfl, HL, KW, BX, BA⟩
      refine AllReadyH.cons rfl (fun K hK => ?_) AllReadyH.nil
      (go_simp; first | (obtain ⟨gl, wn, hw, hg, HGL, HL, hk⟩ := alloc33 HS; simp only [zit] at hw HL; rw [hw, hg]; clear hw hg; replace KW := KeptH.go KW hk; replace BX := BlkH.go BX hk; replace BA := BlkH.go BA hk; (try replace RU := RowH.go RU hk); replace HS := SzH.go HS hk; clear hk) | (obtain ⟨gl, wn, hw, hg, HGL, HL, hk⟩ := alloc33d HS; simp only [zit] at hw HL; rw [hw, hg]; clear hw hg; replace KW := KeptH.go KW hk; replace BX := BlkH.go BX hk; replace BA := BlkH.go BA hk; (try replace RU := RowH.go RU hk); replace HS := SzH.go HS hk; clear hk))
      refine hK.out _ _ ?_ (fun hHeld => ?_)
      · exact ⟨BX.out.cell 2, BA.out.cell 3⟩
      clear hK K
      try simp only [Act.put, List.getElem_toArray, List.getElem_cons_zero, List.getElem_cons_succ, List.setIfInBounds_toArray, List.set_cons_zero, List.set_cons_succ]
      refine wpAnyH_ready (rs := [7]) (by kernel_rfl) (by simp) ?_
      refine AllReadyH.cons rfl (fun K hK => ?_) AllReadyH.nil
      try go_simp
      (go_at_call 22; refine (hB _ _ _ RU).mono ?_; rintro e wn ⟨rfl, hk⟩; replace KW := KeptH.go KW hk; replace BX := BlkH.go BX hk; replace BA := BlkH.go BA hk; replace HS := SzH.go HS hk; (try replace HL := BlkH.go HL hk); clear hk)
      try go_simp
      refine hK.out _ _ ?_ (fun hHeld => ?_)
      · exact ⟨BX.out.cell 2, BA.out.cell 3⟩
      clear hK K
      try simp only [Act.put, List.getElem_toArray, List.getElem_cons_zero, List.getElem_cons_succ, List.setIfInBounds_toArray, List.set_cons_zero, List.set_cons_succ]
      refine wpAnyH_take (i := 8) (v := ?vz11) rfl (by kernel_rfl) (by kernel_rfl) (by kernel_rfl) (fun _ _ _ h => h) (Or.inl ⟨?wz11, ?yz11⟩) (by assumption) ?rz11
      case yz11 => (intro w hSw; (try dsimp only at hSw); go_simp; try with_reducible rfl)
      case wz11 => rfl
      case' rz11 => simp only [Act.put, List.getElem_toArray, List.getElem_cons_zero, List.getElem_cons_succ, List.setIfInBounds_toArray, List.set_cons_zero, List.set_cons_succ]
      refine wpAnyH_take (i := 9) (v := ?vz12) rfl (by kernel_rfl) (by kernel_rfl) (by kernel_rfl) (fun _ _ _ h => h) (Or.inl ⟨?wz12, ?yz12⟩) (by assumption) ?rz12
      case yz12 => (intro w hSw; (try dsimp only at hSw); go_simp; try with_reducible rfl)
      case wz12 => rfl
      case' rz12 => simp only [Act.put, List.getElem_toArray, List.getElem_cons_zero, List.getElem_cons_succ, List.setIfInBounds_toArray, List.set_cons_zero, List.set_cons_succ]
      refine wpAnyH_take (i := 10) (v := ?vz13) rfl (by kernel_rfl) (by kernel_rfl) (by kernel_rfl) (fun _ _ _ h => h) (Or.inl ⟨?wz13, ?yz13⟩) (by assumption) ?rz13
      case yz13 => (intro w hSw; (try dsimp only at hSw); go_simp; try with_reducible rfl)
      case wz13 => rfl
      case' rz13 => simp only [Act.put, List.getElem_toArray, List.getElem_cons_zero, List.getElem_cons_succ, List.setIfInBounds_toArray, List.set_cons_zero, List.set_cons_succ]
      refine wpAnyH_ready (rs := [12]) (by kernel_rfl) (by simp) ?_
      refine AllReadyH.cons rfl (fun K hK => ?_) AllReadyH.nil
      (have cc0 := HL.out.cell 0; have cc1 := HL.out.cell 1; have cc2 := HL.out.cell 2; have cc3 := HL.out.cell 3; have ff0 := HL.out.frozen 0; have ff1 := HL.out.frozen 1; have ff2 := HL.out.frozen 2; have ff3 := HL.out.frozen 3; obtain ⟨wn, hw, HL2, hk⟩ := set4_step HL.out (.string yk) (.string yv) (.int .i64 yn) (.bool yg); go_simp; clear hw cc0 cc1 cc2 cc3 ff0 ff1 ff2 ff3; replace KW := KeptH.far KW hk HGL.out; replace BX := BlkH.far BX hk (Blk.ne_ BX.out HL.out (by decide)); replace BA := BlkH.far BA hk (Blk.ne_ BA.out HL.out (by decide)); replace HL := Lib.hid HL2; clear hk HL2)
      refine hK.out _ _ ?_ (fun hHeld => ?_)
      · exact ⟨BX.out.cell 2, BA.out.cell 3⟩
      clear hK K
      try simp only [Act.put, List.getElem_toArray, List.getElem_cons_zero, List.getElem_cons_succ, List.setIfInBounds_toArray, List.set_cons_zero, List.set_cons_succ]
      refine wpAnyH_take (i := 13) (v := ?vz14) rfl (by kernel_rfl) (by kernel_rfl) (by kernel_rfl) (fun _ _ _ h => h) (Or.inl ⟨?wz14, ?yz14⟩) (by assumption) ?rz14
      case yz14 => (intro w hSw; (try dsimp only at hSw); go_simp; try with_reducible rfl)
      case wz14 => rfl
      case' rz14 => simp only [Act.put, List.getElem_toArray, List.getElem_cons_zero, List.getElem_cons_succ, List.setIfInBounds_toArray, List.set_cons_zero, List.set_cons_succ]
      refine wpAnyH_done (by kernel_rfl) ?_ _
      go_wp2_with fail
      go_meet
      case rel => exact ⟨gl, rfl, rfl, HL, KW, BX, BA⟩
    refine AllReadyH.cons rfl (fun K hK => ?_) AllReadyH.nil
    (go_simp; first | (obtain ⟨gl, wn, hw, hg, HGL, HL, hk⟩ := alloc33 HS; simp only [zit] at hw HL; rw [hw, hg]; clear hw hg; replace KW := KeptH.go KW hk; replace BX := BlkH.go BX hk; replace BA := BlkH.go BA hk; (try replace RU := RowH.go RU hk); replace HS := SzH.go HS hk; clear hk) | (obtain ⟨gl, wn, hw, hg, HGL, HL, hk⟩ := alloc33d HS; simp only [zit] at hw HL; rw [hw, hg]; clear hw hg; replace KW := KeptH.go KW hk; replace BX := BlkH.go BX hk; replace BA := BlkH.go BA hk; (try replace RU := RowH.go RU hk); replace HS := SzH.go HS hk; clear hk))
    refine hK.out _ _ ?_ (fun hHeld => ?_)
    · exact ⟨BX.out.cell 2, BA.out.cell 3⟩
    clear hK K
    try simp only [Act.put, List.getElem_toArray, List.getElem_cons_zero, List.getElem_cons_succ, List.setIfInBounds_toArray, List.set_cons_zero, List.set_cons_succ]
    refine wpAnyH_ready (rs := [1]) (by kernel_rfl) (by simp) ?_
    refine AllReadyH.cons rfl (fun K hK => ?_) AllReadyH.nil
    try go_simp
    (go_at_call 20; refine (hU _ KW.out).mono ?_; rintro e wn ⟨B, d, rfl, RU, hk⟩; replace KW := KeptH.go KW hk; replace BX := BlkH.go BX hk; replace BA := BlkH.go BA hk; replace HS := SzH.go HS hk; replace RU := Lib.hid (RU.out.low (Nat.zero_le _)); (try replace HL := BlkH.go HL hk); clear hk)
    try go_simp
    refine hK.out _ _ ?_ (fun hHeld => ?_)
    · exact ⟨BX.out.cell 2, BA.out.cell 3⟩
    clear hK K
    try simp only [Act.put, List.getElem_toArray, List.getElem_cons_zero, List.getElem_cons_succ, List.setIfInBounds_toArray, List.set_cons_zero, List.set_cons_succ]
    refine wpAnyH_ready (rs := [7]) (by kernel_rfl) (by simp) ?_
    refine AllReadyH.cons rfl (fun K hK => ?_) AllReadyH.nil
    try go_simp
    (go_at_call 22; refine (hB _ _ _ RU).mono ?_; rintro e wn ⟨rfl, hk⟩; replace KW := KeptH.go KW hk; replace BX := BlkH.go BX hk; replace BA := BlkH.go BA hk; replace HS := SzH.go HS hk; (try replace HL := BlkH.go HL hk); clear hk)
    try go_simp
    refine hK.out _ _ ?_ (fun hHeld => ?_)
    · exact ⟨BX.out.cell 2, BA.out.cell 3⟩
    clear hK K
    try simp only [Act.put, List.getElem_toArray, List.getElem_cons_zero, List.getElem_cons_succ, List.setIfInBounds_toArray, List.set_cons_zero, List.set_cons_succ]
    refine wpAnyH_take (i := 8) (v := ?vz15) rfl (by kernel_rfl) (by kernel_rfl) (by kernel_rfl) (fun _ _ _ h => h) (Or.inl ⟨?wz15, ?yz15⟩) (by assumption) ?rz15
    case yz15 => (intro w hSw; (try dsimp only at hSw); go_simp; try with_reducible rfl)
    case wz15 => rfl
    case' rz15 => simp only [Act.put, List.getElem_toArray, List.getElem_cons_zero, List.getElem_cons_succ, List.setIfInBounds_toArray, List.set_cons_zero, List.set_cons_succ]
    refine wpAnyH_take (i := 9) (v := ?vz16) rfl (by kernel_rfl) (by kernel_rfl) (by kernel_rfl) (fun _ _ _ h => h) (Or.inl ⟨?wz16, ?yz16⟩) (by assumption) ?rz16
    case yz16 => (intro w hSw; (try dsimp only at hSw); go_simp; try with_reducible rfl)
    case wz16 => rfl
    case' rz16 => simp only [Act.put, List.getElem_toArray, List.getElem_cons_zero, List.getElem_cons_succ, List.setIfInBounds_toArray, List.set_cons_zero, List.set_cons_succ]
    refine wpAnyH_take (i := 10) (v := ?vz17) rfl (by kernel_rfl) (by kernel_rfl) (by kernel_rfl) (fun _ _ _ h => h) (Or.inl ⟨?wz17, ?yz17⟩) (by assumption) ?rz17
    case yz17 => (intro w hSw; (try dsimp only at hSw); go_simp; try with_reducible rfl)
    case wz17 => rfl
    case' rz17 => simp only [Act.put, List.getElem_toArray, List.getElem_cons_zero, List.getElem_cons_succ, List.setIfInBounds_toArray, List.set_cons_zero, List.set_cons_succ]
    refine wpAnyH_ready (rs := [12]) (by kernel_rfl) (by simp) ?_
    refine AllReadyH.cons rfl (fun K hK => ?_) AllReadyH.nil
    (have cc0 := HL.out.cell 0; have cc1 := HL.out.cell 1; have cc2 := HL.out.cell 2; have cc3 := HL.out.cell 3; have ff0 := HL.out.frozen 0; have ff1 := HL.out.frozen 1; have ff2 := HL.out.frozen 2; have ff3 := HL.out.frozen 3; obtain ⟨wn, hw, HL2, hk⟩ := set4_step HL.out (.string yk) (.string yv) (.int .i64 yn) (.bool yg); go_simp; clear hw cc0 cc1 cc2 cc3 ff0 ff1 ff2 ff3; replace KW := KeptH.far KW hk HGL.out; replace BX := BlkH.far BX hk (Blk.ne_ BX.out HL.out (by decide)); replace BA := BlkH.far BA hk (Blk.ne_ BA.out HL.out (by decide)); replace HL := Lib.hid HL2; clear hk HL2)
    refine hK.out _ _ ?_ (fun hHeld => ?_)
    · exact ⟨BX.out.cell 2, BA.out.cell 3⟩
    clear hK K
    try simp only [Act.put, List.getElem_toArray, List.getElem_cons_zero, List.getElem_cons_succ, List.setIfInBounds_toArray, List.set_cons_zero, List.set_cons_succ]
    refine wpAnyH_take (i := 13) (v := ?vz18) rfl (by kernel_rfl) (by kernel_rfl) (by kernel_rfl) (fun _ _ _ h => h) (Or.inl ⟨?wz18, ?yz18⟩) (by assumption) ?rz18
    case yz18 => (intro w hSw; (try dsimp only at hSw); go_simp; try with_reducible rfl)
    case wz18 => rfl
    case' rz18 => simp only [Act.put, List.getElem_toArray, List.getElem_cons_zero, List.getElem_cons_succ, List.setIfInBounds_toArray, List.set_cons_zero, List.set_cons_succ]
    refine wpAnyH_done (by kernel_rfl) ?_ _
    go_wp2_with fail
    go_meet
    case rel => exact ⟨gl, rfl, rfl, HL, KW, BX, BA⟩
  case rest =>
    obtain ⟨gl, rfl, rfl, HL, KW, BX, BA⟩ := hcut
    have a1 := BA.out.cell 1
    have a2 := BA.out.cell 2
    have a3 := BA.out.cell 3
    have x6 := BX.out.cell 6
    have y1 := HL.out.cell 1
    by_cases t1 : fr ≤ an
    · have t1' : decide (fr ≤ an) = true := by simpa using t1
      by_cases t2 : an ≤ to2
      · have t2' : decide (an ≤ to2) = true := by simpa using t2
        cases t3 : ai == is with
        | true =>
          go_wp2_with fail
          go_ret
          exact ⟨by first | rfl | simp, KW.out⟩
        | false =>
          go_wp2_with fail
          go_ret
          exact ⟨by simp, KW.out⟩
      · have t2' : decide (an ≤ to2) = false := by simpa using t2
        go_wp2_with fail
        go_ret
        exact ⟨by simp, KW.out⟩
    · have t1' : decide (fr ≤ an) = false := by simpa using t1
      go_wp2_with fail
      go_ret
      exact ⟨by simp, KW.out⟩
end Ythmijlchonbjnaa
end Go.Proofs
