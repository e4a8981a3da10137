/-
  ClockDoes: the walk.
-/
import Derived.Test.YtghcojaggplkkaaAwake
import Derived.Test.YtghcojaggplkkaaArgs
import Derived.Test.YtghcojaggplkkaaFreesPure
import Derived.Test.YtghcojaggplkkaaRefG
import Derived.Deep.RegionHeld3
set_option maxHeartbeats 1000000
set_option maxRecDepth 100000
namespace Go.Proofs
open Go.RowKit
theorem Try.cells30d : Try.prog.cellsOf 30 = 3 := by kernel_rfl
namespace Ytghcojaggplkkaa
attribute [local go_sem ↓] Go.wp_at_zero Go.wp_at_succ
section
variable {w : World} {base : Nat} {R : RLay} {S : Ck} {rb : Nat}
theorem AddR (h : RRep w base R S) (he : R.rb = rb) (G : Good S) (n b : Int) (hbase : base ≤ w.heap.size) :
    Calls Try.prog 14 #[.pointer (some ⟨rb, 0, none⟩), .int .i64 n, .int .i64 b] w fun e w' => e = .returned (.int .i64 (S.add n b).1) ∧ RGrown w w' base R (S.add n b).2 := by
  subst he
  exact addR h G n b hbase
theorem TouchR (h : RRep w base R S) (he : R.rb = rb) (G : Good S) (n : Int) :
    Calls Try.prog 15 #[.pointer (some ⟨rb, 0, none⟩), .int .i64 n] w fun e w' => e = .returned (.tuple #[]) ∧ RRep w' base R (S.touch n) ∧ Kept (fun b => ¬ R.foot b) w w' := by
  subst he
  exact touchR h G.len n
theorem VictimR (h : RRep w base R S) (he : R.rb = rb) (G : Good S) (hb : 0 ≤ S.budget) :
    Calls Try.prog 16 #[.pointer (some ⟨rb, 0, none⟩)] w fun e w' => e = .returned (.tuple #[.int .i64 S.victim.1.1, .bool S.victim.1.2]) ∧ RRep w' base R S.victim.2 ∧ Kept (fun b => ¬ R.foot b) w w' := by
  subst he
  unfold Ck.victim
  split
  · next ht => exact victimR_no h G ht
  · next ht => exact victimR_yes h G (by omega) (G.pos hb ht)
theorem ResidentR (h : RRep w base R S) (he : R.rb = rb) (G : Good S) :
    Calls Try.prog 17 #[.pointer (some ⟨rb, 0, none⟩)] w fun e w' => e = .returned (.int .i64 S.tot) ∧ RRep w' base R S.load ∧ Kept (fun b => ¬ R.foot b) w w' := by
  subst he
  exact residentR h G
end
/-- Behind some calls. -/
structure Does (S : Ck) (B : Int) (kc : Nat) : Prop where
  good : Good S
  bud : S.budget = B
  cnt : S.g = some (kc, S.tal)
theorem does_cnt_on {S S' : Ck} {c : Nat} (hc : S.g = some (c, S.tal)) (f : Tal → Tal) (h' : S'.g = S.g.on f) : S'.g = some (c, S'.tal) := by
  have : S'.g = some (c, f S.tal) := by rw [h', hc]; rfl
  rw [this]
  simp [Ck.tal, this]
theorem does_cnt_same {S S' : Ck} {c : Nat} (hc : S.g = some (c, S.tal)) (h' : S'.g = S.g) : S'.g = some (c, S'.tal) := by
  have : S'.tal = S.tal := by unfold Ck.tal; rw [h']
  rw [h', this, hc]
section
variable {S : Ck} {B : Int} {kc : Nat}
theorem Does.add (h : Does S B kc) (n b : Int) : Does (S.add n b).2 B kc where
  good := h.good.add n b
  bud := (add_budget S n b).trans h.bud
  cnt := by
    unfold Ck.add
    split
    · exact h.cnt
    · split
      · split
        · exact h.cnt
        · exact does_cnt_on h.cnt Tal.add rfl
      · split
        · exact does_cnt_on h.cnt Tal.add rfl
        · exact does_cnt_on h.cnt Tal.add rfl
theorem Does.touch (h : Does S B kc) (n : Int) : Does (S.touch n) B kc where
  good := h.good.touch n
  bud := (touch_budget S n).trans h.bud
  cnt := by
    unfold Ck.touch
    split
    · exact h.cnt
    · exact does_cnt_same h.cnt rfl
theorem Does.load (h : Does S B kc) : Does S.load B kc := ⟨h.good.load, h.bud, does_cnt_on h.cnt Tal.load rfl⟩
theorem Does.victim (h : Does S B kc) (hB : 0 ≤ B) : Does S.victim.2 B kc where
  good := h.good.victim (by rw [h.bud]; exact hB)
  bud := by
    unfold Ck.victim
    split
    · exact h.bud
    · exact h.bud
  cnt := by
    unfold Ck.victim
    split
    · exact does_cnt_on h.cnt Tal.load rfl
    · exact does_cnt_on h.cnt Tal.load rfl
end
/-- The two side by side. -/
structure Pair (w : World) (base : Nat) (L : Lay) (R : RLay) (S : Ck) (B : Int) (kc kb rb : Nat) : Prop where
  e : Rep w base L S
  r : RRep w base R S
  d : Does S B kc
  he : L.kb = kb
  hr : R.rb = rb
  apart : ∀ b, L.foot b → ¬ R.foot b
section
variable {w w' : World} {base : Nat} {L : Lay} {R : RLay} {S : Ck} {B : Int} {kc kb rb : Nat}
theorem Pair.kept (h : Pair w base L R S B kc kb rb) (hk : Kept (fun b => L.foot b ∨ R.foot b) w w') : Pair w' base L R S B kc kb rb :=
  ⟨h.e.kept (hk.mono fun _ _ hb => .inl hb), h.r.kept (hk.mono fun _ _ hb => .inr hb), h.d, h.he, h.hr, h.apart⟩
theorem Pair.midR {wx : World} (h : Pair w base L R S B kc kb rb) (hkx : Kept (fun b => ¬ L.foot b) w wx) : RRep wx base R S := h.r.kept (hkx.mono fun b _ hb hl => h.apart b hl hb)
theorem Pair.step {wx wy : World} {L' : Lay} {R' : RLay} {S' : Ck} (h : Pair w base L R S B kc kb rb) (hrx : Rep wx base L' S') (hL : L'.kb = kb) (hLf : ∀ b, L'.foot b → L.foot b ∨ w.heap.size ≤ b)
    (hry : RRep wy base R' S') (hR : R'.rb = rb) (hRf : ∀ b, R'.foot b → R.foot b ∨ wx.heap.size ≤ b) (hky : Kept (fun b => ¬ R.foot b) wx wy) (hd : Does S' B kc) : Pair wy base L' R' S' B kc kb rb := by
  have hap : ∀ b, L'.foot b → ¬ R.foot b := fun b hb hr => by
    rcases hLf b hb with h1 | h1
    · exact h.apart b h1 hr
    · have := h.r.foot_lt b hr
      omega
  refine ⟨hrx.kept (hky.mono fun b _ hb => hap b hb), hry, hd, hL, hR, fun b hb hr => ?_⟩
  rcases hRf b hr with h1 | h1
  · exact hap b hb h1
  · have := hrx.foot_lt b hb
    omega
theorem Pair.cnt (h : Pair w base L R S B kc kb rb) : CntAt w kc S.tal := by
  have := h.e.cnt
  rw [h.d.cnt] at this
  obtain ⟨h1, h2⟩ := this
  exact h2
theorem Pair.drew (h : Pair w base L R S B kc kb rb) : Pair w.drew base L R S B kc kb rb := h.kept (Kept.refl _ w).drew
/-- The count's tally; nothing of the two is turned. -/
theorem Pair.tally_drew (h : Pair w base L R S B kc kb rb) : Calls Try.prog 18 #[.pointer (some ⟨kc, 0, none⟩)] w.drew fun e w' => e = .returned (.agg #[.int .i64 S.tal.l, .int .i64 S.tal.s, .int .i64 S.tal.c, .int .i64 S.tal.m, .int .i64 S.tal.a]) ∧ Pair w' base L R S B kc kb rb ∧ Kept (fun _ => True) w.drew w' := by
  refine (tally_any kc S.tal w.drew h.drew.cnt).mono ?_
  rintro e w' ⟨rfl, hk⟩
  exact ⟨rfl, h.drew.kept (hk.mono fun _ _ _ => trivial), hk⟩
theorem Pair.budget (h : Pair w base L R S B kc kb rb) : Calls Try.prog 19 #[.pointer (some ⟨kb, 0, none⟩)] w fun e w' => e = .returned (.int .i64 B) ∧ w' = w := by
  have := h.he
  subst this
  have := h.d.bud
  subst this
  exact (budget_any h.e).mono fun e w' ⟨h1, h2⟩ => ⟨h1, h2.symm⟩
/-- The reference's cells that the law reads. -/
def RefAt (w : World) (rb : Nat) (S : Ck) : Prop :=
  w.cell? ⟨rb, 3, none⟩ = some (.int .i64 S.tal.l) ∧ w.cell? ⟨rb, 4, none⟩ = some (.int .i64 S.tal.s) ∧ w.cell? ⟨rb, 5, none⟩ = some (.int .i64 S.tal.c) ∧
    w.cell? ⟨rb, 6, none⟩ = some (.int .i64 S.tal.m) ∧ w.cell? ⟨rb, 7, none⟩ = some (.int .i64 S.tal.a)
theorem Pair.cells (h : Pair w base L R S B kc kb rb) : RefAt w rb S := by
  have hb := h.r.rblk
  rw [h.hr] at hb
  exact ⟨hb.cell 3, hb.cell 4, hb.cell 5, hb.cell 6, hb.cell 7⟩
end
theorem does_bad (B : Int) (A : Option Addr) (len cap : Nat) (w : World) (h : B < 0 ∨ 1099511627776 < B) :
    Calls Try.prog 5 #[.int .i64 B, .slice A len cap] w fun e w' => e = .returned (.bool true) ∧ Kept (fun _ => True) w w' := by
  have HB := Lib.hid h
  clear h
  go_enter Try.func5, Try.ntmps5
  go_wp2_with fail
  refine (awake_any _).mono ?_
  rintro e w1 ⟨rfl, k1⟩
  go_wp2_with fail
  refine (newcount_any w1).mono ?_
  rintro e w0 ⟨rfl, rfl⟩
  go_wp2_with fail
  refine (new_bad _ B _ HB.out).mono ?_
  rintro e w2 ⟨rfl, rfl⟩
  go_wp2_with fail
  refine (newR_bad B _ HB.out).mono ?_
  rintro e w3 ⟨rfl, rfl⟩
  go_wp2_with fail
  go_ret
  exact ⟨rfl, k1.alloc _⟩

theorem does_good (B : Int) (A : Option Addr) (l : List (Int × Int × Int)) (cap : Nat) (w : World) (hB0 : 0 ≤ B) (hB1 : B ≤ 1099511627776) (hl : OpsIn w A l) :
    Calls Try.prog 5 #[.int .i64 B, .slice A l.length cap] w fun e w' => e = .returned (.bool true) ∧ Kept (fun b => b < w.heap.size) w w' := by
  have hlen := hl.len
  go_enter Try.func5, Try.ntmps5
  go_wp2_with fail
  refine (awake_any _).mono ?_
  rintro e w1 ⟨rfl, k1⟩
  go_wp2_with fail
  refine (newcount_any w1).mono ?_
  rintro e w0 ⟨rfl, rfl⟩
  have hc0 : CntAt (w1.alloc (.cells Tal.zero.arr 67)) w1.heap.size Tal.zero := Blk.new _ _ _
  have k0 : Kept (fun _ => True) w (w1.alloc (.cells Tal.zero.arr 67)) := k1.alloc _
  have hkc : w.heap.size ≤ w1.heap.size := k1.size
  obtain ⟨kc, hkce⟩ : ∃ kc, w1.heap.size = kc := ⟨_, rfl⟩
  rw [hkce] at hc0 hkc
  rw [hkce]
  obtain ⟨w0, hw0⟩ : ∃ w0, w1.alloc (.cells Tal.zero.arr 67) = w0 := ⟨_, rfl⟩
  rw [hw0] at hc0 k0 ⊢
  clear hw0 hkce k1
  go_wp2_with fail
  refine (new_good (some (kc, Tal.zero)) B w0 w.heap.size hB0 hB1 k0.size (fun p hp => by cases hp; exact ⟨hc0, hkc⟩)).mono ?_
  rintro e w2 ⟨L, rfl, hr2, hf2, k2⟩
  have q2 : Kept (fun _ => True) w w2 := k0.trans k2
  go_wp2_with fail
  refine (newR_good B kc w2 w.heap.size hB0 hB1 q2.size).mono ?_
  rintro e w3 ⟨R, rfl, hR3, hf3, k3⟩
  have q3 : Kept (fun b => b < w.heap.size) w w3 := (q2.trans k3).mono fun _ _ _ => trivial
  have HP : Hid (Pair w3 w.heap.size L R ⟨B, 0, [], 0, some (kc, Tal.zero)⟩ B kc L.kb R.rb) :=
    ⟨hr2.kept (k3.mono fun _ _ _ => trivial), hR3, ⟨good_new B _, rfl, rfl⟩, rfl, rfl, fun b hb hr => by
      have := hr2.foot_lt b hb
      have := hf3 b hr
      omega⟩
  obtain ⟨kb, hkb⟩ : ∃ kb, L.kb = kb := ⟨_, rfl⟩
  obtain ⟨rb, hrb⟩ : ∃ rb, R.rb = rb := ⟨_, rfl⟩
  rw [hkb, hrb] at HP ⊢
  clear hr2 hR3 hf2 hf3 k2 k3 q2 k0 hc0 hkb hrb
  go_wp2_with fail
  go_loopw [11] (fun i wr => ∃ (k : Nat) (L : Lay) (R : RLay) (S : Ck), k ≤ l.length ∧ i = .int .i64 k ∧ Hid (Pair wr w.heap.size L R S B kc kb rb) ∧ Kept (fun b => b < w.heap.size) w wr)
    (fun i _ => l.length - (intOf i).toNat)
  case atStart => exact ⟨0, L, R, _, Nat.zero_le _, rfl, HP, q3⟩
  case round =>
    clear HP q3
    obtain ⟨k, L, R, S, hk, rfl, HP, q⟩ := hrel
    by_cases hlt : k < l.length
    · obtain ⟨b, off, rfl, hb, c0', c1', c2'⟩ := hl.at_ k _ (List.getElem?_eq_getElem hlt)
      obtain ⟨⟨p1, p2, p3⟩, hp⟩ : ∃ p, l[k] = p := ⟨_, rfl⟩
      rw [hp] at c0' c1' c2'
      simp only at c0' c1' c2'
      clear hp
      have HL : Hid (∀ wz : World, Kept (fun b => b < w.heap.size) w wz → wz.cell? ⟨b, off + k * 3 + 1, none⟩ = some (.int .i64 p2) ∧ wz.cell? ⟨b, off + k * 3 + 2, none⟩ = some (.int .i64 p3)) :=
        Lib.hid fun wz hz => ⟨(hz.cell (p := ⟨b, off + k * 3 + 1, none⟩) hb hb).trans c1', (hz.cell (p := ⟨b, off + k * 3 + 2, none⟩) hb hb).trans c2'⟩
      have c0 := (q.cell (p := ⟨b, off + k * 3, none⟩) hb hb).trans c0'
      clear c0' c1' c2'
      have hbs : w.heap.size ≤ wr.heap.size := q.size
      have hkb : k ≤ 140737488355328 := by omega
      by_cases d0 : p1 = 0
      · have e0 : (p1 == 0) = true := beq_iff_eq.2 d0
        clear d0
        go_upto_region 15 with fail
        have HLR := Lib.hid (HL.out wr q)
        obtain ⟨rv, hrv⟩ : ∃ rv, (S.add p2 p3).1 = rv := ⟨_, rfl⟩
        have HRV := Lib.hid hrv
        clear hrv
        go_region_held3 (fun w' => w'.cell? ⟨b, off + k * 3 + 1, none⟩ = some (.int .i64 p2) ∧ w'.cell? ⟨b, off + k * 3 + 2, none⟩ = some (.int .i64 p3)) (first | exact HLR.out | exact HLX.out | exact HLY.out)
          (first
            | (go_at_call 8; refine (AddE HP.out.drew.e HP.out.he HP.out.d.good p2 p3 hbs).mono ?_; rintro e wx ⟨hez, L', hrx, heL, hfL, hkx⟩; rw [HRV.out] at hez; subst hez; have qx := HP.out.drew.e.past q.drew hkx; have HR := Lib.hid (HP.out.drew.midR hkx); have HLX := Lib.hid (HL.out wx qx); have HRX := Lib.hid hrx; have HEL := Lib.hid (heL.trans HP.out.he); have HFL := Lib.hid hfL; have HBX := Lib.hid qx.size; clear hrx heL hfL hkx)
            | (go_at_call 14; refine (AddR HR.out HP.out.hr HP.out.d.good p2 p3 HBX.out).mono ?_; rintro e wy ⟨hez, R', hry, heR, hfR, hky⟩; rw [HRV.out] at hez; subst hez; have qy := HR.out.past qx hky; have HLY := Lib.hid (HL.out wy qy); have HP2 := Lib.hid (HP.out.drew.step HRX.out HEL.out HFL.out hry (heR.trans HP.out.hr) hfR hky (HP.out.d.add p2 p3)); clear hry heR hfR hky))
        clear HP q
        obtain ⟨Sx, hSx⟩ : ∃ Sx, (S.add p2 p3).2 = Sx := ⟨_, rfl⟩
        rw [hSx] at HP2
        clear hSx
        have HT := Lib.hid HP2.out.tally_drew
        have HF := Lib.hid (HP2.out.cells)
        go_upto_region 25 with fail
        go_region_held3 (fun w' => w'.cell? ⟨rb, 3, none⟩ = some (.int .i64 Sx.tal.l) ∧ w'.cell? ⟨rb, 4, none⟩ = some (.int .i64 Sx.tal.s) ∧ w'.cell? ⟨rb, 5, none⟩ = some (.int .i64 Sx.tal.c) ∧ w'.cell? ⟨rb, 6, none⟩ = some (.int .i64 Sx.tal.m) ∧ w'.cell? ⟨rb, 7, none⟩ = some (.int .i64 Sx.tal.a)) (first | exact HF.out | exact HFT.out)
          (first
            | (go_at_call 18; refine (HT.out).mono ?_; rintro e wt ⟨rfl, HPT, hkt⟩; have HFT := Lib.hid HPT.cells; have HPX := Lib.hid HPT; have qt := qy.drew.trans (hkt.mono (K' := fun b => b < w.heap.size) fun _ _ _ => trivial); clear HPT hkt)
            | (go_at_call 19; refine (HPX.out.budget).mono ?_; rintro e w' ⟨rfl, hw'⟩; subst hw'))
        go_wp2_with fail
        go_roundw
        case rel => exact ⟨k + 1, _, _, Sx, by omega, by go_num, HPX, qt⟩
        case measure => simp [intOf]; omega
      have e0 : (p1 == 0) = false := beq_eq_false_iff_ne.2 d0
      clear d0
      by_cases d1 : p1 = 1
      · have e1 : (p1 == 1) = true := beq_iff_eq.2 d1
        clear d1
        have HLR := HL.out wr q
        obtain ⟨c1, c2⟩ := HLR
        go_wp2_with fail
        refine (TouchE HP.out.e HP.out.he p2).mono ?_
        rintro e wx ⟨rfl, hrx, hkx⟩
        have qx := HP.out.e.past q hkx
        have hR := HP.out.midR hkx
        obtain ⟨d1, d2⟩ := HL.out wx qx
        go_wp2_with fail
        refine (TouchR hR HP.out.hr HP.out.d.good p2).mono ?_
        rintro e wy ⟨rfl, hry, hky⟩
        have qy := hR.past qx hky
        have HP2 := Lib.hid (HP.out.step hrx HP.out.he (fun b hb => .inl hb) hry HP.out.hr (fun b hb => .inl hb) hky (HP.out.d.touch p2))
        clear HP q hrx hkx hry hky hR qx c1 c2 d1 d2
        obtain ⟨Sx, hSx⟩ : ∃ Sx, S.touch p2 = Sx := ⟨_, rfl⟩
        rw [hSx] at HP2
        clear hSx
        have HT := Lib.hid HP2.out.tally_drew
        have HF := Lib.hid (HP2.out.cells)
        go_upto_region 25 with fail
        go_region_held3 (fun w' => w'.cell? ⟨rb, 3, none⟩ = some (.int .i64 Sx.tal.l) ∧ w'.cell? ⟨rb, 4, none⟩ = some (.int .i64 Sx.tal.s) ∧ w'.cell? ⟨rb, 5, none⟩ = some (.int .i64 Sx.tal.c) ∧ w'.cell? ⟨rb, 6, none⟩ = some (.int .i64 Sx.tal.m) ∧ w'.cell? ⟨rb, 7, none⟩ = some (.int .i64 Sx.tal.a)) (first | exact HF.out | exact HFT.out)
          (first
            | (go_at_call 18; refine (HT.out).mono ?_; rintro e wt ⟨rfl, HPT, hkt⟩; have HFT := Lib.hid HPT.cells; have HPX := Lib.hid HPT; have qt := qy.drew.trans (hkt.mono (K' := fun b => b < w.heap.size) fun _ _ _ => trivial); clear HPT hkt)
            | (go_at_call 19; refine (HPX.out.budget).mono ?_; rintro e w' ⟨rfl, hw'⟩; subst hw'))
        go_wp2_with fail
        go_roundw
        case rel => exact ⟨k + 1, _, _, Sx, by omega, by go_num, HPX, qt⟩
        case measure => simp [intOf]; omega
      have e1 : (p1 == 1) = false := beq_eq_false_iff_ne.2 d1
      clear d1
      by_cases d2 : p1 = 2
      · have e2 : (p1 == 2) = true := beq_iff_eq.2 d2
        clear d2
        have hb0 : 0 ≤ S.budget := by rw [HP.out.d.bud]; exact hB0
        have HB0 := Lib.hid hb0
        clear hb0
        go_wp2_with fail
        refine (VictimE HP.out.e HP.out.he HP.out.d.good HB0.out).mono ?_
        rintro e wx ⟨hez, hrx, hkx⟩
        obtain ⟨v1, hv1⟩ : ∃ v1, S.victim.1.1 = v1 := ⟨_, rfl⟩
        obtain ⟨v2, hv2⟩ : ∃ v2, S.victim.1.2 = v2 := ⟨_, rfl⟩
        rw [hv1, hv2] at hez
        subst hez
        have HV1 := Lib.hid hv1
        have HV2 := Lib.hid hv2
        clear hv1 hv2
        have qx := HP.out.e.past q hkx
        have hR := HP.out.midR hkx
        go_wp2_with fail
        refine (VictimR hR HP.out.hr HP.out.d.good HB0.out).mono ?_
        rintro e wy ⟨hez, hry, hky⟩
        rw [HV1.out, HV2.out] at hez
        subst hez
        have qy := hR.past qx hky
        have HP2 := Lib.hid (HP.out.step hrx HP.out.he (fun b hb => .inl hb) hry HP.out.hr (fun b hb => .inl hb) hky (HP.out.d.victim hB0))
        clear HP q hrx hkx hry hky hR qx
        obtain ⟨Sx, hSx⟩ : ∃ Sx, S.victim.2 = Sx := ⟨_, rfl⟩
        rw [hSx] at HP2
        clear hSx
        have HT := Lib.hid HP2.out.tally_drew
        have HF := Lib.hid (HP2.out.cells)
        go_upto_region 25 with fail
        go_region_held3 (fun w' => w'.cell? ⟨rb, 3, none⟩ = some (.int .i64 Sx.tal.l) ∧ w'.cell? ⟨rb, 4, none⟩ = some (.int .i64 Sx.tal.s) ∧ w'.cell? ⟨rb, 5, none⟩ = some (.int .i64 Sx.tal.c) ∧ w'.cell? ⟨rb, 6, none⟩ = some (.int .i64 Sx.tal.m) ∧ w'.cell? ⟨rb, 7, none⟩ = some (.int .i64 Sx.tal.a)) (first | exact HF.out | exact HFT.out)
          (first
            | (go_at_call 18; refine (HT.out).mono ?_; rintro e wt ⟨rfl, HPT, hkt⟩; have HFT := Lib.hid HPT.cells; have HPX := Lib.hid HPT; have qt := qy.drew.trans (hkt.mono (K' := fun b => b < w.heap.size) fun _ _ _ => trivial); clear HPT hkt)
            | (go_at_call 19; refine (HPX.out.budget).mono ?_; rintro e w' ⟨rfl, hw'⟩; subst hw'))
        go_wp2_with fail
        go_roundw
        case rel => exact ⟨k + 1, _, _, Sx, by omega, by go_num, HPX, qt⟩
        case measure => simp [intOf]; omega
      have e2 : (p1 == 2) = false := beq_eq_false_iff_ne.2 d2
      clear d2
      by_cases d3 : p1 = 3
      · have e3 : (p1 == 3) = true := beq_iff_eq.2 d3
        clear d3
        go_wp2_with fail
        refine (ResidentE HP.out.e HP.out.he).mono ?_
        rintro e wx ⟨rfl, hrx, hkx⟩
        have qx := HP.out.e.past q hkx
        have hR := HP.out.midR hkx
        go_wp2_with fail
        refine (ResidentR hR HP.out.hr HP.out.d.good).mono ?_
        rintro e wy ⟨rfl, hry, hky⟩
        have qy := hR.past qx hky
        have HP2 := Lib.hid (HP.out.step hrx HP.out.he (fun b hb => .inl hb) hry HP.out.hr (fun b hb => .inl hb) hky HP.out.d.load)
        clear HP q hrx hkx hry hky hR qx
        obtain ⟨Sx, hSx⟩ : ∃ Sx, S.load = Sx := ⟨_, rfl⟩
        rw [hSx] at HP2
        clear hSx
        have HT := Lib.hid HP2.out.tally_drew
        have HF := Lib.hid (HP2.out.cells)
        go_upto_region 25 with fail
        go_region_held3 (fun w' => w'.cell? ⟨rb, 3, none⟩ = some (.int .i64 Sx.tal.l) ∧ w'.cell? ⟨rb, 4, none⟩ = some (.int .i64 Sx.tal.s) ∧ w'.cell? ⟨rb, 5, none⟩ = some (.int .i64 Sx.tal.c) ∧ w'.cell? ⟨rb, 6, none⟩ = some (.int .i64 Sx.tal.m) ∧ w'.cell? ⟨rb, 7, none⟩ = some (.int .i64 Sx.tal.a)) (first | exact HF.out | exact HFT.out)
          (first
            | (go_at_call 18; refine (HT.out).mono ?_; rintro e wt ⟨rfl, HPT, hkt⟩; have HFT := Lib.hid HPT.cells; have HPX := Lib.hid HPT; have qt := qy.drew.trans (hkt.mono (K' := fun b => b < w.heap.size) fun _ _ _ => trivial); clear HPT hkt)
            | (go_at_call 19; refine (HPX.out.budget).mono ?_; rintro e w' ⟨rfl, hw'⟩; subst hw'))
        go_wp2_with fail
        go_roundw
        case rel => exact ⟨k + 1, _, _, Sx, by omega, by go_num, HPX, qt⟩
        case measure => simp [intOf]; omega
      have e3 : (p1 == 3) = false := beq_eq_false_iff_ne.2 d3
      clear d3
      have HP2 := HP
      have qy := q
      clear HP q
      obtain ⟨Sx, hSx⟩ : ∃ Sx, S = Sx := ⟨_, rfl⟩
      rw [hSx] at HP2
      clear hSx
      have HT := Lib.hid HP2.out.tally_drew
      have HF := Lib.hid (HP2.out.cells)
      go_upto_region 25 with fail
      go_region_held3 (fun w' => w'.cell? ⟨rb, 3, none⟩ = some (.int .i64 Sx.tal.l) ∧ w'.cell? ⟨rb, 4, none⟩ = some (.int .i64 Sx.tal.s) ∧ w'.cell? ⟨rb, 5, none⟩ = some (.int .i64 Sx.tal.c) ∧ w'.cell? ⟨rb, 6, none⟩ = some (.int .i64 Sx.tal.m) ∧ w'.cell? ⟨rb, 7, none⟩ = some (.int .i64 Sx.tal.a)) (first | exact HF.out | exact HFT.out)
        (first
          | (go_at_call 18; refine (HT.out).mono ?_; rintro e wt ⟨rfl, HPT, hkt⟩; have HFT := Lib.hid HPT.cells; have HPX := Lib.hid HPT; have qt := qy.drew.trans (hkt.mono (K' := fun b => b < w.heap.size) fun _ _ _ => trivial); clear HPT hkt)
          | (go_at_call 19; refine (HPX.out.budget).mono ?_; rintro e w' ⟨rfl, hw'⟩; subst hw'))
      go_wp2_with fail
      go_roundw
      case rel => exact ⟨k + 1, _, _, Sx, by omega, by go_num, HPX, qt⟩
      case measure => simp [intOf]; omega
    · go_wp2_with fail
      go_ret
      exact ⟨rfl, q⟩
end Ytghcojaggplkkaa
end Go.Proofs
