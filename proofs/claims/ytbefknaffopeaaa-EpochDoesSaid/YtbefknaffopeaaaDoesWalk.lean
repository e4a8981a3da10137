/-
  EpochDoes: the walk.
-/
import Derived.Test.YtbefknaffopeaaaAwake
import Derived.Test.YtbefknaffopeaaaArgs
import Derived.Test.YtbefknaffopeaaaDoesPure
import Derived.Test.YtbefknaffopeaaaRefF
import Derived.Deep.RegionHeld3
set_option maxHeartbeats 1000000
set_option maxRecDepth 100000
namespace Go.Proofs
open Go.RowKit
theorem Try.cells30d : Try.prog.cellsOf 30 = 2 := by kernel_rfl
namespace Ytbefknaffopeaaa
attribute [local go_sem ↓] Go.wp_at_zero Go.wp_at_succ
section
variable {w : World} {base : Nat} {R : RLay} {S : St} {rb : Nat}
theorem EnterR (h : RRep w base R S) (he : R.rb = rb) (hI : InOk S) (c : Int) :
    Calls Try.prog 18 #[.pointer (some ⟨rb, 0, none⟩), .int .i64 c] w fun e w' => e = .returned (.int .i64 (if S.at c = some false then 0 else 1)) ∧ RRep w' base R (S.enter c) ∧ Kept (fun b => ¬ R.foot b) w w' := by
  subst he
  by_cases h0 : S.at c = some false
  · obtain ⟨k, rfl, hk⟩ := St.at_lt h0
    rw [St.enter, if_pos h0, if_pos h0]
    exact enterR_yes h k hk hI
  · rw [St.enter, if_neg h0, if_neg h0]
    refine (enterR_no h c ?_).mono ?_
    · rcases Int.lt_or_le c 0 with hc | hc
      · exact .inl hc
      · rcases Int.lt_or_le c S.cells.length with hl | hl
        · obtain ⟨k, rfl⟩ := Int.eq_ofNat_of_zero_le hc
          have hk : k < S.ins.length := by rw [← hI.len]; omega
          have hb : S.ins[k]? = some S.ins[k] := List.getElem?_eq_getElem hk
          cases hh : S.ins[k] with
          | false =>
            rw [hh] at hb
            exact absurd (by unfold St.at; rw [if_pos hc]; exact hb) h0
          | true =>
            rw [hh] at hb
            obtain ⟨x, hx, hx0⟩ := hI.one k hb
            exact .inr (.inr ⟨k, x, rfl, hx, hx0⟩)
        · exact .inr (.inl hl)
    · rintro e w' ⟨rfl, rfl⟩
      exact ⟨rfl, h, Kept.refl _ _⟩
theorem ExitR (h : RRep w base R S) (he : R.rb = rb) (hI : InOk S) (c : Int) :
    Calls Try.prog 19 #[.pointer (some ⟨rb, 0, none⟩), .int .i64 c] w fun e w' => e = .returned (.int .i64 (if S.at c = some true then 0 else 1)) ∧ RRep w' base R (S.exit c) ∧ Kept (fun b => ¬ R.foot b) w w' := by
  subst he
  by_cases h0 : S.at c = some true
  · obtain ⟨k, rfl, hk⟩ := St.at_lt h0
    rw [St.exit, if_pos h0, if_pos h0]
    exact exitR_yes h k hk hI
  · rw [St.exit, if_neg h0, if_neg h0]
    refine (exitR_no h c ?_).mono ?_
    · rcases Int.lt_or_le c 0 with hc | hc
      · exact .inl hc
      · rcases Int.lt_or_le c S.cells.length with hl | hl
        · obtain ⟨k, rfl⟩ := Int.eq_ofNat_of_zero_le hc
          have hk : k < S.ins.length := by rw [← hI.len]; omega
          have hb : S.ins[k]? = some S.ins[k] := List.getElem?_eq_getElem hk
          cases hh : S.ins[k] with
          | true =>
            rw [hh] at hb
            exact absurd (by unfold St.at; rw [if_pos hc]; exact hb) h0
          | false =>
            rw [hh] at hb
            exact .inr (.inr ⟨k, rfl, hI.zero k hb⟩)
        · exact .inr (.inl hl)
    · rintro e w' ⟨rfl, rfl⟩
      exact ⟨rfl, h, Kept.refl _ _⟩
theorem BumpR (h : RRep w base R S) (he : R.rb = rb) :
    Calls Try.prog 21 #[.pointer (some ⟨rb, 0, none⟩)] w fun e w' => e = .returned (.int .i64 S.bump.now) ∧ RRep w' base R S.bump ∧ Kept (fun b => ¬ R.foot b) w w' := by
  subst he
  exact bumpR h
theorem SafeR (h : RRep w base R S) (he : R.rb = rb) (hI : InOk S) :
    Calls Try.prog 22 #[.pointer (some ⟨rb, 0, none⟩)] w fun e w' => e = .returned (.int .i64 (safeOf S)) ∧ RRep w' base R S.asked ∧ Kept (fun b => ¬ R.foot b) w w' := by
  subst he
  exact safeR h hI
theorem RetireR (h : RRep w base R S) (he : R.rb = rb) (n : Int) (hm : (S.waits.length + 1) * 16 ≤ 140737488355328) (hbase : base ≤ w.heap.size) :
    Calls Try.prog 20 #[.pointer (some ⟨rb, 0, none⟩), .int .i64 n] w fun e w' => ∃ R', e = .returned (.tuple #[]) ∧ RRep w' base R' (S.retire n) ∧ R'.rb = rb ∧ (∀ b, R'.foot b → R.foot b ∨ w.heap.size ≤ b) ∧ Kept (fun b => ¬ R.foot b) w w' := by
  subst he
  refine (retireR h n hm hbase).mono ?_
  rintro e w' ⟨rfl, wv', h1, h2, h3⟩
  refine ⟨_, rfl, h1, rfl, ?_, h3⟩
  rintro b (hb | hb | hb)
  · exact .inl (.inl hb)
  · exact .inl (.inr (.inl hb))
  · exact (h2 b hb).imp (fun h => .inr (.inr h)) id
theorem ReclaimR (h : RRep w base R S) (he : R.rb = rb) (hI : InOk S) (hm : S.waits.length * 16 ≤ 140737488355328) (hbase : base ≤ w.heap.size) :
    Calls Try.prog 24 #[.pointer (some ⟨rb, 0, none⟩)] w fun e w' => ∃ A c R', e = .returned (.slice A S.told.length c) ∧ w'.ownsRow w.heap.size 3 1 (.slice A S.told.length c) S.told.length (S.told.map (Value.int .i64)) ∧
      RRep w' base R' S.reclaim ∧ R'.rb = rb ∧ (∀ b, R'.foot b → R.foot b ∨ w.heap.size ≤ b) ∧ Kept (fun b => ¬ R.foot b) w w' := by
  subst he
  refine (reclaimR h hI hm hbase).mono ?_
  rintro e w' ⟨v, u, rfl, h2, h3, h4, h5⟩
  obtain ⟨A, c, rfl⟩ := own_form h2
  refine ⟨A, c, _, rfl, h2, h3, rfl, ?_, h5⟩
  rintro b (hb | hb | hb)
  · exact .inl (.inl hb)
  · exact .inl (.inr (.inl hb))
  · exact .inr (h4 b hb)
end
/-- The two side by side. -/
structure Pair (w : World) (base : Nat) (L : Lay) (R : RLay) (S : St) (k kc eb rb : Nat) : Prop where
  e : Rep w base L S
  r : RRep w base R S
  d : Does S k kc
  he : L.eb = eb
  hr : R.rb = rb
  apart : ∀ b, L.foot b → ¬ R.foot b
section
variable {w w' : World} {base : Nat} {L : Lay} {R : RLay} {S : St} {k kc eb rb : Nat}
theorem Pair.kept (h : Pair w base L R S k kc eb rb) (hk : Kept (fun b => L.foot b ∨ R.foot b) w w') : Pair w' base L R S k kc eb rb :=
  ⟨h.e.kept (hk.mono fun _ _ hb => .inl hb), h.r.kept (hk.mono fun _ _ hb => .inr hb), h.d, h.he, h.hr, h.apart⟩
theorem Pair.lt (h : Pair w base L R S k kc eb rb) : ∀ b, L.foot b ∨ R.foot b → b < w.heap.size := by
  rintro b (hb | hb)
  · obtain ⟨c, t, f, hc⟩ := h.e.foot_cells b hb
    exact (Array.getElem?_eq_some_iff.1 hc).1
  · exact h.r.foot_lt b hb
theorem Pair.midR {wx : World} (h : Pair w base L R S k kc eb rb) (hkx : Kept (fun b => ¬ L.foot b) w wx) : RRep wx base R S := h.r.kept (hkx.mono fun b _ hb hl => h.apart b hl hb)
theorem Pair.step {wx wy : World} {L' : Lay} {R' : RLay} {S' : St} (h : Pair w base L R S k kc eb rb) (hrx : Rep wx base L' S') (hL : L'.eb = eb) (hLf : ∀ b, L'.foot b → L.foot b ∨ w.heap.size ≤ b) (hkx : Kept (fun b => ¬ L.foot b) w wx)
    (hry : RRep wy base R' S') (hR : R'.rb = rb) (hRf : ∀ b, R'.foot b → R.foot b ∨ wx.heap.size ≤ b) (hky : Kept (fun b => ¬ R.foot b) wx wy) (hd : Does S' (k + 1) kc) : Pair wy base L' R' S' (k + 1) kc eb rb := by
  have hap : ∀ b, L'.foot b → ¬ R.foot b := fun b hb hr => by
    rcases hLf b hb with h1 | h1
    · exact h.apart b h1 hr
    · have := h.lt b (.inr hr)
      omega
  refine ⟨hrx.kept (hky.mono fun b _ hb => hap b hb), hry, hd, hL, hR, fun b hb hr => ?_⟩
  rcases hRf b hr with h1 | h1
  · exact hap b hb h1
  · obtain ⟨c, t, f, hc⟩ := hrx.foot_cells b hb
    have := (Array.getElem?_eq_some_iff.1 hc).1
    omega
theorem Pair.skip (h : Pair w base L R S k kc eb rb) : Pair w base L R S (k + 1) kc eb rb := ⟨h.e, h.r, h.d.skip, h.he, h.hr, h.apart⟩
theorem told_le (S : St) : S.told.length ≤ S.waits.length := by
  unfold St.told
  rw [List.length_map]
  exact List.length_filter_le _ _
theorem own_blk {b1 : Nat} {e1 : TypeId} {n1 : Nat} {v : Value} {xs : List Value} (h : w.ownsRow b1 e1 1 v n1 xs) {g : Nat} (hg : v.ownBlock = some g) : ∃ cs, Blk w g e1 cs := by
  rcases h.2 with ⟨rfl, _⟩ | ⟨g', cap, cur, rfl, _, hh, _⟩
  · simp [Value.ownBlock] at hg
  · have : g' = g := by simpa [Value.ownBlock] using hg
    subst this
    exact ⟨cur, hh⟩
theorem Rep.alien (h : Rep w base L S) {b : Nat} {t : TypeId} {cs : Array Value} (hb : Blk w b t cs) (ht : t ≠ 55 ∧ t ≠ 74 ∧ t ≠ 69 ∧ t ≠ 50 ∧ t ≠ 4 ∧ t ≠ 58) : ¬ L.foot b := by
  rintro (rfl | rfl | ⟨i, hi, rfl⟩ | hk | hc | rfl | hw)
  · exact Blk.ne_ hb h.eblk ht.1 rfl
  · exact Blk.ne_ hb h.now ht.2.1 rfl
  · obtain ⟨j, hj⟩ := List.getElem?_of_mem hi
    have hjl : j < S.cells.length := by rw [h.lc]; exact (List.getElem?_eq_some_iff.1 hj).1
    exact Blk.ne_ hb (h.int j i _ hj (List.getElem?_eq_getElem hjl)) ht.2.1 rfl
  · have hcn := h.cnt
    cases hg : S.g with
    | none =>
      rw [hg] at hcn
      obtain ⟨t', ht'⟩ := hcn b hk
      exact Blk.ne_ hb ht' ht.2.2.1 rfl
    | some p =>
      rw [hg] at hcn
      have e := hcn.2 b hk
      subst e
      exact Blk.ne_ hb hcn.1 ht.2.2.1 rfl
  · exact own_blk_ne h.cv hb (Ne.symm ht.2.2.2.1) hc
  · exact Blk.ne_ hb h.inblk ht.2.2.2.2.1 rfl
  · exact own_blk_ne h.wv hb (Ne.symm ht.2.2.2.2.2) hw
theorem Pair.cnt (h : Pair w base L R S k kc eb rb) : CntAt w kc S.tal := by
  have := h.e.cnt
  rw [h.d.cnt] at this
  exact this.1
/-- The count's tally; nothing of the two is turned. -/
theorem Pair.tally (h : Pair w base L R S k kc eb rb) : Calls Try.prog 25 #[.pointer (some ⟨kc, 0, none⟩)] w fun e w' => e = .returned (.agg S.tal.arr) ∧ Pair w' base L R S k kc eb rb ∧ Kept (fun _ => True) w w' := by
  refine (tally_any kc S.tal w h.cnt).mono ?_
  rintro e w' ⟨rfl, hk⟩
  exact ⟨rfl, h.kept (hk.mono fun _ _ _ => trivial), hk⟩
theorem Pair.e_drew (h : Pair w base L R S k kc eb rb) : Rep w.drew base L S := h.e.kept (Kept.refl _ w).drew
theorem Pair.tally_drew (h : Pair w base L R S k kc eb rb) : Calls Try.prog 25 #[.pointer (some ⟨kc, 0, none⟩)] w.drew fun e w' => e = .returned (.agg #[.int .i64 S.tal.l, .int .i64 S.tal.s, .int .i64 S.tal.c, .int .i64 S.tal.m, .int .i64 S.tal.a]) ∧ Pair w' base L R S k kc eb rb ∧ Kept (fun _ => True) w.drew w' :=
  (h.kept (Kept.refl _ w).drew).tally
/-- The reference's cells that the law reads. -/
def RefAt (w : World) (rb : Nat) (S : St) (v : Value) : Prop :=
  w.cell? ⟨rb, 2, none⟩ = some v ∧ w.cell? ⟨rb, 3, none⟩ = some (.int .i64 S.tal.l) ∧ w.cell? ⟨rb, 4, none⟩ = some (.int .i64 S.tal.s) ∧ w.cell? ⟨rb, 5, none⟩ = some (.int .i64 S.tal.c) ∧
    w.cell? ⟨rb, 6, none⟩ = some (.int .i64 S.tal.m) ∧ w.cell? ⟨rb, 7, none⟩ = some (.int .i64 S.tal.a)
theorem Pair.cells (h : Pair w base L R S k kc eb rb) {v : Value} (hv : R.wv = v) : RefAt w rb S v := by
  have hb := h.r.rblk
  rw [h.hr] at hb
  exact ⟨(hb.cell 2).trans (congrArg some hv), hb.cell 3, hb.cell 4, hb.cell 5, hb.cell 6, hb.cell 7⟩
end

theorem does_good (n : Nat) (A : Option Addr) (l : List (Int × Int)) (cap : Nat) (w : World) (h1 : 1 ≤ n) (h64 : n ≤ 64) (hl : OpsIn w A l) :
    Calls Try.prog 6 #[.int .i64 n, .slice A l.length cap] w fun e w' => e = .returned (.bool true) ∧ Kept (fun b => b < w.heap.size) w w' := by
  have hlen := hl.len
  go_enter Try.func6, Try.ntmps6
  go_wp2_with fail
  refine (awake_any _).mono ?_
  rintro e w1 ⟨rfl, k1⟩
  go_wp2_with fail
  refine (newcount_any w1).mono ?_
  rintro e w0 ⟨rfl, rfl⟩
  have hc0 : CntAt (w1.alloc (.cells Tal.zero.arr 69)) w1.heap.size Tal.zero := Blk.new _ _ _
  have k0 : Kept (fun _ => True) w (w1.alloc (.cells Tal.zero.arr 69)) := k1.alloc _
  have hkc : w.heap.size ≤ w1.heap.size := k1.size
  obtain ⟨kc, hkce⟩ : ∃ kc, w1.heap.size = kc := ⟨_, rfl⟩
  rw [hkce] at hc0 hkc
  rw [hkce]
  obtain ⟨w0, hw0⟩ : ∃ w0, w1.alloc (.cells Tal.zero.arr 69) = w0 := ⟨_, rfl⟩
  rw [hw0] at hc0 k0 ⊢
  clear hw0 hkce k1
  go_wp2_with fail
  refine (new_good (some (kc, Tal.zero)) n w0 w.heap.size h1 h64 k0.size (fun p hp => by cases hp; exact ⟨hc0, hkc⟩)).mono ?_
  rintro e w2 ⟨L, rfl, hr2, hf2, k2⟩
  have q2 : Kept (fun _ => True) w w2 := k0.trans k2
  go_wp2_with fail
  refine (newR_good n kc w2 w.heap.size h1 h64 q2.size).mono ?_
  rintro e w3 ⟨R, rfl, hR3, hf3, k3⟩
  have q3 : Kept (fun b => b < w.heap.size) w w3 := (q2.trans k3).mono fun _ _ _ => trivial
  have HP : Hid (Pair w3 w.heap.size L R ⟨1, List.replicate n 0, List.replicate n false, [], some (kc, Tal.zero)⟩ 0 kc L.eb R.rb) :=
    ⟨hr2.kept (k3.mono fun _ _ _ => trivial), hR3, Does.start n kc h64, rfl, rfl, fun b hb hr => by
      obtain ⟨c, t, f, hc⟩ := hr2.foot_cells b hb
      have := (Array.getElem?_eq_some_iff.1 hc).1
      have := hf3 b hr
      omega⟩
  obtain ⟨eb, heb⟩ : ∃ eb, L.eb = eb := ⟨_, rfl⟩
  obtain ⟨rb, hrb⟩ : ∃ rb, R.rb = rb := ⟨_, rfl⟩
  rw [heb, hrb] at HP ⊢
  clear hr2 hR3 hf2 hf3 k2 k3 q2 k0 hc0 heb hrb
  go_wp2_with fail
  go_loopw [11] (fun i wr => ∃ (k : Nat) (L : Lay) (R : RLay) (S : St), k ≤ l.length ∧ i = .int .i64 k ∧ Hid (Pair wr w.heap.size L R S k kc eb rb) ∧ Kept (fun b => b < w.heap.size) w wr)
    (fun i _ => l.length - (intOf i).toNat)
  case atStart => exact ⟨0, L, R, _, Nat.zero_le _, rfl, HP, q3⟩
  case round =>
    clear HP q3
    obtain ⟨k, L, R, S, hk, rfl, HP, q⟩ := hrel
    by_cases hlt : k < l.length
    · obtain ⟨b, off, p, hp, rfl, c0, c1⟩ := hl.get q hlt
      clear hp
      have hbs : w.heap.size ≤ wr.heap.size := q.size
      have hkb : k ≤ 140737488355328 := by omega
      by_cases d0 : p.1 = 0
      · have e0 : (p.1 == 0) = true := beq_iff_eq.2 d0
        clear d0
        go_wp2_with fail
        refine (Enter HP.out.e HP.out.he p.2).mono ?_
        rintro e wx ⟨hez, hrx, hkx⟩
        obtain ⟨rv, hrv⟩ : ∃ rv : Int, (if S.at p.2 = some false then 0 else 1) = rv := ⟨_, rfl⟩
        rw [hrv] at hez
        subst hez
        have HRV := Lib.hid hrv
        clear hrv
        have qx := HP.out.e.past q hkx
        have hR := HP.out.midR hkx
        go_wp2_with fail
        refine (EnterR hR HP.out.hr HP.out.d.ok p.2).mono ?_
        rintro e wy ⟨hez, hry, hky⟩
        rw [HRV.out] at hez
        subst hez
        have qy := hR.past qx hky
        have HP2 := Lib.hid (HP.out.step hrx HP.out.he (fun b hb => .inl hb) hkx hry HP.out.hr (fun b hb => .inl hb) hky (HP.out.d.enter p.2))
        clear HP q hrx hkx hry hky hR qx
        obtain ⟨Sx, hSx⟩ : ∃ Sx, S.enter p.2 = Sx := ⟨_, rfl⟩
        rw [hSx] at HP2
        clear hSx
        have HT := Lib.hid HP2.out.tally_drew
        obtain ⟨Aw, cw, hwv⟩ := own_form HP2.out.r.wv
        have HWV := Lib.hid hwv
        have HF := Lib.hid (HP2.out.cells hwv)
        clear hwv
        go_upto_region 28 with fail
        go_region_held3 (fun w' => w'.cell? ⟨rb, 2, none⟩ = some (.slice Aw Sx.waits.length cw) ∧ w'.cell? ⟨rb, 3, none⟩ = some (.int .i64 Sx.tal.l) ∧ w'.cell? ⟨rb, 4, none⟩ = some (.int .i64 Sx.tal.s) ∧ w'.cell? ⟨rb, 5, none⟩ = some (.int .i64 Sx.tal.c) ∧ w'.cell? ⟨rb, 6, none⟩ = some (.int .i64 Sx.tal.m) ∧ w'.cell? ⟨rb, 7, none⟩ = some (.int .i64 Sx.tal.a)) (first | exact HF.out | exact HFT.out)
          (first
            | (go_at_call 14; refine (Waiting HP2.out.e_drew HP2.out.he).mono ?_; rintro e w' ⟨rfl, hw'⟩; subst hw')
            | (go_at_call 25; refine (HT.out).mono ?_; rintro e wt ⟨rfl, HPT, hkt⟩; have HFT := Lib.hid (HPT.cells HWV.out); have HPX := Lib.hid HPT; have qt := qy.drew.trans (hkt.mono (K' := fun b => b < w.heap.size) fun _ _ _ => trivial); clear HPT hkt))
        go_wp2_with fail
        go_roundw
        case rel => exact ⟨k + 1, _, _, Sx, by omega, by go_num, HPX, qt⟩
        case measure => simp [intOf]; omega
      have e0 : (p.1 == 0) = false := beq_eq_false_iff_ne.2 d0
      clear d0
      by_cases d1 : p.1 = 1
      · have e1 : (p.1 == 1) = true := beq_iff_eq.2 d1
        clear d1
        go_wp2_with fail
        refine (Exit HP.out.e HP.out.he p.2).mono ?_
        rintro e wx ⟨hez, hrx, hkx⟩
        obtain ⟨rv, hrv⟩ : ∃ rv : Int, (if S.at p.2 = some true then 0 else 1) = rv := ⟨_, rfl⟩
        rw [hrv] at hez
        subst hez
        have HRV := Lib.hid hrv
        clear hrv
        have qx := HP.out.e.past q hkx
        have hR := HP.out.midR hkx
        go_wp2_with fail
        refine (ExitR hR HP.out.hr HP.out.d.ok p.2).mono ?_
        rintro e wy ⟨hez, hry, hky⟩
        rw [HRV.out] at hez
        subst hez
        have qy := hR.past qx hky
        have HP2 := Lib.hid (HP.out.step hrx HP.out.he (fun b hb => .inl hb) hkx hry HP.out.hr (fun b hb => .inl hb) hky (HP.out.d.exit p.2))
        clear HP q hrx hkx hry hky hR qx
        obtain ⟨Sx, hSx⟩ : ∃ Sx, S.exit p.2 = Sx := ⟨_, rfl⟩
        rw [hSx] at HP2
        clear hSx
        have HT := Lib.hid HP2.out.tally_drew
        obtain ⟨Aw, cw, hwv⟩ := own_form HP2.out.r.wv
        have HWV := Lib.hid hwv
        have HF := Lib.hid (HP2.out.cells hwv)
        clear hwv
        go_upto_region 28 with fail
        go_region_held3 (fun w' => w'.cell? ⟨rb, 2, none⟩ = some (.slice Aw Sx.waits.length cw) ∧ w'.cell? ⟨rb, 3, none⟩ = some (.int .i64 Sx.tal.l) ∧ w'.cell? ⟨rb, 4, none⟩ = some (.int .i64 Sx.tal.s) ∧ w'.cell? ⟨rb, 5, none⟩ = some (.int .i64 Sx.tal.c) ∧ w'.cell? ⟨rb, 6, none⟩ = some (.int .i64 Sx.tal.m) ∧ w'.cell? ⟨rb, 7, none⟩ = some (.int .i64 Sx.tal.a)) (first | exact HF.out | exact HFT.out)
          (first
            | (go_at_call 14; refine (Waiting HP2.out.e_drew HP2.out.he).mono ?_; rintro e w' ⟨rfl, hw'⟩; subst hw')
            | (go_at_call 25; refine (HT.out).mono ?_; rintro e wt ⟨rfl, HPT, hkt⟩; have HFT := Lib.hid (HPT.cells HWV.out); have HPX := Lib.hid HPT; have qt := qy.drew.trans (hkt.mono (K' := fun b => b < w.heap.size) fun _ _ _ => trivial); clear HPT hkt))
        go_wp2_with fail
        go_roundw
        case rel => exact ⟨k + 1, _, _, Sx, by omega, by go_num, HPX, qt⟩
        case measure => simp [intOf]; omega
      have e1 : (p.1 == 1) = false := beq_eq_false_iff_ne.2 d1
      clear d1
      by_cases d2 : p.1 = 2
      · have e2 : (p.1 == 2) = true := beq_iff_eq.2 d2
        clear d2
        have hwl := HP.out.d.len
        have HM := Lib.hid (show (S.waits.length + 1) * 16 ≤ 140737488355328 by omega)
        clear hwl
        go_wp2_with fail
        refine (Retire HP.out.e HP.out.he p.2 HM.out hbs).mono ?_
        rintro e wx ⟨L', rfl, hrx, heL, hfL, hkx⟩
        have qx := HP.out.e.past q hkx
        have hR := HP.out.midR hkx
        go_wp2_with fail
        refine (RetireR hR HP.out.hr p.2 HM.out qx.size).mono ?_
        rintro e wy ⟨R', rfl, hry, heR, hfR, hky⟩
        have qy := hR.past qx hky
        have HP2 := Lib.hid (HP.out.step hrx heL hfL hkx hry heR hfR hky (HP.out.d.retire p.2))
        clear HP q hrx hkx hry hky hR qx heL hfL heR hfR
        obtain ⟨Sx, hSx⟩ : ∃ Sx, S.retire p.2 = Sx := ⟨_, rfl⟩
        rw [hSx] at HP2
        clear hSx
        have HT := Lib.hid HP2.out.tally_drew
        obtain ⟨Aw, cw, hwv⟩ := own_form HP2.out.r.wv
        have HWV := Lib.hid hwv
        have HF := Lib.hid (HP2.out.cells hwv)
        clear hwv
        go_upto_region 28 with fail
        go_region_held3 (fun w' => w'.cell? ⟨rb, 2, none⟩ = some (.slice Aw Sx.waits.length cw) ∧ w'.cell? ⟨rb, 3, none⟩ = some (.int .i64 Sx.tal.l) ∧ w'.cell? ⟨rb, 4, none⟩ = some (.int .i64 Sx.tal.s) ∧ w'.cell? ⟨rb, 5, none⟩ = some (.int .i64 Sx.tal.c) ∧ w'.cell? ⟨rb, 6, none⟩ = some (.int .i64 Sx.tal.m) ∧ w'.cell? ⟨rb, 7, none⟩ = some (.int .i64 Sx.tal.a)) (first | exact HF.out | exact HFT.out)
          (first
            | (go_at_call 14; refine (Waiting HP2.out.e_drew HP2.out.he).mono ?_; rintro e w' ⟨rfl, hw'⟩; subst hw')
            | (go_at_call 25; refine (HT.out).mono ?_; rintro e wt ⟨rfl, HPT, hkt⟩; have HFT := Lib.hid (HPT.cells HWV.out); have HPX := Lib.hid HPT; have qt := qy.drew.trans (hkt.mono (K' := fun b => b < w.heap.size) fun _ _ _ => trivial); clear HPT hkt))
        go_wp2_with fail
        go_roundw
        case rel => exact ⟨k + 1, _, _, Sx, by omega, by go_num, HPX, qt⟩
        case measure => simp [intOf]; omega
      have e2 : (p.1 == 2) = false := beq_eq_false_iff_ne.2 d2
      clear d2
      by_cases d3 : p.1 = 3
      · have e3 : (p.1 == 3) = true := beq_iff_eq.2 d3
        clear d3
        go_wp2_with fail
        refine (Bump HP.out.e HP.out.he).mono ?_
        rintro e wx ⟨rfl, hrx, hkx⟩
        have qx := HP.out.e.past q hkx
        have hR := HP.out.midR hkx
        go_wp2_with fail
        refine (BumpR hR HP.out.hr).mono ?_
        rintro e wy ⟨rfl, hry, hky⟩
        have qy := hR.past qx hky
        have HP2 := Lib.hid (HP.out.step hrx HP.out.he (fun b hb => .inl hb) hkx hry HP.out.hr (fun b hb => .inl hb) hky (HP.out.d.bump hkb))
        clear HP q hrx hkx hry hky hR qx
        obtain ⟨Sx, hSx⟩ : ∃ Sx, S.bump = Sx := ⟨_, rfl⟩
        rw [hSx] at HP2
        clear hSx
        have HT := Lib.hid HP2.out.tally_drew
        obtain ⟨Aw, cw, hwv⟩ := own_form HP2.out.r.wv
        have HWV := Lib.hid hwv
        have HF := Lib.hid (HP2.out.cells hwv)
        clear hwv
        go_upto_region 28 with fail
        go_region_held3 (fun w' => w'.cell? ⟨rb, 2, none⟩ = some (.slice Aw Sx.waits.length cw) ∧ w'.cell? ⟨rb, 3, none⟩ = some (.int .i64 Sx.tal.l) ∧ w'.cell? ⟨rb, 4, none⟩ = some (.int .i64 Sx.tal.s) ∧ w'.cell? ⟨rb, 5, none⟩ = some (.int .i64 Sx.tal.c) ∧ w'.cell? ⟨rb, 6, none⟩ = some (.int .i64 Sx.tal.m) ∧ w'.cell? ⟨rb, 7, none⟩ = some (.int .i64 Sx.tal.a)) (first | exact HF.out | exact HFT.out)
          (first
            | (go_at_call 14; refine (Waiting HP2.out.e_drew HP2.out.he).mono ?_; rintro e w' ⟨rfl, hw'⟩; subst hw')
            | (go_at_call 25; refine (HT.out).mono ?_; rintro e wt ⟨rfl, HPT, hkt⟩; have HFT := Lib.hid (HPT.cells HWV.out); have HPX := Lib.hid HPT; have qt := qy.drew.trans (hkt.mono (K' := fun b => b < w.heap.size) fun _ _ _ => trivial); clear HPT hkt))
        go_wp2_with fail
        go_roundw
        case rel => exact ⟨k + 1, _, _, Sx, by omega, by go_num, HPX, qt⟩
        case measure => simp [intOf]; omega
      have e3 : (p.1 == 3) = false := beq_eq_false_iff_ne.2 d3
      clear d3
      by_cases d4 : p.1 = 4
      · have e4 : (p.1 == 4) = true := beq_iff_eq.2 d4
        clear d4
        go_wp2_with fail
        refine (Safe HP.out.e HP.out.he).mono ?_
        rintro e wx ⟨rfl, hrx, hkx⟩
        have qx := HP.out.e.past q hkx
        have hR := HP.out.midR hkx
        go_wp2_with fail
        refine (SafeR hR HP.out.hr HP.out.d.ok).mono ?_
        rintro e wy ⟨rfl, hry, hky⟩
        have qy := hR.past qx hky
        have HP2 := Lib.hid (HP.out.step hrx HP.out.he (fun b hb => .inl hb) hkx hry HP.out.hr (fun b hb => .inl hb) hky (HP.out.d.asked))
        clear HP q hrx hkx hry hky hR qx
        obtain ⟨Sx, hSx⟩ : ∃ Sx, S.asked = Sx := ⟨_, rfl⟩
        rw [hSx] at HP2
        clear hSx
        have HT := Lib.hid HP2.out.tally_drew
        obtain ⟨Aw, cw, hwv⟩ := own_form HP2.out.r.wv
        have HWV := Lib.hid hwv
        have HF := Lib.hid (HP2.out.cells hwv)
        clear hwv
        go_upto_region 28 with fail
        go_region_held3 (fun w' => w'.cell? ⟨rb, 2, none⟩ = some (.slice Aw Sx.waits.length cw) ∧ w'.cell? ⟨rb, 3, none⟩ = some (.int .i64 Sx.tal.l) ∧ w'.cell? ⟨rb, 4, none⟩ = some (.int .i64 Sx.tal.s) ∧ w'.cell? ⟨rb, 5, none⟩ = some (.int .i64 Sx.tal.c) ∧ w'.cell? ⟨rb, 6, none⟩ = some (.int .i64 Sx.tal.m) ∧ w'.cell? ⟨rb, 7, none⟩ = some (.int .i64 Sx.tal.a)) (first | exact HF.out | exact HFT.out)
          (first
            | (go_at_call 14; refine (Waiting HP2.out.e_drew HP2.out.he).mono ?_; rintro e w' ⟨rfl, hw'⟩; subst hw')
            | (go_at_call 25; refine (HT.out).mono ?_; rintro e wt ⟨rfl, HPT, hkt⟩; have HFT := Lib.hid (HPT.cells HWV.out); have HPX := Lib.hid HPT; have qt := qy.drew.trans (hkt.mono (K' := fun b => b < w.heap.size) fun _ _ _ => trivial); clear HPT hkt))
        go_wp2_with fail
        go_roundw
        case rel => exact ⟨k + 1, _, _, Sx, by omega, by go_num, HPX, qt⟩
        case measure => simp [intOf]; omega
      have e4 : (p.1 == 4) = false := beq_eq_false_iff_ne.2 d4
      clear d4
      by_cases d5 : p.1 = 5
      · have e5 : (p.1 == 5) = true := beq_iff_eq.2 d5
        clear d5
        have hwl := HP.out.d.len
        have HM := Lib.hid (show S.waits.length * 16 ≤ 140737488355328 by omega)
        have HTL := Lib.hid (told_le S)
        have HM2 := Lib.hid (show (S.told.length + 1) * 8 ≤ 140737488355328 by have := HTL.out; omega)
        clear hwl
        go_wp2_with fail
        refine (Reclaim HP.out.e HP.out.he HM.out hbs).mono ?_
        rintro e wx ⟨A1, c1', L', rfl, hrow1, hrx, heL, hfL, hkx⟩
        have qx := HP.out.e.past q hkx
        have hR := HP.out.midR hkx
        go_wp2_with fail
        refine (ReclaimR hR HP.out.hr HP.out.d.ok HM.out qx.size).mono ?_
        rintro e wy ⟨A2, c2', R', rfl, hrow2, hry, heR, hfR, hky⟩
        have qy0 := hR.past qx hky
        have HP3 := HP.out.step hrx heL hfL hkx hry heR hfR hky HP.out.d.reclaim
        have hrow1y := ownsRow_kept hrow1 hky (fun g hg hf => by
          have h5 := (ownsRow_lt hrow1 hg).2
          have h6 := HP.out.r.foot_lt g hf
          omega)
        have hsz := hkx.size
        have hne : ∀ g, (Value.slice A1 S.told.length c1').ownBlock = some g → (Value.slice A2 S.told.length c2').ownBlock ≠ some g := fun g hg hg2 => by
          have h5 := (ownsRow_lt hrow1 hg).1
          have h6 := (ownsRow_lt hrow2 hg2).2
          omega
        have hout : ∀ g, (Value.slice A1 S.told.length c1').ownBlock = some g → ¬ (L'.foot g ∨ R'.foot g) ∧ ¬ g < w.heap.size := fun g hg => by
          have h5 := ownsRow_lt hrow1 hg
          refine ⟨fun hf => ?_, by omega⟩
          rcases hf with hf | hf
          · obtain ⟨cs, hcs⟩ := own_blk hrow1 hg
            exact hrx.alien hcs (by decide) hf
          · rcases hfR g hf with h6 | h6
            · have := HP.out.r.foot_lt g h6
              omega
            · omega
        have HROW1 := Lib.hid hrow1y
        have HROW2 := Lib.hid hrow2
        have HNE := Lib.hid hne
        have HOUT := Lib.hid hout
        have HP4 := Lib.hid HP3
        have HSZ := Lib.hid (show wr.heap.size ≤ wy.heap.size from Nat.le_trans hkx.size hky.size)
        clear HP q hrx hkx hry hky hR qx heL hfL heR hfR hrow1 hrow2 hrow1y hne hout HP3 hsz
        go_wp2_with fail
        have hlS : S.told.length = (S.told).length := rfl
        refine (same_any (l := S.told) HROW1.out HROW2.out HNE.out HM2.out HSZ.out).mono ?_
        rintro e wz ⟨rfl, hkz⟩
        have qy := qy0.trans (hkz.mono (K' := fun b => b < w.heap.size) fun b _ hb hg => (HOUT.out b hg).2 hb)
        have HP2 := Lib.hid (HP4.out.kept (hkz.mono fun b _ hb hg => (HOUT.out b hg).1 hb))
        clear HP4 qy0 hkz
        obtain ⟨Sx, hSx⟩ : ∃ Sx, S.reclaim = Sx := ⟨_, rfl⟩
        rw [hSx] at HP2
        clear hSx
        have HT := Lib.hid HP2.out.tally_drew
        obtain ⟨Aw, cw, hwv⟩ := own_form HP2.out.r.wv
        have HWV := Lib.hid hwv
        have HF := Lib.hid (HP2.out.cells hwv)
        clear hwv
        go_upto_region 28 with fail
        go_region_held3 (fun w' => w'.cell? ⟨rb, 2, none⟩ = some (.slice Aw Sx.waits.length cw) ∧ w'.cell? ⟨rb, 3, none⟩ = some (.int .i64 Sx.tal.l) ∧ w'.cell? ⟨rb, 4, none⟩ = some (.int .i64 Sx.tal.s) ∧ w'.cell? ⟨rb, 5, none⟩ = some (.int .i64 Sx.tal.c) ∧ w'.cell? ⟨rb, 6, none⟩ = some (.int .i64 Sx.tal.m) ∧ w'.cell? ⟨rb, 7, none⟩ = some (.int .i64 Sx.tal.a)) (first | exact HF.out | exact HFT.out)
          (first
            | (go_at_call 14; refine (Waiting HP2.out.e_drew HP2.out.he).mono ?_; rintro e w' ⟨rfl, hw'⟩; subst hw')
            | (go_at_call 25; refine (HT.out).mono ?_; rintro e wt ⟨rfl, HPT, hkt⟩; have HFT := Lib.hid (HPT.cells HWV.out); have HPX := Lib.hid HPT; have qt := qy.drew.trans (hkt.mono (K' := fun b => b < w.heap.size) fun _ _ _ => trivial); clear HPT hkt))
        go_wp2_with fail
        go_roundw
        case rel => exact ⟨k + 1, _, _, Sx, by omega, by go_num, HPX, qt⟩
        case measure => simp [intOf]; omega
      have e5 : (p.1 == 5) = false := beq_eq_false_iff_ne.2 d5
      clear d5
      have HP2 := Lib.hid HP.out.skip
      have qy := q
      clear HP q
      obtain ⟨Sx, hSx⟩ : ∃ Sx, S = Sx := ⟨_, rfl⟩
      rw [hSx] at HP2
      clear hSx
      have HT := Lib.hid HP2.out.tally_drew
      obtain ⟨Aw, cw, hwv⟩ := own_form HP2.out.r.wv
      have HWV := Lib.hid hwv
      have HF := Lib.hid (HP2.out.cells hwv)
      clear hwv
      go_upto_region 28 with fail
      go_region_held3 (fun w' => w'.cell? ⟨rb, 2, none⟩ = some (.slice Aw Sx.waits.length cw) ∧ w'.cell? ⟨rb, 3, none⟩ = some (.int .i64 Sx.tal.l) ∧ w'.cell? ⟨rb, 4, none⟩ = some (.int .i64 Sx.tal.s) ∧ w'.cell? ⟨rb, 5, none⟩ = some (.int .i64 Sx.tal.c) ∧ w'.cell? ⟨rb, 6, none⟩ = some (.int .i64 Sx.tal.m) ∧ w'.cell? ⟨rb, 7, none⟩ = some (.int .i64 Sx.tal.a)) (first | exact HF.out | exact HFT.out)
        (first
          | (go_at_call 14; refine (Waiting HP2.out.e_drew HP2.out.he).mono ?_; rintro e w' ⟨rfl, hw'⟩; subst hw')
          | (go_at_call 25; refine (HT.out).mono ?_; rintro e wt ⟨rfl, HPT, hkt⟩; have HFT := Lib.hid (HPT.cells HWV.out); have HPX := Lib.hid HPT; have qt := qy.drew.trans (hkt.mono (K' := fun b => b < w.heap.size) fun _ _ _ => trivial); clear HPT hkt))
      go_wp2_with fail
      go_roundw
      case rel => exact ⟨k + 1, _, _, Sx, by omega, by go_num, HPX, qt⟩
      case measure => simp [intOf]; omega
    · go_wp2_with fail
      go_ret
      exact ⟨rfl, q⟩
end Ytbefknaffopeaaa
end Go.Proofs
