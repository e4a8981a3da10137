/-
  A reader: New, Num, Raw, Bytes, Left, Done.
-/
import Derived.Test.YtglhkfiigbbpdaaNumber
set_option maxHeartbeats 1000000
namespace Go.Proofs
open Go.RowKit
theorem Try.cells56 : Try.prog.cellsOf 56 = 2 := by kernel_rfl
namespace Ytglhkfiigbbpdaa
attribute [local go_sem ↓] Go.wp_at_zero Go.wp_at_succ
/-! ### In plain Lean: what is left, and the error -/
def rnum (l : List UInt8) (e : Int) (most : Nat) : Nat × List UInt8 × Int :=
  if e ≠ 0 then (0, l, e) else ((number most l).1, l.drop (number most l).2.1, (number most l).2.2)
def rraw (l : List UInt8) (e : Int) (n : Int) : List UInt8 × List UInt8 × Int :=
  if e ≠ 0 then ([], l, e) else if n < 0 then ([], l, 1) else if (l.length : Int) < n then ([], l, 10) else (l.take n.toNat, l.drop n.toNat, 0)
def rbytes (l : List UInt8) (e : Int) (many : Int) : List UInt8 × List UInt8 × Int :=
  if e ≠ 0 then ([], l, e)
  else if (number many.toNat l).2.2 ≠ 0 then ([], l, (number many.toNat l).2.2)
  else if l.length - (number many.toNat l).2.1 < (number many.toNat l).1 then ([], l, 10)
  else rraw (l.drop (number many.toNat l).2.1) 0 (number many.toNat l).1
def rdone (l : List UInt8) (e : Int) : Int := if e = 0 ∧ 0 < l.length then 13 else e

structure NumOk (most : Nat) (l : List UInt8) (p : Nat × Nat × Int) : Prop where
  size : p.2.1 ≤ l.length
  val : p.1 ≤ most
  err : p.2.2 ≠ 0 → p.1 = 0 ∧ p.2.1 = 0
  pos : p.2.2 = 0 → 1 ≤ p.2.1
theorem numGo_ok (most : Nat) : ∀ (k i acc : Nat) (l : List UInt8), (numGo most k i acc l).2.1 ≤ i + l.length ∧ (numGo most k i acc l).1 ≤ most ∧ ((numGo most k i acc l).2.2 ≠ 0 → (numGo most k i acc l).1 = 0 ∧ (numGo most k i acc l).2.1 = 0) ∧ ((numGo most k i acc l).2.2 = 0 → 1 ≤ (numGo most k i acc l).2.1)
  | 0, i, acc, l => by simp [numGo]
  | k + 1, i, acc, [] => by simp [numGo]
  | k + 1, i, acc, x :: r => by
    rw [numGo]
    split
    · have := numGo_ok most k (i + 1) (acc + (x.toNat - 128) * 2 ^ (7 * i)) r
      rw [List.length_cons]
      refine ⟨by omega, this.2⟩
    · split
      · simp
      · split
        · simp
        · split
          · simp
          · next h => simp; omega
theorem number_ok (most : Nat) (l : List UInt8) : NumOk most l (number most l) := by
  have := numGo_ok most 10 0 0 l
  exact ⟨by have h := this.1; rw [Nat.zero_add] at h; exact h, this.2.1, this.2.2.1, this.2.2.2⟩

/-! ### In memory -/
structure RRd (w : World) (base rb lb : Nat) (l : List UInt8) (e : Int) : Prop where
  ex : ∃ off c, Blk w rb 56 #[.slice (some ⟨lb, off, none⟩) l.length c, .int .i64 e] ∧ Rd w (.slice (some ⟨lb, off, none⟩) l.length c) l
  lb_ : ∃ cs, Blk w lb 5 cs
  low : base ≤ rb ∧ base ≤ lb
  len : l.length ≤ 140737488355328
def rfoot (rb lb b : Nat) : Prop := b = rb ∨ b = lb
section
variable {w w' : World} {base rb lb : Nat} {l : List UInt8} {e : Int}
theorem RRd.kept (h : RRd w base rb lb l e) (hk : Kept (rfoot rb lb) w w') : RRd w' base rb lb l e := by
  obtain ⟨off, c, h1, h2⟩ := h.ex
  obtain ⟨cs, h3⟩ := h.lb_
  exact ⟨⟨off, c, h1.kept hk (.inl rfl), h2.kept hk fun _ g hg => .inr (by have : lb = g := by simpa [Value.ownBlock] using hg
                                                                           exact this.symm)⟩, ⟨cs, h3.kept hk (.inr rfl)⟩, h.low, h.len⟩
theorem RRd.foot_lt (h : RRd w base rb lb l e) : ∀ b, rfoot rb lb b → b < w.heap.size := by
  obtain ⟨off, c, h1, h2⟩ := h.ex
  obtain ⟨cs, h3⟩ := h.lb_
  rintro b (rfl | rfl)
  · exact h1.lt
  · exact h3.lt
theorem RRd.past {w0 wi wj : World} (h : RRd wi base rb lb l e) (q : Kept (fun b => b < base) w0 wi) (hk : Kept (fun b => ¬ rfoot rb lb b) wi wj) : Kept (fun b => b < base) w0 wj :=
  q.trans' hk fun i _ hi hf => by
    have := h.low
    rcases hf with rfl | rfl <;> omega

theorem newRd_any {v : Value} (h : Rd w v l) (hl : l.length ≤ 140737488355328) (hbase : base ≤ w.heap.size) :
    Calls Try.prog 15 #[v] w fun r w' => ∃ rb lb, r = .returned (.pointer (some ⟨rb, 0, none⟩)) ∧ RRd w' base rb lb l 0 ∧ (∀ b, rfoot rb lb b → w.heap.size ≤ b) ∧ Kept (fun _ => True) w w' := by
  have HR := Lib.hid h
  obtain ⟨A, c, rfl⟩ := h.form
  clear h
  go_enter Try.func15, Try.ntmps15
  go_wp2_with fail
  refine (copied_any _ l w HR.out (by omega)).mono ?_
  rintro r w1 ⟨v', rfl, hf⟩
  have hv := hf.val
  subst hv
  have hrd := hf.rd
  have hsz := hf.kept.size
  have hblt := hf.blk.lt
  go_wp2_with fail
  go_ret
  refine ⟨w1.heap.size, w.heap.size, rfl, ⟨⟨0, l.length, Blk.new _ _ _, hrd.all ((Kept.refl _ _).alloc _)⟩, ⟨_, hf.blk.alloc _⟩, ⟨by omega, hbase⟩, hl⟩, ?_, hf.kept.alloc _⟩
  rintro b (rfl | rfl)
  · exact hsz
  · exact Nat.le_refl _

/-- The bytes from a place on. -/
theorem Rd.drop {off c k : Nat} (h : Rd w (.slice (some ⟨lb, off, none⟩) l.length c) l) (hk : k ≤ l.length) (off' c' : Nat) (ho : k < l.length → off' = off + k) (hc' : l.length - k ≤ c') : Rd w (.slice (some ⟨lb, off', none⟩) (l.length - k) c') (l.drop k) := by
  obtain ⟨A, c0, hv, hlc, hA⟩ := h
  injection hv with h1 _ h3
  subst h1 h3
  refine ⟨some ⟨lb, off', none⟩, c', by rw [List.length_drop], by rw [List.length_drop]; exact hc', fun i u hu => ⟨lb, off', rfl, ?_⟩⟩
  have hl := (List.getElem?_eq_some_iff.1 hu).1
  rw [List.length_drop] at hl
  rw [List.getElem?_drop] at hu
  obtain ⟨b, o, hbo, hc⟩ := hA _ u hu
  injection hbo with hbo
  injection hbo with hb1 hb2
  subst hb1 hb2
  rw [ho (by omega), Nat.add_assoc]
  exact hc
theorem Rd.take {off c k : Nat} (h : Rd w (.slice (some ⟨lb, off, none⟩) l.length c) l) (hk : k ≤ l.length) (c' : Nat) (hc' : k ≤ c') : Rd w (.slice (some ⟨lb, off, none⟩) k c') (l.take k) := by
  obtain ⟨A, c0, hv, hlc, hA⟩ := h
  injection hv with h1 _ h3
  subst h1 h3
  have hl : (l.take k).length = k := by rw [List.length_take]; omega
  refine ⟨some ⟨lb, off, none⟩, c', by rw [hl], by rw [hl]; exact hc', fun i u hu => ⟨lb, off, rfl, ?_⟩⟩
  rw [List.getElem?_take] at hu
  split at hu
  · obtain ⟨b, o, hbo, hc⟩ := hA i u hu
    injection hbo with hbo
    injection hbo with hb1 hb2
    subst hb1 hb2
    exact hc
  · cases hu
theorem rd_rest {off c k off' c' : Nat} {e' : Int} (hrd : Rd w (.slice (some ⟨lb, off, none⟩) l.length c) l) (hlb : ∃ cs, Blk w lb 5 cs) (hlow : base ≤ rb ∧ base ≤ lb) (hlen : l.length ≤ 140737488355328) (hk : k ≤ l.length)
    (ho : k < l.length → off' = off + k) (hc' : l.length - k ≤ c') (hb : Blk w' rb 56 #[.slice (some ⟨lb, off', none⟩) (l.length - k) c', .int .i64 e']) (hkk : Kept (fun b => b ≠ rb) w w') (hne : lb ≠ rb) : RRd w' base rb lb (l.drop k) e' ∧ Kept (fun b => ¬ rfoot rb lb b) w w' := by
  obtain ⟨cs, h3⟩ := hlb
  have h2 := (hrd.drop hk off' c' ho hc').kept hkk fun _ g hg => by
    have : lb = g := by simpa [Value.ownBlock] using hg
    rw [← this]
    exact hne
  refine ⟨⟨⟨off', c', by rw [List.length_drop]; exact hb, by rw [List.length_drop]; exact h2⟩, ⟨cs, h3.kept hkk hne⟩, hlow, by rw [List.length_drop]; omega⟩, hkk.mono fun b _ hf he => hf (.inl he)⟩
theorem numR_any (h : RRd w base rb lb l e) (most : Nat) (hm : most < 18446744073709551616) :
    Calls Try.prog 17 #[.pointer (some ⟨rb, 0, none⟩), .int .u64 (most : Int)] w fun r w' => r = .returned (.int .u64 ((rnum l e most).1 : Int)) ∧ RRd w' base rb lb (rnum l e most).2.1 (rnum l e most).2.2 ∧ Kept (fun b => ¬ rfoot rb lb b) w w' := by
  obtain ⟨off, c, hb, hrd⟩ := h.ex
  have c0 : w.cell? ⟨rb, 0, none⟩ = some (.slice (some ⟨lb, off, none⟩) l.length c) := hb.cell 0
  have c1 : w.cell? ⟨rb, 1, none⟩ = some (.int .i64 e) := hb.cell 1
  have f0 : w.frozen? ⟨rb, 0, none⟩ = false := hb.frozen 0
  have f1 : w.frozen? ⟨rb, 1, none⟩ = false := hb.frozen 1
  have HB := Lib.hid hb
  have HRD := Lib.hid hrd
  have HH := Lib.hid h
  by_cases he : e = 0
  · subst he
    obtain ⟨⟨n, sz, er⟩, hp⟩ : ∃ p, number most l = p := ⟨_, rfl⟩
    have hok := number_ok most l
    rw [hp] at hok
    have hsz := hok.size
    simp only at hsz
    have hlc : l.length ≤ c := by
      obtain ⟨_, _, hv, hlc, _⟩ := hrd
      injection hv with _ _ h3
      rw [h3]
      exact hlc
    have hszc : sz ≤ c := by omega
    have hsz2 : 0 ≤ (sz : Int) ∧ (sz : Int) ≤ (l.length : Int) := by omega
    have HP := Lib.hid hp
    clear hp hok hb hrd h
    have hne : lb ≠ rb := by
      obtain ⟨cs, h3⟩ := HH.out.lb_
      exact h3.ne_ HB.out (by decide)
    have HNE := Lib.hid hne
    clear hne
    go_enter Try.func17, Try.ntmps17
    go_wp2_with fail
    refine (number_any _ l most w HRD.out (by have := HH.out.len; omega) hm).mono ?_
    rintro r w' ⟨hr, hw'⟩
    rw [HP.out] at hr
    change r = .returned (.tuple #[.int .u64 (n : Int), .int .i64 (sz : Int), .int .i64 er]) at hr
    subst hr hw'
    go_wp2_with fail
    all_goals go_ret
    all_goals
      have e1 : rnum l 0 most = (n, l.drop sz, er) := by unfold rnum; rw [if_neg (by simp), HP.out]
      rw [e1]
    all_goals
      refine ⟨rfl, ?_⟩
      exact rd_rest (k := sz) HRD.out HH.out.lb_ HH.out.low HH.out.len hsz (by first | exact fun _ => rfl | (intro h; omega)) (by omega) ((HB.out.set_ 0 _).set_ 1 _) (((Kept.refl _ _).setCell (fun _ hn => hn rfl) _).setCell (fun _ hn => hn rfl) _) HNE.out
  · have hd : (e == 0) = false := beq_eq_false_iff_ne.2 he
    have HE := Lib.hid he
    clear hb hrd h he
    go_enter Try.func17, Try.ntmps17
    go_wp2_with fail
    go_ret
    have e1 : rnum l e most = (0, l, e) := by unfold rnum; rw [if_pos HE.out]
    rw [e1]
    exact ⟨rfl, HH.out, Kept.refl _ _⟩
theorem leftR_any (h : RRd w base rb lb l e) : Calls Try.prog 23 #[.pointer (some ⟨rb, 0, none⟩)] w fun r w' => r = .returned (.int .i64 (l.length : Int)) ∧ w' = w := by
  obtain ⟨off, c, hb, hrd⟩ := h.ex
  have c0 : w.cell? ⟨rb, 0, none⟩ = some (.slice (some ⟨lb, off, none⟩) l.length c) := hb.cell 0
  go_enter Try.func23, Try.ntmps23
  go_wp2
  go_ret
  exact ⟨rfl, rfl⟩
theorem doneR_any (h : RRd w base rb lb l e) : Calls Try.prog 25 #[.pointer (some ⟨rb, 0, none⟩)] w fun r w' => r = .returned (.int .i64 (rdone l e)) ∧ w' = w := by
  obtain ⟨off, c, hb, hrd⟩ := h.ex
  have c0 : w.cell? ⟨rb, 0, none⟩ = some (.slice (some ⟨lb, off, none⟩) l.length c) := hb.cell 0
  have c1 : w.cell? ⟨rb, 1, none⟩ = some (.int .i64 e) := hb.cell 1
  by_cases he : e = 0
  · subst he
    by_cases hl : 0 < l.length
    · have e1 : rdone l 0 = 13 := by unfold rdone; rw [if_pos ⟨rfl, hl⟩]
      have hd : decide (0 < (l.length : Int)) = true := by simp; omega
      rw [e1]
      clear hb hrd h
      go_enter Try.func25, Try.ntmps25
      go_wp2_with fail
      go_ret
      exact ⟨rfl, rfl⟩
    · have e1 : rdone l 0 = 0 := by unfold rdone; rw [if_neg (fun h => hl h.2)]
      have hd : decide (0 < (l.length : Int)) = false := decide_eq_false (by omega)
      rw [e1]
      clear hb hrd h
      go_enter Try.func25, Try.ntmps25
      go_wp2_with fail
      go_ret
      exact ⟨rfl, rfl⟩
  · have e1 : rdone l e = e := by unfold rdone; rw [if_neg (fun h => he h.1)]
    have hd : (e == 0) = false := beq_eq_false_iff_ne.2 he
    rw [e1]
    clear hb hrd h he
    go_enter Try.func25, Try.ntmps25
    go_wp2_with fail
    go_ret
    exact ⟨rfl, rfl⟩

theorem rawR_any (h : RRd w base rb lb l e) (n : Int) :
    Calls Try.prog 21 #[.pointer (some ⟨rb, 0, none⟩), .int .i64 n] w fun r w' => ∃ v, r = .returned v ∧ Row1 w' w.heap.size 5 v (bc (rraw l e n).1) ∧ RRd w' base rb lb (rraw l e n).2.1 (rraw l e n).2.2 ∧ Kept (fun b => ¬ rfoot rb lb b) w w' := by
  obtain ⟨off, c, hb, hrd⟩ := h.ex
  have c0 : w.cell? ⟨rb, 0, none⟩ = some (.slice (some ⟨lb, off, none⟩) l.length c) := hb.cell 0
  have c1 : w.cell? ⟨rb, 1, none⟩ = some (.int .i64 e) := hb.cell 1
  have f0 : w.frozen? ⟨rb, 0, none⟩ = false := hb.frozen 0
  have f1 : w.frozen? ⟨rb, 1, none⟩ = false := hb.frozen 1
  have HB := Lib.hid hb
  have HRD := Lib.hid hrd
  have HH := Lib.hid h
  have hne : lb ≠ rb := by
    obtain ⟨cs, h3⟩ := h.lb_
    exact h3.ne_ hb (by decide)
  have HNE := Lib.hid hne
  have hlc : l.length ≤ c := by
    obtain ⟨_, _, hv, hlc, _⟩ := hrd
    injection hv with _ _ h3
    rw [h3]
    exact hlc
  clear hb hrd h hne
  have ERR : Hid (∀ x : Int, RRd (w.setCell ⟨rb, 1, none⟩ (.int .i64 x)) base rb lb l x ∧ Kept (fun b => ¬ rfoot rb lb b) w (w.setCell ⟨rb, 1, none⟩ (.int .i64 x))) := Lib.hid fun x => by
    have hk : Kept (fun b => b ≠ rb) w (w.setCell ⟨rb, 1, none⟩ (.int .i64 x)) := (Kept.refl _ w).setCell (fun _ hn => hn rfl) _
    exact rd_rest (k := 0) HRD.out HH.out.lb_ HH.out.low HH.out.len (Nat.zero_le _) (fun _ => rfl) (by omega) (HB.out.set_ 1 _) hk HNE.out
  by_cases he : e = 0
  · subst he
    by_cases hn0 : n < 0
    · have hd : decide (n < 0) = true := by simp; omega
      have HN := Lib.hid hn0
      clear hn0
      go_enter Try.func21, Try.ntmps21
      go_wp2_with fail
      go_ret
      have e1 : rraw l 0 n = ([], l, 1) := by unfold rraw; rw [if_neg (by simp), if_pos (by have := HN.out; omega)]
      rw [e1]
      exact ⟨_, rfl, .inl ⟨rfl, rfl⟩, (ERR.out 1).1, (ERR.out 1).2⟩
    · have hd : decide (n < 0) = false := by simp; omega
      by_cases hbig : (l.length : Int) < n
      · have hd2 : decide ((l.length : Int) < n) = true := by simp; omega
        have HN := Lib.hid hn0
        have HBG := Lib.hid hbig
        clear hn0 hbig
        go_enter Try.func21, Try.ntmps21
        go_wp2_with fail
        go_ret
        have e1 : rraw l 0 n = ([], l, 10) := by unfold rraw; rw [if_neg (by simp), if_neg (by have := HN.out; omega), if_pos (by have := HBG.out; omega)]
        rw [e1]
        exact ⟨_, rfl, .inl ⟨rfl, rfl⟩, (ERR.out 10).1, (ERR.out 10).2⟩
      · obtain ⟨k, rfl⟩ := Int.eq_ofNat_of_zero_le (show 0 ≤ n by omega)
        have hd2 : decide ((l.length : Int) < (k : Int)) = false := by simp; omega
        have e1 : rraw l 0 (k : Int) = (l.take k, l.drop k, 0) := by unfold rraw; rw [if_neg (by simp), if_neg hn0, if_neg hbig]; simp
        have hkl : k ≤ l.length := by omega
        have hkc : k ≤ c := by omega
        have hk2 : 0 ≤ (k : Int) ∧ (k : Int) ≤ (l.length : Int) := by omega
        have hk3 : (k : Int) ≤ (c : Int) := by omega
        rw [e1]
        clear e1 hn0 hbig
        have hlt : (l.take k).length = k := by rw [List.length_take]; omega
        have HLT := Lib.hid hlt
        clear hlt
        go_enter Try.func21, Try.ntmps21
        go_wp2_with fail
        refine (copied_any _ (l.take k) w (HRD.out.take hkl _ hkc) (by rw [HLT.out]; have := HH.out.len; omega)).mono ?_
        rintro r w1 ⟨v', rfl, hf⟩
        have hv := hf.val
        subst hv
        have hbl : base ≤ w.heap.size := by
          have := HH.out.foot_lt rb (.inl rfl)
          have := HH.out.low
          omega
        have hrow := hf.row (Nat.le_refl _) (by rw [HLT.out]; have := HH.out.len; unfold maxLen; omega)
        rw [HLT.out] at hrow
        have hk1 := hf.kept
        have hb1 := HB.out.kept hk1 trivial
        have d0 : w1.cell? ⟨rb, 0, none⟩ = some (.slice (some ⟨lb, off, none⟩) l.length c) := hb1.cell 0
        have d0f : w1.frozen? ⟨rb, 0, none⟩ = false := hb1.frozen 0
        have HROW := Lib.hid hrow
        have HK1 := Lib.hid hk1
        have HB1 := Lib.hid hb1
        have HRD1 := Lib.hid (HRD.out.kept hk1 fun _ _ _ => trivial)
        have HLB : Hid (∃ cs, Blk w1 lb 5 cs) := by
          obtain ⟨cs, h3⟩ := HH.out.lb_
          exact ⟨cs, h3.kept hk1 trivial⟩
        clear hrow hk1 hb1 hf
        go_wp2_with fail
        all_goals go_ret
        all_goals
          refine ⟨_, rfl, HROW.out.far HB1.out (by decide) _ _, ?_⟩
          refine And.imp id (fun h => (HK1.out.mono fun _ _ _ => trivial).trans h) ?_
          exact rd_rest (k := k) HRD1.out HLB.out HH.out.low HH.out.len hkl (by first | exact fun _ => rfl | (intro h; omega)) (by omega) (HB1.out.set_ 0 _) ((Kept.refl _ w1).setCell (fun _ hn => hn rfl) _) HNE.out
  · have hd : (e == 0) = false := beq_eq_false_iff_ne.2 he
    have HE := Lib.hid he
    clear he
    go_enter Try.func21, Try.ntmps21
    go_wp2_with fail
    go_ret
    have e1 : rraw l e n = ([], l, e) := by unfold rraw; rw [if_pos HE.out]
    rw [e1]
    exact ⟨_, rfl, .inl ⟨rfl, rfl⟩, HH.out, Kept.refl _ _⟩

theorem bytesR_any (h : RRd w base rb lb l e) (many : Int) (hmany : many ≤ 9223372036854775807) :
    Calls Try.prog 19 #[.pointer (some ⟨rb, 0, none⟩), .int .i64 many] w fun r w' => ∃ v, r = .returned v ∧ Row1 w' w.heap.size 5 v (bc (rbytes l e many).1) ∧ RRd w' base rb lb (rbytes l e many).2.1 (rbytes l e many).2.2 ∧ Kept (fun b => ¬ rfoot rb lb b) w w' := by
  obtain ⟨off, c, hb, hrd⟩ := h.ex
  have c0 : w.cell? ⟨rb, 0, none⟩ = some (.slice (some ⟨lb, off, none⟩) l.length c) := hb.cell 0
  have c1 : w.cell? ⟨rb, 1, none⟩ = some (.int .i64 e) := hb.cell 1
  have f0 : w.frozen? ⟨rb, 0, none⟩ = false := hb.frozen 0
  have f1 : w.frozen? ⟨rb, 1, none⟩ = false := hb.frozen 1
  have HB := Lib.hid hb
  have HRD := Lib.hid hrd
  have HH := Lib.hid h
  have hne : lb ≠ rb := by
    obtain ⟨cs, h3⟩ := h.lb_
    exact h3.ne_ hb (by decide)
  have HNE := Lib.hid hne
  have hlc : l.length ≤ c := by
    obtain ⟨_, _, hv, hlc, _⟩ := hrd
    injection hv with _ _ h3
    rw [h3]
    exact hlc
  clear hb hrd h hne
  have ERR : Hid (∀ x : Int, RRd (w.setCell ⟨rb, 1, none⟩ (.int .i64 x)) base rb lb l x ∧ Kept (fun b => ¬ rfoot rb lb b) w (w.setCell ⟨rb, 1, none⟩ (.int .i64 x))) := Lib.hid fun x => by
    have hk : Kept (fun b => b ≠ rb) w (w.setCell ⟨rb, 1, none⟩ (.int .i64 x)) := (Kept.refl _ w).setCell (fun _ hn => hn rfl) _
    exact rd_rest (k := 0) HRD.out HH.out.lb_ HH.out.low HH.out.len (Nat.zero_le _) (fun _ => rfl) (by omega) (HB.out.set_ 1 _) hk HNE.out
  by_cases he : e = 0
  · subst he
    obtain ⟨⟨n, sz, er⟩, hp⟩ : ∃ p, number many.toNat l = p := ⟨_, rfl⟩
    have hok := number_ok many.toNat l
    rw [hp] at hok
    have hsz := hok.size
    have hval := hok.val
    have herr := hok.err
    simp only at hsz hval herr
    have hll := HH.out.len
    have hszc : sz ≤ c := by omega
    have hsz2 : 0 ≤ (sz : Int) ∧ (sz : Int) ≤ (l.length : Int) := by omega
    have HP := Lib.hid hp
    have HER := Lib.hid herr
    have hmt : many.toNat < 18446744073709551616 := by omega
    have HN1 : Hid (∀ z : Int, z = (many.toNat : Int) → Calls Try.prog 30 #[.slice (some ⟨lb, off, none⟩) l.length c, .int .u64 z] w fun r w' => r = .returned (.tuple #[.int .u64 (n : Int), .int .i64 (sz : Int), .int .i64 er]) ∧ w' = w) := Lib.hid fun z hz => by
      rw [hz]
      refine (number_any _ l many.toNat w HRD.out (by omega) hmt).mono ?_
      rintro r w' ⟨hr, hw⟩
      rw [hp] at hr
      exact ⟨hr, hw⟩
    clear hp hok herr
    by_cases her : er = 0
    · subst her
      by_cases hbig : l.length - sz < n
      · have hd : decide ((l.length : Int) - (sz : Int) < (n : Int)) = true := by simp; omega
        have HBG := Lib.hid hbig
        clear hbig
        go_enter Try.func19, Try.ntmps19
        go_wp2_with fail
        all_goals refine (HN1.out _ (by omega)).mono ?_
        all_goals (rintro r w' ⟨rfl, rfl⟩; go_wp2_with fail; go_ret)
        all_goals
          have e1 : rbytes l 0 many = ([], l, 10) := by unfold rbytes; rw [if_neg (by simp), HP.out, if_neg (by simp), if_pos (by have := HBG.out; omega)]
          rw [e1]
          exact ⟨_, rfl, .inl ⟨rfl, rfl⟩, (ERR.out 10).1, (ERR.out 10).2⟩
      · have hd : decide ((l.length : Int) - (sz : Int) < (n : Int)) = false := by simp; omega
        have hnw : IntKind.i64.wrap (n : Int) = (n : Int) := by rw [IntKind.wrap_i64]; omega
        have e1 : Hid (rbytes l 0 many = rraw (l.drop sz) 0 (n : Int)) := by unfold Hid rbytes; rw [if_neg (by simp), HP.out, if_neg (by simp), if_neg (by omega)]
        clear hbig
        go_enter Try.func19, Try.ntmps19
        go_wp2_with fail
        all_goals refine (HN1.out _ (by omega)).mono ?_
        all_goals (rintro r w' ⟨rfl, rfl⟩; go_wp2_with fail)
        all_goals refine (rawR_any (base := base) (rb := rb) (lb := lb) (l := l.drop sz) (e := 0) (rd_rest (k := sz) HRD.out HH.out.lb_ HH.out.low HH.out.len hsz (by first | exact fun _ => rfl | (intro h; omega)) (by omega) ((HB.out.set_ 1 _).set_ 0 _) (((Kept.refl _ _).setCell (fun _ hn => hn rfl) _).setCell (fun _ hn => hn rfl) _) HNE.out).1 (n : Int)).mono ?_
        all_goals
          rintro r w2 ⟨v, rfl, hrow, hr2, hk2⟩
          obtain ⟨A2, c2, hv2⟩ := hrow.form
          subst hv2
          have hrow2 := hrow
          simp only [World.size_setCell] at hrow2
          have HROW := Lib.hid hrow2
          have HR2 := Lib.hid hr2
          have HK2 := Lib.hid hk2
          clear hrow hrow2 hr2 hk2
          go_wp2_with fail
          go_ret
          rw [e1.out]
          exact ⟨_, rfl, HROW.out, HR2.out, (((Kept.refl _ _).setCell (fun _ hn => hn (.inl rfl)) _).setCell (fun _ hn => hn (.inl rfl)) _).trans HK2.out⟩
    · have hd : (er == 0) = false := beq_eq_false_iff_ne.2 her
      have HE := Lib.hid her
      clear her
      go_enter Try.func19, Try.ntmps19
      go_wp2_with fail
      all_goals refine (HN1.out _ (by omega)).mono ?_
      all_goals (rintro r w' ⟨rfl, rfl⟩; go_wp2_with fail; go_ret)
      all_goals
        have e1 : rbytes l 0 many = ([], l, er) := by unfold rbytes; rw [if_neg (by simp), HP.out, if_pos HE.out]
        rw [e1]
        exact ⟨_, rfl, .inl ⟨rfl, rfl⟩, (ERR.out er).1, (ERR.out er).2⟩
  · have hd : (e == 0) = false := beq_eq_false_iff_ne.2 he
    have HE := Lib.hid he
    clear he
    go_enter Try.func19, Try.ntmps19
    go_wp2_with fail
    go_ret
    have e1 : rbytes l e many = ([], l, e) := by unfold rbytes; rw [if_pos HE.out]
    rw [e1]
    exact ⟨_, rfl, .inl ⟨rfl, rfl⟩, HH.out, Kept.refl _ _⟩
end
end Ytglhkfiigbbpdaa
end Go.Proofs
