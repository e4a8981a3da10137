/-
  PageHalves: the walk.
-/
import Derived.Test.YtfoolgojcmkdbaaMerge
import Derived.Test.YtfoolgojcmkdbaaSplitNo
import Derived.Test.YtfoolgojcmkdbaaHalvesLaws
import Derived.Test.YtfoolgojcmkdbaaAwake
set_option maxHeartbeats 8000000
set_option maxRecDepth 100000
namespace Go.Proofs
open Go.RowKit
namespace Ytfoolgojcmkdbaa
attribute [local go_sem ↓] Go.wp_at_zero Go.wp_at_succ
def zp : Page := ⟨0, ⟨#[]⟩, ⟨#[]⟩, false, 0, [], []⟩
theorem same_zero (W : World) : Calls Try.prog 10 #[.agg #[.int .i64 0, .string ⟨#[]⟩, .string ⟨#[]⟩, .bool false, .int .i64 0, .slice none 0 0, .slice none 0 0], .agg #[.int .i64 0, .string ⟨#[]⟩, .string ⟨#[]⟩, .bool false, .int .i64 0, .slice none 0 0, .slice none 0 0]] W fun e w' => e = .returned (.bool true) ∧ Kept (fun _ => True) W w' := by
  have := same_any zp zp (iA := none) (kA := none) (jA := none) (mA := none) (ic := 0) (kc := 0) (jc := 0) (mc := 0) W (RdK.nil W) (RdK.nil W) (RdK.nil W) (RdK.nil W) (by simp [zp]) (by simp [zp])
  rw [decide_eq_true rfl] at this
  exact this
/-- Each key has a place among keys that rise. -/
theorem at_ex {ks : List ByteArray} (hs : Sorted ks) (q : ByteArray) : ∃ i f, At ks q i f := by
  induction ks with
  | nil => exact ⟨0, false, Nat.le_refl _, fun j k hj => absurd hj (Nat.not_lt_zero _), fun j k _ hk => by simp at hk, by simp⟩
  | cons x l ih =>
    obtain ⟨hx, hl⟩ := List.pairwise_cons.1 hs
    cases h1 : lt x q with
    | true =>
      obtain ⟨i, f, h⟩ := ih hl
      refine ⟨i + 1, f, by have := h.le; simp; omega, fun j k hj hk => ?_, fun j k hj hk => ?_, by rw [h.is]; simp⟩
      · cases j with
        | zero => injection hk with hk; rw [← hk]; exact h1
        | succ j => exact h.lo j k (by omega) (by simpa using hk)
      · cases j with
        | zero => omega
        | succ j => exact h.hi j k (by omega) (by simpa using hk)
    | false =>
      refine ⟨0, decide (x = q), Nat.zero_le _, fun j k hj => absurd hj (Nat.not_lt_zero _), fun j k _ hk => ?_, by simp⟩
      cases j with
      | zero => injection hk with hk; rw [← hk]; exact h1
      | succ j =>
        have hxk := hx k (List.mem_of_getElem? (by simpa using hk))
        cases h2 : lt k q with
        | false => rfl
        | true => rw [lt_trans hxk h2] at h1; cases h1
theorem BoxH.go {w w' : World} {b : Nat} {lv sd : Int} {lo hi : ByteArray} {la : Bool} {iv kv : Value} (h : Hid (Box w b lv lo hi la sd iv kv)) (hk : Kept (fun _ => True) w w') : Hid (Box w' b lv lo hi la sd iv kv) := Lib.hid (h.out.kept hk)
theorem FourH.go {w w' : World} {b o : Nat} {k v : ByteArray} {n : Int} {g : Bool} (h : Hid (Four w b o k v n g)) (hk : Kept (fun _ => True) w w') : Hid (Four w' b o k v n g) := Lib.hid (h.out.kept hk)
theorem halves_no (p : Page) (key other : ByteArray) (at_ : Int) {iA kA : Option Addr} {ic kc : Nat} (w : World) (c : Int) (hc : c ≠ 0)
    (hsp : ∀ W, Kept (fun _ => True) w W → Calls Try.prog 13 #[pv p (.slice iA p.items.length ic) (.slice kA p.kids.length kc), .string key, .int .i64 at_] W fun e w' => e = .returned (.tuple #[.agg #[.int .i64 0, .string ⟨#[]⟩, .string ⟨#[]⟩, .bool false, .int .i64 0, .slice none 0 0, .slice none 0 0], .agg #[.int .i64 0, .string ⟨#[]⟩, .string ⟨#[]⟩, .bool false, .int .i64 0, .slice none 0 0, .slice none 0 0], .int .i64 c]) ∧ Kept (fun _ => True) W w') :
    Calls Try.prog 5 #[pv p (.slice iA p.items.length ic) (.slice kA p.kids.length kc), .string key, .int .i64 at_, .string other] w fun e w' => e = .returned (.bool true) ∧ Kept (fun _ => True) w w' := by
  obtain ⟨lv, lo, hi, la, sd, il, kl⟩ := p
  unfold pv at *
  simp only at *
  generalize il.length = n at hsp ⊢
  generalize kl.length = m at hsp ⊢
  have hc' : (c != 0) = true := by simpa using hc
  have k0 := (Kept.refl (fun _ => True) w).alloc (.cells #[.int .i64 lv, .string lo, .string hi, .bool la, .int .i64 sd, .slice iA n ic, .slice kA m kc] 25)
  have hb := Box.new (lv := lv) (lo := lo) (hi := hi) (la := la) (sd := sd) (iv := .slice iA n ic) (kv := .slice kA m kc) w
  go_enter Try.func5, Try.ntmps5
  go_wp2_with fail
  generalize w.alloc (.cells #[.int .i64 lv, .string lo, .string hi, .bool la, .int .i64 sd, .slice iA n ic, .slice kA m kc] 25) = w0 at k0 hb ⊢
  refine (awake_any _).mono ?_
  rintro e w1 ⟨rfl, hk1⟩
  obtain ⟨b0, b1, b2, b3, b4, b5, b6⟩ := hb.kept hk1
  have K1 := Lib.hid (k0.trans hk1)
  clear hb k0 hk1
  go_wp2_with fail
  clear b0 b1 b2 b3 b4 b5 b6
  refine (hsp _ K1.out).mono ?_
  rintro e w2 ⟨rfl, hk2⟩
  have K2 := Lib.hid (K1.out.trans hk2)
  have hL := Lib.hid ((Blk.new w2 25 #[.int .i64 0, .string ⟨#[]⟩, .string ⟨#[]⟩, .bool false, .int .i64 0, .slice none 0 0, .slice none 0 0]).alloc (.cells #[.int .i64 0, .string ⟨#[]⟩, .string ⟨#[]⟩, .bool false, .int .i64 0, .slice none 0 0, .slice none 0 0] 25))
  have hs1 : (w2.alloc (.cells #[.int .i64 0, .string ⟨#[]⟩, .string ⟨#[]⟩, .bool false, .int .i64 0, .slice none 0 0, .slice none 0 0] 25)).heap.size = w2.heap.size + 1 := by simp
  have hR := Blk.new (w2.alloc (.cells #[.int .i64 0, .string ⟨#[]⟩, .string ⟨#[]⟩, .bool false, .int .i64 0, .slice none 0 0, .slice none 0 0] 25)) 25 #[.int .i64 0, .string ⟨#[]⟩, .string ⟨#[]⟩, .bool false, .int .i64 0, .slice none 0 0, .slice none 0 0]
  rw [hs1] at hR
  have HR := Lib.hid hR
  have kk := ((Kept.refl (fun _ => True) w2).alloc (.cells #[.int .i64 0, .string ⟨#[]⟩, .string ⟨#[]⟩, .bool false, .int .i64 0, .slice none 0 0, .slice none 0 0] 25)).alloc (.cells #[.int .i64 0, .string ⟨#[]⟩, .string ⟨#[]⟩, .bool false, .int .i64 0, .slice none 0 0, .slice none 0 0] 25)
  have K3 := Lib.hid (K2.out.trans kk)
  clear hsp hk2 hs1 hR kk
  go_upto_region 3 with fail
  generalize (w2.alloc (.cells #[.int .i64 0, .string ⟨#[]⟩, .string ⟨#[]⟩, .bool false, .int .i64 0, .slice none 0 0, .slice none 0 0] 25)).alloc (.cells #[.int .i64 0, .string ⟨#[]⟩, .string ⟨#[]⟩, .bool false, .int .i64 0, .slice none 0 0, .slice none 0 0] 25) = w3 at K3 hL HR ⊢
  have l0 := hL.out.cell 0
  have l1 := hL.out.cell 1
  have l2 := hL.out.cell 2
  have l3 := hL.out.cell 3
  have l4 := hL.out.cell 4
  have l5 := hL.out.cell 5
  have l6 := hL.out.cell 6
  go_wp2_with fail
  refine (same_zero _).mono ?_
  rintro e w4 ⟨rfl, hk4⟩
  have r0 := (HR.out.kept hk4 trivial).cell 0
  have r1 := (HR.out.kept hk4 trivial).cell 1
  have r2 := (HR.out.kept hk4 trivial).cell 2
  have r3 := (HR.out.kept hk4 trivial).cell 3
  have r4 := (HR.out.kept hk4 trivial).cell 4
  have r5 := (HR.out.kept hk4 trivial).cell 5
  have r6 := (HR.out.kept hk4 trivial).cell 6
  clear l0 l1 l2 l3 l4 l5 l6
  go_wp2_with fail
  refine (same_zero _).mono ?_
  rintro e w5 ⟨rfl, hk5⟩
  go_wp2_with fail
  go_ret
  exact ⟨rfl, (K3.out.trans hk4).trans hk5⟩
theorem halves_yes (p : Page) (key other : ByteArray) (at_ : Int) {iA kA : Option Addr} {ic kc : Nat} (w : World) (hi : ItR w (.slice iA p.items.length ic) p.items) (hk : KdR w (.slice kA p.kids.length kc) p.kids) {i0 k0 : Nat} (h : Cut p key at_ i0 k0) :
    Calls Try.prog 5 #[pv p (.slice iA p.items.length ic) (.slice kA p.kids.length kc), .string key, .int .i64 at_, .string other] w fun e w' => e = .returned (.bool true) ∧ Kept (fun _ => True) w w' := by
  obtain ⟨f0, hf0⟩ := h.ati
  obtain ⟨g0, hg0, hlg⟩ := h.atk
  have hni : p.items.length ≤ 120 := by
    by_cases hl : p.level = 0
    · exact ((check_iff.1 h.chk).2.1 hl).len
    · rw [((check_iff.1 h.chk).2.2 hl).items]; exact Nat.zero_le _
  have hnk : p.kids.length ≤ 120 := by
    by_cases hl : p.level = 0
    · rw [((check_iff.1 h.chk).2.1 hl).kids]; exact Nat.zero_le _
    · exact ((check_iff.1 h.chk).2.2 hl).len.2
  have hle1 : i0 ≤ p.items.length := by have := hf0.le; simpa using this
  have hle2 : k0 ≤ p.kids.length := by have := hg0.le; simpa using this
  have e1 : (p.items.take i0).length = i0 := by rw [List.length_take]; omega
  have e2 : (p.kids.take k0).length = k0 := by rw [List.length_take]; omega
  have e3 : (p.items.drop i0).length = p.items.length - i0 := List.length_drop
  have e4 : (p.kids.drop k0).length = p.kids.length - k0 := List.length_drop
  have hsp : ∀ W, Kept (fun _ => True) w W → Calls Try.prog 13 #[pv p (.slice iA p.items.length ic) (.slice kA p.kids.length kc), .string key, .int .i64 at_] W fun e w' => ∃ A1 c1 A2 c2 A3 c3 A4 c4, e = .returned (.tuple #[
      pv (lp p key at_ i0 k0) (.slice A1 i0 c1) (.slice A2 k0 c2), pv (rp p key i0 k0) (.slice A3 (p.items.length - i0) c3) (.slice A4 (p.kids.length - k0) c4), .int .i64 0]) ∧
      Hid (ItR w' (.slice A1 i0 c1) (p.items.take i0)) ∧ Hid (KdR w' (.slice A2 k0 c2) (p.kids.take k0)) ∧ Hid (ItR w' (.slice A3 (p.items.length - i0) c3) (p.items.drop i0)) ∧ Hid (KdR w' (.slice A4 (p.kids.length - k0) c4) (p.kids.drop k0)) ∧ Kept (fun _ => True) W w' := fun W hW =>
    split_ok p key at_ W (hi.all hW) (hk.all hW) h.chk h.key_ h.low h.cov h.page hf0 hg0 hlg hni hnk
  have hmg : ∀ W (A1 : Option Addr) (c1 : Nat) (A2 : Option Addr) (c2 : Nat) (A3 : Option Addr) (c3 : Nat) (A4 : Option Addr) (c4 : Nat), ItR W (.slice A1 i0 c1) (p.items.take i0) → KdR W (.slice A2 k0 c2) (p.kids.take k0) → ItR W (.slice A3 (p.items.length - i0) c3) (p.items.drop i0) → KdR W (.slice A4 (p.kids.length - k0) c4) (p.kids.drop k0) →
      Calls Try.prog 14 #[pv (lp p key at_ i0 k0) (.slice A1 i0 c1) (.slice A2 k0 c2), pv (rp p key i0 k0) (.slice A3 (p.items.length - i0) c3) (.slice A4 (p.kids.length - k0) c4)] W fun e w' => ∃ A c A' c', e = .returned (.tuple #[pv p (.slice A p.items.length c) (.slice A' p.kids.length c'), .int .i64 0]) ∧
        Hid (ItR w' (.slice A p.items.length c) p.items) ∧ Hid (KdR w' (.slice A' p.kids.length c') p.kids) ∧ Kept (fun _ => True) W w' := fun W A1 c1 A2 c2 A3 c3 A4 c4 h1 h2 h3 h4 => by
    have l1 : (lp p key at_ i0 k0).items.length = i0 := e1
    have l2 : (lp p key at_ i0 k0).kids.length = k0 := e2
    have l3 : (rp p key i0 k0).items.length = p.items.length - i0 := e3
    have l4 : (rp p key i0 k0).kids.length = p.kids.length - k0 := e4
    have := merge_ok (lp p key at_ i0 k0) (rp p key i0 k0) (iA := A1) (kA := A2) (jA := A3) (mA := A4) (ic := c1) (kc := c2) (jc := c3) (mc := c4) W (by rw [l1]; exact h1) (by rw [l2]; exact h2) (by rw [l3]; exact h3) (by rw [l4]; exact h4) (check_l h) (check_r h) rfl rfl rfl (by rw [l1, l3]; omega) (by rw [l2, l4]; omega)
    rw [halves_back p key at_ i0 k0] at this
    rw [l1, l2, l3, l4] at this
    have s1 : i0 + (p.items.length - i0) = p.items.length := by omega
    have s2 : k0 + (p.kids.length - k0) = p.kids.length := by omega
    have j1 : (lp p key at_ i0 k0).items ++ (rp p key i0 k0).items = p.items := List.take_append_drop _ _
    have j2 : (lp p key at_ i0 k0).kids ++ (rp p key i0 k0).kids = p.kids := List.take_append_drop _ _
    rw [s1, s2, j1, j2] at this
    exact this
  have hcl : ∀ W iv kv, Calls Try.prog 12 #[pv (lp p key at_ i0 k0) iv kv, .string other] W fun e w' => e = .returned (.bool (covers (lp p key at_ i0 k0) other)) ∧ Kept (fun _ => True) W w' := fun W iv kv => covers_any _ iv kv other W
  have hcr : ∀ W iv kv, Calls Try.prog 12 #[pv (rp p key i0 k0) iv kv, .string other] W fun e w' => e = .returned (.bool (covers (rp p key i0 k0) other)) ∧ Kept (fun _ => True) W w' := fun W iv kv => covers_any _ iv kv other W
  have hcp : ∀ W iv kv, Calls Try.prog 12 #[pv p iv kv, .string other] W fun e w' => e = .returned (.bool (covers p other)) ∧ Kept (fun _ => True) W w' := fun W iv kv => covers_any _ iv kv other W
  have hfp : ∀ W kv, Kept (fun _ => True) w W → Calls Try.prog 8 #[pv p (.slice iA p.items.length ic) kv, .string other] W fun e w' => e = .returned (.tuple #[.agg (ics (find p.items other).1).toArray, .bool (find p.items other).2]) ∧ Kept (fun _ => True) W w' := fun W kv hW => find_any p other W (hi.all hW) (by omega)
  have hfl : ∀ W (A1 : Option Addr) (c1 : Nat) kv, ItR W (.slice A1 i0 c1) (p.items.take i0) → Calls Try.prog 8 #[pv (lp p key at_ i0 k0) (.slice A1 i0 c1) kv, .string other] W fun e w' => e = .returned (.tuple #[.agg (ics (find (p.items.take i0) other).1).toArray, .bool (find (p.items.take i0) other).2]) ∧ Kept (fun _ => True) W w' := fun W A1 c1 kv h1 => by
    have l1 : (lp p key at_ i0 k0).items.length = i0 := e1
    have := find_any (lp p key at_ i0 k0) other (iA := A1) (ic := c1) (kv := kv) W (by rw [l1]; exact h1) (by rw [l1]; omega)
    rw [l1] at this
    exact this
  have hfr : ∀ W (A3 : Option Addr) (c3 : Nat) kv, ItR W (.slice A3 (p.items.length - i0) c3) (p.items.drop i0) → Calls Try.prog 8 #[pv (rp p key i0 k0) (.slice A3 (p.items.length - i0) c3) kv, .string other] W fun e w' => e = .returned (.tuple #[.agg (ics (find (p.items.drop i0) other).1).toArray, .bool (find (p.items.drop i0) other).2]) ∧ Kept (fun _ => True) W w' := fun W A3 c3 kv h1 => by
    have l3 : (rp p key i0 k0).items.length = p.items.length - i0 := e3
    have := find_any (rp p key i0 k0) other (iA := A3) (ic := c3) (kv := kv) W (by rw [l3]; exact h1) (by rw [l3]; omega)
    rw [l3] at this
    exact this
  have hsm : ∀ W (A5 : Option Addr) (c5 : Nat) (A6 : Option Addr) (c6 : Nat), Kept (fun _ => True) w W → ItR W (.slice A5 p.items.length c5) p.items → KdR W (.slice A6 p.kids.length c6) p.kids → Calls Try.prog 10 #[pv p (.slice iA p.items.length ic) (.slice kA p.kids.length kc), pv p (.slice A5 p.items.length c5) (.slice A6 p.kids.length c6)] W fun e w' => e = .returned (.bool true) ∧ Kept (fun _ => True) W w' := fun W A5 c5 A6 c6 hW h5 h6 => by
    have := same_any p p W (hi.all hW) (hk.all hW) h5 h6 (by omega) (by omega)
    rw [decide_eq_true rfl] at this
    exact this
  have HCV := Lib.hid (covers_one h other)
  have HFD := Lib.hid (find_one h other)
  clear hi hk h hf0 hg0 hlg e1 e2 e3 e4
  revert HCV HFD
  generalize covers p other = cp at hcp
  generalize covers (lp p key at_ i0 k0) other = cl at hcl
  generalize covers (rp p key i0 k0) other = cr at hcr
  generalize find p.items other = fp at hfp
  generalize find (p.items.take i0) other = fl at hfl
  generalize find (p.items.drop i0) other = fr at hfr
  obtain ⟨⟨xk, xv, xn, xg⟩, xb⟩ := fp
  obtain ⟨⟨yk, yv, yn, yg⟩, yb⟩ := fl
  obtain ⟨⟨zk, zv, zn, zg⟩, zb⟩ := fr
  obtain ⟨lv, lo, hi, la, sd, il, kl⟩ := p
  unfold pv lp rp at *
  simp only [ics] at *
  intro HCV HFD
  generalize il.length = n at *
  generalize kl.length = m at *
  have KW := Lib.hid ((Kept.refl (fun _ => True) w).alloc (.cells #[.int .i64 lv, .string lo, .string hi, .bool la, .int .i64 sd, .slice iA n ic, .slice kA m kc] 25))
  have BP := Lib.hid (Box.new (lv := lv) (lo := lo) (hi := hi) (la := la) (sd := sd) (iv := .slice iA n ic) (kv := .slice kA m kc) w)
  go_enter Try.func5, Try.ntmps5
  go_wp2_with fail
  generalize w.alloc (.cells #[.int .i64 lv, .string lo, .string hi, .bool la, .int .i64 sd, .slice iA n ic, .slice kA m kc] 25) = w0 at KW BP ⊢
  generalize w.heap.size = pb at BP ⊢
  refine (awake_any _).mono ?_
  rintro e w1 ⟨rfl, hk⟩
  replace KW := Kept.go KW hk
  replace BP := BoxH.go BP hk
  clear hk
  obtain ⟨b0, b1, b2, b3, b4, b5, b6⟩ := BP.out
  go_wp2_with fail
  clear b0 b1 b2 b3 b4 b5 b6
  refine (hsp _ KW.out).mono ?_
  rintro e w2 ⟨A1, c1, A2, c2, A3, c3, A4, c4, rfl, HA, HB, HC, HD, hk⟩
  replace KW := Kept.go KW hk
  replace BP := BoxH.go BP hk
  clear hk
  have hk := ((Kept.refl (fun _ => True) w2).alloc (.cells #[.int .i64 lv, .string lo, .string key, .bool false, .int .i64 at_, .slice A1 i0 c1, .slice A2 k0 c2] 25)).alloc (.cells #[.int .i64 lv, .string key, .string hi, .bool la, .int .i64 sd, .slice A3 (n - i0) c3, .slice A4 (m - k0) c4] 25)
  have BL := Lib.hid ((Box.new (lv := lv) (lo := lo) (hi := key) (la := false) (sd := at_) (iv := .slice A1 i0 c1) (kv := .slice A2 k0 c2) w2).kept ((Kept.refl (fun _ => True) _).alloc (.cells #[.int .i64 lv, .string key, .string hi, .bool la, .int .i64 sd, .slice A3 (n - i0) c3, .slice A4 (m - k0) c4] 25)))
  have hs1 : (w2.alloc (.cells #[.int .i64 lv, .string lo, .string key, .bool false, .int .i64 at_, .slice A1 i0 c1, .slice A2 k0 c2] 25)).heap.size = w2.heap.size + 1 := by simp
  have hr := Box.new (lv := lv) (lo := key) (hi := hi) (la := la) (sd := sd) (iv := .slice A3 (n - i0) c3) (kv := .slice A4 (m - k0) c4) (w2.alloc (.cells #[.int .i64 lv, .string lo, .string key, .bool false, .int .i64 at_, .slice A1 i0 c1, .slice A2 k0 c2] 25))
  rw [hs1] at hr
  have BR := Lib.hid hr
  replace KW := Kept.go KW hk
  replace BP := BoxH.go BP hk
  replace HA := RdH.go HA hk
  replace HB := RdH.go HB hk
  replace HC := RdH.go HC hk
  replace HD := RdH.go HD hk
  clear hk
  clear hr hs1 hsp
  go_upto_region 3 with fail
  generalize (w2.alloc (.cells #[.int .i64 lv, .string lo, .string key, .bool false, .int .i64 at_, .slice A1 i0 c1, .slice A2 k0 c2] 25)).alloc (.cells #[.int .i64 lv, .string key, .string hi, .bool la, .int .i64 sd, .slice A3 (n - i0) c3, .slice A4 (m - k0) c4] 25) = w3 at KW BP BL BR HA HB HC HD ⊢
  generalize w2.heap.size + 1 = rb at BR ⊢
  generalize w2.heap.size = lb at BL ⊢
  obtain ⟨l0, l1, l2, l3, l4, l5, l6⟩ := BL.out
  obtain ⟨r0, r1, r2, r3, r4, r5, r6⟩ := BR.out
  have z00 : ((0 : Int) != 0) = false := rfl
  go_wp2_with fail
  clear l0 l1 l2 l3 l4 l5 l6 r0 r1 r2 r3 r4 r5 r6
  refine (hmg _ _ _ _ _ _ _ _ _ HA.out HB.out HC.out HD.out).mono ?_
  rintro e w4 ⟨A5, c5, A6, c6, rfl, HE, HF, hk⟩
  replace KW := Kept.go KW hk
  replace BP := BoxH.go BP hk
  replace BL := BoxH.go BL hk
  replace BR := BoxH.go BR hk
  replace HA := RdH.go HA hk
  replace HB := RdH.go HB hk
  replace HC := RdH.go HC hk
  replace HD := RdH.go HD hk
  clear hk
  have hk := (Kept.refl (fun _ => True) w4).alloc (.cells #[.int .i64 lv, .string lo, .string hi, .bool la, .int .i64 sd, .slice A5 n c5, .slice A6 m c6] 25)
  have BQ := Lib.hid (Box.new (lv := lv) (lo := lo) (hi := hi) (la := la) (sd := sd) (iv := .slice A5 n c5) (kv := .slice A6 m c6) w4)
  replace KW := Kept.go KW hk
  replace BP := BoxH.go BP hk
  replace BL := BoxH.go BL hk
  replace BR := BoxH.go BR hk
  replace HA := RdH.go HA hk
  replace HB := RdH.go HB hk
  replace HC := RdH.go HC hk
  replace HD := RdH.go HD hk
  replace HE := RdH.go HE hk
  replace HF := RdH.go HF hk
  clear hk
  clear hmg
  go_upto_region 6 with fail
  generalize w4.alloc (.cells #[.int .i64 lv, .string lo, .string hi, .bool la, .int .i64 sd, .slice A5 n c5, .slice A6 m c6] 25) = w5 at KW BP BL BR BQ HA HB HC HD HE HF ⊢
  generalize w4.heap.size = qb at BQ ⊢
  obtain ⟨b0, b1, b2, b3, b4, b5, b6⟩ := BP.out
  obtain ⟨q0, q1, q2, q3, q4, q5, q6⟩ := BQ.out
  go_wp2_with fail
  clear b0 b1 b2 b3 b4 b5 b6 q0 q1 q2 q3 q4 q5 q6
  refine (hsm _ _ _ _ _ KW.out HE.out HF.out).mono ?_
  rintro e w6 ⟨rfl, hk⟩
  replace KW := Kept.go KW hk
  replace BP := BoxH.go BP hk
  replace BL := BoxH.go BL hk
  replace BR := BoxH.go BR hk
  replace HA := RdH.go HA hk
  replace HB := RdH.go HB hk
  replace HC := RdH.go HC hk
  replace HD := RdH.go HD hk
  clear hk
  clear hsm HE HF BQ
  obtain ⟨l0, l1, l2, l3, l4, l5, l6⟩ := BL.out
  go_wp2_with fail
  clear l0 l1 l2 l3 l4 l5 l6
  refine (hcl _ _ _).mono ?_
  rintro e w7 ⟨rfl, hk⟩
  replace KW := Kept.go KW hk
  replace BP := BoxH.go BP hk
  replace BL := BoxH.go BL hk
  replace BR := BoxH.go BR hk
  replace HA := RdH.go HA hk
  replace HB := RdH.go HB hk
  replace HC := RdH.go HC hk
  replace HD := RdH.go HD hk
  clear hk
  obtain ⟨r0, r1, r2, r3, r4, r5, r6⟩ := BR.out
  go_wp2_with fail
  clear r0 r1 r2 r3 r4 r5 r6
  refine (hcr _ _ _).mono ?_
  rintro e w8 ⟨rfl, hk⟩
  replace KW := Kept.go KW hk
  replace BP := BoxH.go BP hk
  replace BL := BoxH.go BL hk
  replace BR := BoxH.go BR hk
  replace HA := RdH.go HA hk
  replace HB := RdH.go HB hk
  replace HC := RdH.go HC hk
  replace HD := RdH.go HD hk
  clear hk
  obtain ⟨b0, b1, b2, b3, b4, b5, b6⟩ := BP.out
  go_wp2_with fail
  clear b0 b1 b2 b3 b4 b5 b6
  refine (hcp _ _ _).mono ?_
  rintro e w9 ⟨rfl, hk⟩
  replace KW := Kept.go KW hk
  replace BP := BoxH.go BP hk
  replace BL := BoxH.go BL hk
  replace BR := BoxH.go BR hk
  replace HA := RdH.go HA hk
  replace HB := RdH.go HB hk
  replace HC := RdH.go HC hk
  replace HD := RdH.go HD hk
  clear hk
  obtain ⟨b0, b1, b2, b3, b4, b5, b6⟩ := BP.out
  go_wp2_with fail
  clear b0 b1 b2 b3 b4 b5 b6
  refine (hfp _ _ KW.out).mono ?_
  rintro e w10 ⟨rfl, hk⟩
  replace KW := Kept.go KW hk
  replace BP := BoxH.go BP hk
  replace BL := BoxH.go BL hk
  replace BR := BoxH.go BR hk
  replace HA := RdH.go HA hk
  replace HB := RdH.go HB hk
  replace HC := RdH.go HC hk
  replace HD := RdH.go HD hk
  clear hk
  have hk := (Kept.refl (fun _ => True) w10).alloc (.cells #[.string xk, .string xv, .int .i64 xn, .bool xg] 30)
  have FX := Lib.hid (Four.new (k := xk) (v := xv) (n := xn) (g := xg) w10)
  replace KW := Kept.go KW hk
  replace BL := BoxH.go BL hk
  replace BR := BoxH.go BR hk
  replace HA := RdH.go HA hk
  replace HB := RdH.go HB hk
  replace HC := RdH.go HC hk
  replace HD := RdH.go HD hk
  clear hk
  clear hcl hcr hcp hfp BP
  go_upto_region 11 with fail
  generalize w10.alloc (.cells #[.string xk, .string xv, .int .i64 xn, .bool xg] 30) = w11 at KW BL BR FX HA HB HC HD ⊢
  generalize w10.heap.size = xbk at FX ⊢
  obtain ⟨l0, l1, l2, l3, l4, l5, l6⟩ := BL.out
  go_wp2_with fail
  clear l0 l1 l2 l3 l4 l5 l6
  refine (hfl _ _ _ _ HA.out).mono ?_
  rintro e w12 ⟨rfl, hk⟩
  replace KW := Kept.go KW hk
  replace BR := BoxH.go BR hk
  replace FX := FourH.go FX hk
  replace HC := RdH.go HC hk
  replace HD := RdH.go HD hk
  clear hk
  have hk := (Kept.refl (fun _ => True) w12).alloc (.cells #[.string yk, .string yv, .int .i64 yn, .bool yg] 30)
  have FY := Lib.hid (Four.new (k := yk) (v := yv) (n := yn) (g := yg) w12)
  replace KW := Kept.go KW hk
  replace BR := BoxH.go BR hk
  replace FX := FourH.go FX hk
  replace HC := RdH.go HC hk
  replace HD := RdH.go HD hk
  clear hk
  clear hfl BL HA HB
  go_upto_region 12 with fail
  generalize w12.alloc (.cells #[.string yk, .string yv, .int .i64 yn, .bool yg] 30) = w13 at KW BR FX FY HC HD ⊢
  generalize w12.heap.size = ybk at FY ⊢
  obtain ⟨r0, r1, r2, r3, r4, r5, r6⟩ := BR.out
  go_wp2_with fail
  clear r0 r1 r2 r3 r4 r5 r6
  refine (hfr _ _ _ _ HC.out).mono ?_
  rintro e w14 ⟨rfl, hk⟩
  replace KW := Kept.go KW hk
  replace FX := FourH.go FX hk
  replace FY := FourH.go FY hk
  clear hk
  have hk := (Kept.refl (fun _ => True) w14).alloc (.cells #[.string zk, .string zv, .int .i64 zn, .bool zg] 30)
  have FZ := Lib.hid (Four.new (k := zk) (v := zv) (n := zn) (g := zg) w14)
  replace KW := Kept.go KW hk
  replace FX := FourH.go FX hk
  replace FY := FourH.go FY hk
  clear hk
  clear hfr BR HC HD
  go_upto_region 13 with fail
  generalize w14.alloc (.cells #[.string zk, .string zv, .int .i64 zn, .bool zg] 30) = w15 at KW FX FY FZ ⊢
  generalize w14.heap.size = zbk at FZ ⊢
  obtain ⟨x0, x1, x2, x3⟩ := FX.out
  obtain ⟨y0, y1, y2, y3⟩ := FY.out
  obtain ⟨u0, u1, u2, u3⟩ := FZ.out
  obtain ⟨hc1, hc2⟩ := HCV.out
  obtain ⟨hd1, hd2, hd3, hd4⟩ := HFD.out
  subst hc1 hd1
  go_cut [25] (fun x wx => x = .bool true ∧ wx = w15)
  case first =>
    cases cl <;> cases cr <;> (try (exact absurd hc2 (by decide))) <;> cases yb <;> cases zb <;> (try (exact absurd hd2 (by decide))) <;> (go_wp2_with fail; go_meet; exact ⟨rfl, rfl⟩)
  case rest =>
    obtain ⟨rfl, hw⟩ := hcut
    subst hw
    cases yb with
    | true =>
      cases zb with
      | true => exact absurd hd2 (by decide)
      | false =>
        have e := hd3 rfl
        simp only [Item.mk.injEq] at e
        obtain ⟨rfl, rfl, rfl, rfl⟩ := e
        have heq : ∀ W, (binOp .eql 30 (.agg #[.string xk, .string xv, .int .i64 xn, .bool xg]) (.agg #[.string xk, .string xv, .int .i64 xn, .bool xg])).run Try.prog W = .ok (.bool true) W := fun W => by rw [run_eqlItem, decide_eq_true rfl]
        clear hd3 hd4 HCV HFD
        go_wp2_with fail
        go_ret
        exact ⟨rfl, KW.out⟩
    | false =>
      cases zb with
      | true =>
        have e := hd4 rfl
        simp only [Item.mk.injEq] at e
        obtain ⟨rfl, rfl, rfl, rfl⟩ := e
        have heq : ∀ W, (binOp .eql 30 (.agg #[.string xk, .string xv, .int .i64 xn, .bool xg]) (.agg #[.string xk, .string xv, .int .i64 xn, .bool xg])).run Try.prog W = .ok (.bool true) W := fun W => by rw [run_eqlItem, decide_eq_true rfl]
        clear hd3 hd4 HCV HFD
        go_wp2_with fail
        go_ret
        exact ⟨rfl, KW.out⟩
      | false =>
        clear hd3 hd4 HCV HFD
        go_wp2_with fail
        go_ret
        exact ⟨rfl, KW.out⟩
theorem halves_any (p : Page) (key other : ByteArray) (at_ : Int) {iA kA : Option Addr} {ic kc : Nat} (w : World) (hi : ItR w (.slice iA p.items.length ic) p.items) (hk : KdR w (.slice kA p.kids.length kc) p.kids) (hn : p.items.length ≤ 1152921504606846975) (hm : p.kids.length ≤ 1152921504606846975) :
    Calls Try.prog 5 #[pv p (.slice iA p.items.length ic) (.slice kA p.kids.length kc), .string key, .int .i64 at_, .string other] w fun e w' => e = .returned (.bool true) ∧ Kept (fun _ => True) w w' := by
  cases hc : check p with
  | false => exact halves_no p key other at_ w 101 (by decide) fun W hW => split_bad p key at_ W (hi.all hW) (hk.all hW) hn hm hc
  | true =>
    obtain ⟨i0, f0, hati⟩ := at_ex (check_sortedI hc) key
    obtain ⟨k0, g0, hatk⟩ := at_ex (check_sortedK hc) key
    by_cases hno : isKey key = false ∨ key = p.low ∨ covers p key = false ∨ isPage at_ = false ∨ (p.level ≠ 0 ∧ g0 = false)
    · exact halves_no p key other at_ w 103 (by decide) fun W hW => split_out p key at_ W (hi.all hW) (hk.all hW) hn hm hc hati hatk hno
    · simp only [not_or, Bool.not_eq_false] at hno
      obtain ⟨h1, h2, h3, h4, h5⟩ := hno
      refine halves_yes p key other at_ w hi hk (i0 := i0) (k0 := k0) ⟨hc, h1, h2, h3, h4, ⟨f0, hati⟩, ⟨g0, hatk, ?_⟩⟩
      by_cases hl : p.level = 0
      · exact .inl hl
      · refine .inr ?_
        cases g0 with
        | true => rfl
        | false => exact absurd ⟨hl, rfl⟩ h5
end Ytfoolgojcmkdbaa
end Go.Proofs
