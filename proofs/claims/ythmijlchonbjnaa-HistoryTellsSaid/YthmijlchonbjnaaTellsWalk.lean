/-
  HistoryTells: the walk.
-/
import Derived.Test.YthmijlchonbjnaaAloneWalk
set_option maxHeartbeats 4000000
set_option maxRecDepth 100000
namespace Go.Proofs
open Go.RowKit
namespace Ythmijlchonbjnaa
attribute [local go_sem ↓] Go.wp_at_zero Go.wp_at_succ
/-- Behind such calls one that is answered as the map had it not. -/
theorem tell_fine {cs : List PC} (h : Good cs) (q : ByteArray) (b : Nat) (is : Bool) (val : ByteArray) (no : Int) : ∀ (i : Nat) (x : PC), (cs ++ [⟨callGet q, no, 0, some (b, ⟨0, is, val, no⟩, no)⟩])[i]? = some x → ∃ e a tt, Fine (cs ++ [⟨callGet q, no, 0, some (b, ⟨0, is, val, no⟩, no)⟩]) i x e a tt := fun i x hx => by
  rcases Nat.lt_or_ge i cs.length with h1 | h1
  · rw [List.getElem?_append_left h1] at hx
    exact h.fine _ i x hx
  · rw [List.getElem?_append_right h1] at hx
    have h2 := (List.getElem?_eq_some_iff.1 hx).1
    have h3 : i = cs.length := by simp at h2; omega
    subst h3
    simp at hx
    subst hx
    exact ⟨_, _, _, rfl, rfl, .inl rfl, fun h0 => absurd h0 (by decide : ¬ (0 : Int) < 0)⟩
theorem tell_upd (cs : List PC) (q : ByteArray) (b : Nat) (a : Ans) (no : Int) : updF (cs ++ [⟨callGet q, no, 0, some (b, a, no)⟩]) = updF cs := by rw [updF_snoc]; simp
theorem tell_no {cs : List PC} {q : ByteArray} {b : Nat} {is : Bool} {val : ByteArray} {no : Int} (his : is = !(look (mapF (updF cs) no) q).1) :
    judge (cs ++ [⟨callGet q, no, 0, some (b, ⟨0, is, val, no⟩, no)⟩]) ⟨callGet q, no, 0, some (b, ⟨0, is, val, no⟩, no)⟩ ⟨0, is, val, no⟩ no = false := by
  unfold judge
  rw [if_pos (show (callGet q).kind = 1 from rfl), tell_upd]
  unfold gotF
  rw [look_map] at his
  have : (is == (behindF (updF cs) (callGet q).key no).2) = false := by
    rw [his]
    show ((!(behindF (updF cs) q no).2) == (behindF (updF cs) q no).2) = false
    cases (behindF (updF cs) q no).2 <;> rfl
  simp [this]
theorem tell_at {cs : List PC} (h : Good cs) {q : ByteArray} {b : Nat} {is : Bool} {val : ByteArray} {no : Int} (his : is = !(look (mapF (updF cs) no) q).1) {r : Ending}
    (hc : (∃ (k : Nat) (x : PC) (e : Nat) (a : Ans) (tt : Int), (cs ++ [⟨callGet q, no, 0, some (b, ⟨0, is, val, no⟩, no)⟩])[k]? = some x ∧ Fine (cs ++ [⟨callGet q, no, 0, some (b, ⟨0, is, val, no⟩, no)⟩]) k x e a tt ∧ judge (cs ++ [⟨callGet q, no, 0, some (b, ⟨0, is, val, no⟩, no)⟩]) x a tt = false ∧ r = .returned (.tuple #[.bool false, .int .i64 (k : Nat)])) ∨
      (r = .returned (.tuple #[.bool true, .int .i64 (-1)]) ∧ ∀ (k : Nat) (x : PC) (e : Nat) (a : Ans) (tt : Int), (cs ++ [⟨callGet q, no, 0, some (b, ⟨0, is, val, no⟩, no)⟩])[k]? = some x → x.fin = some (e, a, tt) → judge (cs ++ [⟨callGet q, no, 0, some (b, ⟨0, is, val, no⟩, no)⟩]) x a tt = true)) :
    r = .returned (.tuple #[.bool false, .int .i64 (cs.length : Nat)]) := by
  rcases hc with ⟨k, x, e, a, tt, hx, hf, hj, hr⟩ | ⟨_, hall⟩
  · rcases Nat.lt_or_ge k cs.length with h1 | h1
    · rw [List.getElem?_append_left h1] at hx
      rw [h.judge (tell_upd cs q b _ no) hx hf.fin] at hj
      cases hj
    · rw [List.getElem?_append_right h1] at hx
      have h2 := (List.getElem?_eq_some_iff.1 hx).1
      have h3 : k = cs.length := by simp at h2; omega
      rw [hr, h3]
  · have := hall cs.length _ b ⟨0, is, val, no⟩ no (get_last _ _) rfl
    rw [tell_no his] at this
    cases this
theorem tells_any (l : List Call) (key value : ByteArray) {B : Option Addr} {n d : Nat} (w : World) (hr : CaR w (.slice B n d) l) :
    Calls Try.prog 3 #[.slice B n d, .string key, .string value] w fun e w' => e = .returned (.bool true) ∧ Kept (fun _ => True) w w' := by
  have HC := Lib.hid hr
  clear hr
  go_enter Try.func3, Try.ntmps3
  go_wp2_with fail
  refine (awake_any w).mono ?_
  rintro e w1 ⟨rfl, hk⟩
  have KW := Lib.hid hk
  clear hk
  go_wp2_with fail
  refine (new_any w1).mono ?_
  rintro e w2 ⟨g, rb, rfl, HR, hk⟩
  have HS : Hid (w.heap.size ≤ w1.heap.size) := Lib.hid KW.out.size
  have HS2 : Hid (w1.heap.size ≤ w2.heap.size) := Lib.hid hk.size
  replace KW := KeptH.go KW hk
  clear hk
  go_wp2_with fail
  refine (alone_any HR.out l (HC.out.all KW.out) (fun hne x hx => Nat.lt_of_lt_of_le (arg_low HC.out hne x hx) HS.out) HS2.out).mono ?_
  rintro e w3 ⟨⟨cs, rfl, ⟨A3, c3, HR3⟩, GD, LN⟩, hk⟩
  have HS3 : Hid (w1.heap.size ≤ w3.heap.size) := Lib.hid (Nat.le_trans HS2.out hk.size)
  replace KW := KeptH.low KW HS.out hk
  clear hk HR
  generalize w1.heap.size = base at HS HS3 HR3
  obtain ⟨no, hno⟩ : ∃ no, (updF cs).length = no := ⟨_, rfl⟩
  rw [hno] at HR3 ⊢
  have hno100 : no ≤ 100 := by
    have := updF_len cs
    have := LN.out
    omega
  clear hno
  go_wp2_with fail
  have hmap := map_any HR3.out no (by have := LN.out; omega)
  obtain ⟨m, hm⟩ : ∃ m, mapF (updF cs) no = m := ⟨_, rfl⟩
  rw [hm] at hmap
  obtain ⟨z, hz⟩ : ∃ z, m.length = z := ⟨_, rfl⟩
  rw [hz] at hmap
  have hz100 : z ≤ 100 := by
    rw [← hz, ← hm]
    have h1 : (mapF (updF cs) no).length ≤ (keysF (updF cs)).length := List.length_filterMap_le _ _
    have h2 := keysF_len (updF cs)
    have h3 := updF_len cs
    have h4 := LN.out
    omega
  have HM := Lib.hid (And.intro hm hz)
  refine hmap.mono ?_
  rintro e w4 ⟨M, md, rfl, RM, hk⟩
  replace HR3 := HRepH.go HR3 hk
  replace KW := KeptH.go KW hk
  have HS4 := SzH.go HS3 hk
  clear hk hmap hm hz HS3
  go_upto_region 8 with fail
  have hba := Blk.new w4 31 #[.int .i64 0, .bool true, .string value, .int .i64 no, .slice none 0 0]
  have hk := (Kept.refl (fun _ => True) w4).alloc (.cells #[.int .i64 0, .bool true, .string value, .int .i64 no, .slice none 0 0] 31)
  generalize w4.alloc (.cells #[.int .i64 0, .bool true, .string value, .int .i64 no, .slice none 0 0] 31) = w5 at hba hk ⊢
  generalize w4.heap.size = ab at hba HS4 ⊢
  have BA := Lib.hid hba
  replace HR3 := HRepH.go HR3 hk
  replace KW := KeptH.go KW hk
  replace RM := RowH.go RM hk
  clear hba hk
  go_wp2_with fail
  go_loopw [12] (fun s12 wx => ∃ (k : Nat) (is : Bool) (val : ByteArray), k ≤ z ∧ s12 = .int .i64 k ∧ Hid (is = !(look (m.take k) key).1) ∧ Hid (Blk wx ab 31 #[.int .i64 0, .bool is, .string val, .int .i64 no, .slice none 0 0]) ∧ Hid (Kept (fun b => b ≠ ab) w5 wx)) (fun s12 _ => z - (intOf s12).toNat)
  case atStart => exact ⟨0, true, value, Nat.zero_le _, rfl, Lib.hid rfl, BA, Lib.hid (Kept.refl _ _)⟩
  case round =>
    obtain ⟨k, is, val, hk, rfl, LK, BAX, KX⟩ := hrel
    by_cases hkz : k < z
    · have hkzz : (k : Int) < (z : Int) := by omega
      obtain ⟨y, hy⟩ : ∃ y, m[k]? = some y := ⟨_, List.getElem?_eq_getElem (by have := HM.out.2; omega)⟩
      obtain ⟨q, _, rfl, _, _, _, _, hcell⟩ := (RowH.far RM KX.out BA (by decide)).out.at_ encI hy
      have r0 : wr.cell? ⟨q, k * 4, none⟩ = _ := hcell 0 _ rfl
      have LK1 : Hid (look (m.take (k + 1)) key = if (y.key.toList == key.toList) = true then (true, y.val) else look (m.take k) key) := Lib.hid (by
        rw [look_snoc hy]
        rfl)
      clear hcell hy
      have f1 := BAX.out.frozen 1
      have f2 := BAX.out.frozen 2
      have z1 := BAX.out.cell 1
      have z2 := BAX.out.cell 2
      cases hq : y.key.toList == key.toList with
      | true =>
        rw [hq] at LK1
        obtain ⟨wn, hw, bn, kn⟩ := set12_step BAX.out (.bool false) (.string ⟨#[]⟩)
        have BN := Lib.hid bn
        have KN := Lib.hid (KX.out.trans kn)
        clear bn kn
        go_wp2_with fail
        go_roundw
        case measure => simp [intOf]; omega
        case rel => exact ⟨k + 1, false, ⟨#[]⟩, by omega, by simp, Lib.hid (by rw [LK1.out]; rfl), BN, KN⟩
      | false =>
        rw [hq] at LK1
        go_wp2_with fail
        go_roundw
        case measure => simp [intOf]; omega
        case rel => exact ⟨k + 1, is, val, by omega, by simp, Lib.hid (by rw [LK1.out, LK.out]; rfl), BAX, KX⟩
    · have hkzz : ¬ (k : Int) < (z : Int) := by omega
      have ht : m.take k = m := List.take_of_length_le (by have := HM.out.2; omega)
      rw [ht] at LK
      clear ht
      replace HR3 := HRepH.far HR3 KX.out BA (by decide) (by decide) (by decide) (by decide)
      replace KW := KeptH.far KW KX.out (Nat.le_trans HS.out HS4.out)
      clear RM BA
      go_wp2_with fail
      refine (len_any HR3.out).mono ?_
      rintro e w6 ⟨rfl, rfl⟩
      go_wp2_with fail
      refine (begin6 HR3.out (callGet key) no (by omega) (by show (1 : Int) ≤ 1; omega) (by show (1 : Int) ≤ 5; omega) (by have := LN.out; omega)).mono ?_
      rintro e w7 ⟨rfl, ⟨A4, c4, HR4⟩, hk7⟩
      replace KW := KeptH.ops KW HS.out hk7
      replace BAX := BlkH.pass BAX hk7 (by decide) (by decide)
      clear hk7 HR3
      have a0 := BAX.out.cell 0
      have a1 := BAX.out.cell 1
      have a2 := BAX.out.cell 2
      have a3 := BAX.out.cell 3
      have a4 := BAX.out.cell 4
      go_wp2_with fail
      refine (end5 HR4.out (get_last _ _) ⟨0, is, val, no⟩ no rfl (by omega)).mono ?_
      rintro e w8 ⟨rfl, ⟨eb, A5, c5, HR5⟩, hk8⟩
      replace KW := KeptH.ops KW HS.out hk8
      have HR6 : Hid (HRep w8 base g A5 c5 rb (cs ++ [⟨callGet key, no, 0, some (eb, ⟨0, is, val, no⟩, no)⟩]) no) := Lib.hid (by
        have := HR5.out
        rwa [set_last] at this)
      clear hk8 HR5 HR4 a0 a1 a2 a3 a4
      go_wp2_with fail
      refine (check_any HR6.out (tell_fine GD.out key eb is val no) (by rw [List.length_append]; have := LN.out; simp; omega)).mono ?_
      rintro e w9 ⟨hc, hk9⟩
      have he := tell_at GD.out (by rw [HM.out.1]; exact LK.out) hc
      clear hc
      subst he
      replace KW := KeptH.go KW hk9
      clear hk9
      go_wp2_with fail
      go_ret
      exact ⟨rfl, KW.out⟩
end Ythmijlchonbjnaa
end Go.Proofs
