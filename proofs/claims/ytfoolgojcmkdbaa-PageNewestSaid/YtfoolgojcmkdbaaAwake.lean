/-
  The chapter's example.
-/
import Derived.Test.YtfoolgojcmkdbaaPutOld
import Derived.Test.YtfoolgojcmkdbaaInsEnd
import Derived.Test.YtfoolgojcmkdbaaFind
import Derived.Test.YtfoolgojcmkdbaaSame
import Derived.Test.YtfoolgojcmkdbaaByt
set_option maxHeartbeats 4000000
set_option maxRecDepth 100000
namespace Go.Proofs
open Go.RowKit
namespace Ytfoolgojcmkdbaa
attribute [local go_sem ↓] Go.wp_at_zero Go.wp_at_succ
def it1 : Item := ⟨⟨#[97]⟩, ⟨#[120]⟩, 3, false⟩
def it2 : Item := ⟨⟨#[97]⟩, ⟨#[]⟩, 2, false⟩
def it3 : Item := ⟨⟨#[49, 50, 51, 52, 53, 54, 55, 56, 57, 48, 49, 50, 51, 52, 53, 54, 55]⟩, ⟨#[]⟩, 1, false⟩
def p1 : Page := ⟨0, ⟨#[]⟩, ⟨#[]⟩, true, 0, [it1], []⟩
theorem run_str46 {w : World} {v : Value} {l : List UInt8} (h : ByR w v l) : (convert 46 9 v).run Try.prog w = .ok (.string ⟨l.toArray⟩) w := by
  by_cases hne : l = []
  · subst hne
    obtain ⟨A, c, rfl, _⟩ := h
    cases A with
    | none => rfl
    | some a => exact run_convert_bytes_back w 46 9 5 a c [] Try.underlying46 Try.underlying5 Try.underlying9 fun j hj => by simp at hj
  · obtain ⟨b, off, c, rfl, _, _, hc⟩ := h.some_ hne
    exact run_convert_bytes_back w 46 9 5 _ c l Try.underlying46 Try.underlying5 Try.underlying9 fun j hj => by
      rw [addr_add]
      have := hc j _ (List.getElem?_eq_getElem hj) 0 _ rfl
      simpa using this
theorem put1 (W : World) : Calls Try.prog 9 #[.agg #[.int .i64 0, .string ⟨#[]⟩, .string ⟨#[]⟩, .bool true, .int .i64 0, .slice none 0 0, .slice none 0 0], .agg #[.string ⟨#[97]⟩, .string ⟨#[120]⟩, .int .i64 3, .bool false]] W
    fun e w' => ∃ A c A' c', e = .returned (.tuple #[.agg #[.int .i64 0, .string ⟨#[]⟩, .string ⟨#[]⟩, .bool true, .int .i64 0, .slice A 1 c, .slice A' 0 c'], .int .i64 0]) ∧ Hid (ItO w' W.heap.size (.slice A 1 c) [it1]) ∧ Hid (KdO w' W.heap.size (.slice A' 0 c') []) ∧ Kept (fun _ => True) W w' :=
  put_new p0 it1 (iA := none) (kA := none) (ic := 0) (kc := 0) W (RdK.nil W) (RdK.nil W) (by decide +kernel) check_p0 rfl (by decide +kernel) (by simp [p0]) (i0 := 0) ⟨Nat.zero_le _, fun j k hj => absurd hj (Nat.not_lt_zero _), fun j k _ hk => by simp [p0] at hk, by simp [p0]⟩ (insert_end [] it1 (by simp))
theorem put2 {A A' : Option Addr} {c c' : Nat} (W : World) (hi : ItR W (.slice A 1 c) [it1]) (hk : KdR W (.slice A' 0 c') []) : Calls Try.prog 9 #[.agg #[.int .i64 0, .string ⟨#[]⟩, .string ⟨#[]⟩, .bool true, .int .i64 0, .slice A 1 c, .slice A' 0 c'], .agg #[.string ⟨#[97]⟩, .string ⟨#[]⟩, .int .i64 2, .bool false]] W
    fun e w' => ∃ A c A' c', e = .returned (.tuple #[.agg #[.int .i64 0, .string ⟨#[]⟩, .string ⟨#[]⟩, .bool true, .int .i64 0, .slice A 1 c, .slice A' 0 c'], .int .i64 0]) ∧ Hid (ItO w' W.heap.size (.slice A 1 c) [it1]) ∧ Hid (KdO w' W.heap.size (.slice A' 0 c') []) ∧ Kept (fun _ => True) W w' :=
  put_old p1 it2 W hi hk (by decide +kernel) (by decide +kernel) rfl (by decide +kernel) (i0 := 0) (y := it1) ⟨Nat.zero_le _, fun j k hj => absurd hj (Nat.not_lt_zero _), fun j k _ hk => by
    match j, hk with
    | 0, hk =>
      injection hk with hk
      subst hk
      exact lt_irrefl _
    | j + 1, hk => simp [p1] at hk, by simp [p1, it1, it2]⟩ rfl (by decide)
theorem find1 {A : Option Addr} {c : Nat} {kv : Value} (W : World) (hi : ItR W (.slice A 1 c) [it1]) : Calls Try.prog 8 #[.agg #[.int .i64 0, .string ⟨#[]⟩, .string ⟨#[]⟩, .bool true, .int .i64 0, .slice A 1 c, kv], .string ⟨#[97]⟩] W
    fun e w' => e = .returned (.tuple #[.agg #[.string ⟨#[97]⟩, .string ⟨#[120]⟩, .int .i64 3, .bool false], .bool true]) ∧ Kept (fun _ => True) W w' := by
  have := find_any p1 ⟨#[97]⟩ (kv := kv) W hi (by simp [p1])
  have hf : find p1.items ⟨#[97]⟩ = (it1, true) := by decide +kernel
  rw [hf] at this
  exact this
theorem chk3 (W : World) : Calls Try.prog 16 #[.agg #[.string ⟨#[49, 50, 51, 52, 53, 54, 55, 56, 57, 48, 49, 50, 51, 52, 53, 54, 55]⟩, .string ⟨#[]⟩, .int .i64 1, .bool false]] W fun e w' => e = .returned (.int .i64 100) ∧ Kept (fun _ => True) W w' := by
  have := checkItem_any it3 W
  have hb : badItem it3 = true := by decide +kernel
  rw [hb] at this
  exact this
theorem same1 {A A' B B' : Option Addr} {c c' d d' : Nat} (W : World) (hi : ItR W (.slice A 1 c) [it1]) (hk : KdR W (.slice A' 0 c') []) (hi' : ItR W (.slice B 1 d) [it1]) (hk' : KdR W (.slice B' 0 d') []) :
    Calls Try.prog 10 #[.agg #[.int .i64 0, .string ⟨#[]⟩, .string ⟨#[]⟩, .bool true, .int .i64 0, .slice A 1 c, .slice A' 0 c'], .agg #[.int .i64 0, .string ⟨#[]⟩, .string ⟨#[]⟩, .bool true, .int .i64 0, .slice B 1 d, .slice B' 0 d']] W
      fun e w' => e = .returned (.bool true) ∧ Kept (fun _ => True) W w' := by
  have := same_any p1 p1 W hi hk hi' hk' (by simp [p1]) (by simp [p1])
  rw [decide_eq_true rfl] at this
  exact this
theorem enc0 (W : World) : Calls Try.prog 15 #[.agg #[.int .i64 0, .string ⟨#[]⟩, .string ⟨#[]⟩, .bool true, .int .i64 0, .slice none 0 0, .slice none 0 0]] W fun e w' => ∃ A c, e = .returned (.tuple #[.slice A 7 c, .int .i64 0]) ∧ Hid (ByR w' (.slice A 7 c) [0, 1, 0, 0, 0, 0, 0]) ∧ Kept (fun _ => True) W w' := encode_p0 W
theorem awake_any (w : World) : Calls Try.prog 6 #[] w fun e w' => e = .returned (.bool true) ∧ Kept (fun _ => True) w w' := by
  go_enter Try.func6, Try.ntmps6
  go_wp2_with fail
  have k0 := (Kept.refl (fun _ => True) w).alloc (.cells #[.int .i64 0, .string ⟨#[]⟩, .string ⟨#[]⟩, .bool true, .int .i64 0, .slice none 0 0, .slice none 0 0] 25)
  have hb := Box.new (lv := 0) (lo := ⟨#[]⟩) (hi := ⟨#[]⟩) (la := true) (sd := 0) (iv := .slice none 0 0) (kv := .slice none 0 0) w
  generalize w.alloc (.cells #[.int .i64 0, .string ⟨#[]⟩, .string ⟨#[]⟩, .bool true, .int .i64 0, .slice none 0 0, .slice none 0 0] 25) = w0 at k0 hb ⊢
  refine (enc0 _).mono ?_
  rintro e w1 ⟨A0, c0, rfl, HE, hk1⟩
  obtain ⟨b0, b1, b2, b3, b4, b5, b6⟩ := hb.kept hk1
  have K1 := Lib.hid (k0.trans hk1)
  clear k0 hb hk1
  go_wp2_with fail
  clear b0 b1 b2 b3 b4 b5 b6
  refine (put1 _).mono ?_
  rintro e w2 ⟨A1, c1, A2, c2, rfl, HI, HK, hk2⟩
  have ka := (Kept.refl (fun _ => True) w2).alloc (.cells #[.int .i64 0, .string ⟨#[]⟩, .string ⟨#[]⟩, .bool true, .int .i64 0, .slice A1 1 c1, .slice A2 0 c2] 25)
  have HQ := Lib.hid (Box.new (lv := 0) (lo := ⟨#[]⟩) (hi := ⟨#[]⟩) (la := true) (sd := 0) (iv := .slice A1 1 c1) (kv := .slice A2 0 c2) w2)
  have hi3 := HI.out.all ka
  have HI3 := Lib.hid (hi3.rd encI)
  have HK3 := Lib.hid ((HK.out.all ka).rd encK)
  have K3 := Lib.hid ((K1.out.trans hk2).trans ka)
  have HE3 := Lib.hid (HE.out.all (hk2.trans ka))
  clear hi3 hk2 ka HI HK
  go_wp2_with fail
  generalize w2.alloc (.cells #[.int .i64 0, .string ⟨#[]⟩, .string ⟨#[]⟩, .bool true, .int .i64 0, .slice A1 1 c1, .slice A2 0 c2] 25) = w3 at HQ HI3 HK3 K3 HE3 ⊢
  generalize w2.heap.size = qb at HQ ⊢
  refine (find1 _ HI3.out).mono ?_
  rintro e w4 ⟨rfl, hk4⟩
  have kb := (Kept.refl (fun _ => True) w4).alloc (.cells #[.string ⟨#[97]⟩, .string ⟨#[120]⟩, .int .i64 3, .bool false] 30)
  have HX := Lib.hid (Four.new (k := ⟨#[97]⟩) (v := ⟨#[120]⟩) (n := 3) (g := false) w4)
  have HQ5 := Lib.hid ((HQ.out.kept hk4).kept kb)
  have K5 := Lib.hid ((K3.out.trans hk4).trans kb)
  have HI5 := Lib.hid (HI3.out.all (hk4.trans kb))
  have HK5 := Lib.hid (HK3.out.all (hk4.trans kb))
  have HE5 := Lib.hid (HE3.out.all (hk4.trans kb))
  obtain ⟨q0, q1, q2, q3, q4, q5, q6⟩ := HQ5.out
  clear hk4 kb
  go_wp2_with fail
  clear q0 q1 q2 q3 q4 q5 q6
  generalize w4.alloc (.cells #[.string ⟨#[97]⟩, .string ⟨#[120]⟩, .int .i64 3, .bool false] 30) = w5 at HX HQ5 K5 HI5 HK5 HE5 ⊢
  generalize w4.heap.size = xb at HX ⊢
  refine (put2 _ HI5.out HK5.out).mono ?_
  rintro e w6 ⟨A3, c3, A4, c4, rfl, HI, HK, hk6⟩
  have kc := (Kept.refl (fun _ => True) w6).alloc (.cells #[.int .i64 0, .string ⟨#[]⟩, .string ⟨#[]⟩, .bool true, .int .i64 0, .slice A3 1 c3, .slice A4 0 c4] 25)
  have HR := Lib.hid (Box.new (lv := 0) (lo := ⟨#[]⟩) (hi := ⟨#[]⟩) (la := true) (sd := 0) (iv := .slice A3 1 c3) (kv := .slice A4 0 c4) w6)
  have HI7 := Lib.hid (HI5.out.all (hk6.trans kc))
  have HK7 := Lib.hid (HK5.out.all (hk6.trans kc))
  have HJ7 := Lib.hid ((HI.out.all kc).rd encI)
  have HL7 := Lib.hid ((HK.out.all kc).rd encK)
  have HE7 := Lib.hid (HE5.out.all (hk6.trans kc))
  have HQ7 := Lib.hid (HQ5.out.kept (hk6.trans kc))
  have HX7 := Lib.hid (HX.out.kept (hk6.trans kc))
  have K7 := Lib.hid ((K5.out.trans hk6).trans kc)
  clear hk6 kc HI HK
  go_wp2_with fail
  generalize w6.alloc (.cells #[.int .i64 0, .string ⟨#[]⟩, .string ⟨#[]⟩, .bool true, .int .i64 0, .slice A3 1 c3, .slice A4 0 c4] 25) = w7 at HR HI7 HK7 HJ7 HL7 HE7 HQ7 HX7 K7 ⊢
  generalize w6.heap.size = rb at HR ⊢
  refine (chk3 _).mono ?_
  rintro e w8 ⟨rfl, hk8⟩
  have hstr := run_str46 (HE7.out.all hk8)
  obtain ⟨x0, x1, x2, x3⟩ := HX7.out.kept hk8
  obtain ⟨q0, q1, q2, q3, q4, q5, q6⟩ := HQ7.out.kept hk8
  obtain ⟨r0, r1, r2, r3, r4, r5, r6⟩ := HR.out.kept hk8
  have HI8 := Lib.hid (HI7.out.all hk8)
  have HK8 := Lib.hid (HK7.out.all hk8)
  have HJ8 := Lib.hid (HJ7.out.all hk8)
  have HL8 := Lib.hid (HL7.out.all hk8)
  have K8 := Lib.hid (K7.out.trans hk8)
  clear hk8
  go_wp2_with (go_at_call 10; refine (same1 _ HI8.out HK8.out HJ8.out HL8.out).mono ?_; rintro e w9 ⟨rfl, hk9⟩)
  go_ret
  exact ⟨rfl, K8.out.trans hk9⟩
end Ytfoolgojcmkdbaa
end Go.Proofs
