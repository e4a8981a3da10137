/-
  Split of a page that may not be, or where it may not be cut.
-/
import Derived.Test.YtfoolgojcmkdbaaSplit
set_option maxHeartbeats 8000000
set_option maxRecDepth 100000
namespace Go.Proofs
open Go.RowKit
namespace Ytfoolgojcmkdbaa
attribute [local go_sem ↓] Go.wp_at_zero Go.wp_at_succ
theorem split_bad (p : Page) (key : ByteArray) (at_ : Int) {iA kA : Option Addr} {ic kc : Nat} (w : World) (hi : ItR w (.slice iA p.items.length ic) p.items) (hk : KdR w (.slice kA p.kids.length kc) p.kids) (hn : p.items.length ≤ 1152921504606846975) (hm : p.kids.length ≤ 1152921504606846975) (hck : check p = false) :
    Calls Try.prog 13 #[pv p (.slice iA p.items.length ic) (.slice kA p.kids.length kc), .string key, .int .i64 at_] w fun e w' => e = .returned (.tuple #[.agg #[.int .i64 0, .string ⟨#[]⟩, .string ⟨#[]⟩, .bool false, .int .i64 0, .slice none 0 0, .slice none 0 0], .agg #[.int .i64 0, .string ⟨#[]⟩, .string ⟨#[]⟩, .bool false, .int .i64 0, .slice none 0 0, .slice none 0 0], .int .i64 101]) ∧ Kept (fun _ => True) w w' := by
  have h7 : ∀ W, Kept (fun _ => True) w W → Calls Try.prog 7 #[pv p (.slice iA p.items.length ic) (.slice kA p.kids.length kc)] W fun e w' => e = .returned (.int .i64 101) ∧ Kept (fun _ => True) W w' := fun W hW => by
    have := check_any p W (hi.all hW) (hk.all hW) hn hm
    rw [hck] at this
    exact this
  clear hi hk hck hn hm
  obtain ⟨lv, lo, hi, la, sd, il, kl⟩ := p
  unfold pv at *
  simp only at *
  generalize il.length = n at h7 ⊢
  generalize kl.length = m at h7 ⊢
  have kk0 : Kept (fun _ => True) w (((w.alloc (.cells #[.int .i64 lv, .string lo, .string hi, .bool la, .int .i64 sd, .slice iA n ic, .slice kA m kc] 25)).alloc (.cells #[.int .i64 0, .string ⟨#[]⟩, .string ⟨#[]⟩, .bool false, .int .i64 0, .slice none 0 0, .slice none 0 0] 25)).alloc (.cells #[.int .i64 0, .string ⟨#[]⟩, .string ⟨#[]⟩, .bool false, .int .i64 0, .slice none 0 0, .slice none 0 0] 25)) := (((Kept.refl _ w).alloc _).alloc _).alloc _
  have hs1 : (w.alloc (.cells #[.int .i64 lv, .string lo, .string hi, .bool la, .int .i64 sd, .slice iA n ic, .slice kA m kc] 25)).heap.size = w.heap.size + 1 := by simp
  have hs2 : ((w.alloc (.cells #[.int .i64 lv, .string lo, .string hi, .bool la, .int .i64 sd, .slice iA n ic, .slice kA m kc] 25)).alloc (.cells #[.int .i64 0, .string ⟨#[]⟩, .string ⟨#[]⟩, .bool false, .int .i64 0, .slice none 0 0, .slice none 0 0] 25)).heap.size = w.heap.size + 1 + 1 := by simp
  have hB := ((Blk.new w 25 #[.int .i64 lv, .string lo, .string hi, .bool la, .int .i64 sd, .slice iA n ic, .slice kA m kc]).alloc (.cells #[.int .i64 0, .string ⟨#[]⟩, .string ⟨#[]⟩, .bool false, .int .i64 0, .slice none 0 0, .slice none 0 0] 25)).alloc (.cells #[.int .i64 0, .string ⟨#[]⟩, .string ⟨#[]⟩, .bool false, .int .i64 0, .slice none 0 0, .slice none 0 0] 25)
  have hX := (Blk.new (w.alloc (.cells #[.int .i64 lv, .string lo, .string hi, .bool la, .int .i64 sd, .slice iA n ic, .slice kA m kc] 25)) 25 #[.int .i64 0, .string ⟨#[]⟩, .string ⟨#[]⟩, .bool false, .int .i64 0, .slice none 0 0, .slice none 0 0]).alloc (.cells #[.int .i64 0, .string ⟨#[]⟩, .string ⟨#[]⟩, .bool false, .int .i64 0, .slice none 0 0, .slice none 0 0] 25)
  rw [hs1] at hX
  have hZ := Blk.new ((w.alloc (.cells #[.int .i64 lv, .string lo, .string hi, .bool la, .int .i64 sd, .slice iA n ic, .slice kA m kc] 25)).alloc (.cells #[.int .i64 0, .string ⟨#[]⟩, .string ⟨#[]⟩, .bool false, .int .i64 0, .slice none 0 0, .slice none 0 0] 25)) 25 #[.int .i64 0, .string ⟨#[]⟩, .string ⟨#[]⟩, .bool false, .int .i64 0, .slice none 0 0, .slice none 0 0]
  rw [hs2] at hZ
  have KW := Lib.hid kk0
  have HB := Lib.hid hB
  have HX := Lib.hid hX
  have HZ := Lib.hid hZ
  clear kk0 hB hX hZ hs1 hs2
  go_enter Try.func13, Try.ntmps13
  have b0 := (BlkH.go HB (Kept.refl _ _)).out.cell 0
  have b1 := (BlkH.go HB (Kept.refl _ _)).out.cell 1
  have b2 := (BlkH.go HB (Kept.refl _ _)).out.cell 2
  have b3 := (BlkH.go HB (Kept.refl _ _)).out.cell 3
  have b4 := (BlkH.go HB (Kept.refl _ _)).out.cell 4
  have b5 := (BlkH.go HB (Kept.refl _ _)).out.cell 5
  have b6 := (BlkH.go HB (Kept.refl _ _)).out.cell 6
  go_wp2_with fail
  clear b0 b1 b2 b3 b4 b5 b6
  generalize ((w.alloc (.cells #[.int .i64 lv, .string lo, .string hi, .bool la, .int .i64 sd, .slice iA n ic, .slice kA m kc] 25)).alloc (.cells #[.int .i64 0, .string ⟨#[]⟩, .string ⟨#[]⟩, .bool false, .int .i64 0, .slice none 0 0, .slice none 0 0] 25)).alloc (.cells #[.int .i64 0, .string ⟨#[]⟩, .string ⟨#[]⟩, .bool false, .int .i64 0, .slice none 0 0, .slice none 0 0] 25) = wc at KW HB HX HZ ⊢
  refine (h7 _ KW.out).mono ?_
  rintro e w1 ⟨rfl, hk⟩
  replace KW := Kept.go KW hk
  replace HB := BlkH.go HB hk
  replace HX := BlkH.go HX hk
  replace HZ := BlkH.go HZ hk
  clear hk
  obtain ⟨wa, hwa, hXa, hka⟩ := set_step HX.out (.int .i64 0) (.string ⟨#[]⟩) (.string ⟨#[]⟩) (.bool false) (.int .i64 0) (.slice none 0 0) (.slice none 0 0)
  have HZa := BlkH.far HZ hka (by omega)
  obtain ⟨wb, hwb, hZb, hkb⟩ := set_step HZa.out (.int .i64 0) (.string ⟨#[]⟩) (.string ⟨#[]⟩) (.bool false) (.int .i64 0) (.slice none 0 0) (.slice none 0 0)
  have HXb := BlkH.far (Lib.hid hXa) hkb (by omega)
  have KB := KeptH.far (KeptH.far KW hka (by omega)) hkb (by omega)
  have HWA := Lib.hid hwa
  have HWB := Lib.hid hwb
  have x0 := HX.out.cell 0
  have x1 := HX.out.cell 1
  have x2 := HX.out.cell 2
  have x3 := HX.out.cell 3
  have x4 := HX.out.cell 4
  have x5 := HX.out.cell 5
  have x6 := HX.out.cell 6
  have p0 := HX.out.frozen 0
  have p1 := HX.out.frozen 1
  have p2 := HX.out.frozen 2
  have p3 := HX.out.frozen 3
  have p4 := HX.out.frozen 4
  have p5 := HX.out.frozen 5
  have p6 := HX.out.frozen 6
  have z0 := HZ.out.cell 0
  have z1 := HZ.out.cell 1
  have z2 := HZ.out.cell 2
  have z3 := HZ.out.cell 3
  have z4 := HZ.out.cell 4
  have z5 := HZ.out.cell 5
  have z6 := HZ.out.cell 6
  have q0 := HZ.out.frozen 0
  have q1 := HZ.out.frozen 1
  have q2 := HZ.out.frozen 2
  have q3 := HZ.out.frozen 3
  have q4 := HZ.out.frozen 4
  have q5 := HZ.out.frozen 5
  have q6 := HZ.out.frozen 6
  clear hwa hwb
  go_wp2_with fail
  rw [HWA.out, HWB.out]
  clear x0 x1 x2 x3 x4 x5 x6 p0 p1 p2 p3 p4 p5 p6 z0 z1 z2 z3 z4 z5 z6 q0 q1 q2 q3 q4 q5 q6
  have u0 := HXb.out.cell 0
  have u1 := HXb.out.cell 1
  have u2 := HXb.out.cell 2
  have u3 := HXb.out.cell 3
  have u4 := HXb.out.cell 4
  have u5 := HXb.out.cell 5
  have u6 := HXb.out.cell 6
  have v0 := hZb.cell 0
  have v1 := hZb.cell 1
  have v2 := hZb.cell 2
  have v3 := hZb.cell 3
  have v4 := hZb.cell 4
  have v5 := hZb.cell 5
  have v6 := hZb.cell 6
  refine bodyPost_ret (v := .tuple #[.agg #[.int .i64 0, .string ⟨#[]⟩, .string ⟨#[]⟩, .bool false, .int .i64 0, .slice none 0 0, .slice none 0 0], .agg #[.int .i64 0, .string ⟨#[]⟩, .string ⟨#[]⟩, .bool false, .int .i64 0, .slice none 0 0, .slice none 0 0], .int .i64 101]) ?_ rfl ⟨rfl, KB.out⟩
  have hres : Try.f13.results = #[.cell 6 25, .cell 7 25, .tmp 8] := rfl
  unfold results
  rw [hres]
  go_simp
  try rfl
theorem check_level {p : Page} (h : check p = true) : 0 ≤ p.level := by
  have := (check_iff.1 h).1
  unfold bounds at this
  simp only [Bool.and_eq_true, decide_eq_true_eq] at this
  exact this.2.1
theorem split_out (p : Page) (key : ByteArray) (at_ : Int) {iA kA : Option Addr} {ic kc : Nat} (w : World) (hi : ItR w (.slice iA p.items.length ic) p.items) (hk : KdR w (.slice kA p.kids.length kc) p.kids) (hn : p.items.length ≤ 1152921504606846975) (hm : p.kids.length ≤ 1152921504606846975) (hck : check p = true)
    {i0 k0 : Nat} {f0 g0 : Bool} (hati : At (p.items.map (·.key)) key i0 f0) (hatk : At (p.kids.map (·.key)) key k0 g0)
    (hno : isKey key = false ∨ key = p.low ∨ covers p key = false ∨ isPage at_ = false ∨ (p.level ≠ 0 ∧ g0 = false)) :
    Calls Try.prog 13 #[pv p (.slice iA p.items.length ic) (.slice kA p.kids.length kc), .string key, .int .i64 at_] w fun e w' => e = .returned (.tuple #[.agg #[.int .i64 0, .string ⟨#[]⟩, .string ⟨#[]⟩, .bool false, .int .i64 0, .slice none 0 0, .slice none 0 0], .agg #[.int .i64 0, .string ⟨#[]⟩, .string ⟨#[]⟩, .bool false, .int .i64 0, .slice none 0 0, .slice none 0 0], .int .i64 103]) ∧ Kept (fun _ => True) w w' := by
  have h7 : ∀ W, Kept (fun _ => True) w W → Calls Try.prog 7 #[pv p (.slice iA p.items.length ic) (.slice kA p.kids.length kc)] W fun e w' => e = .returned (.int .i64 0) ∧ Kept (fun _ => True) W w' := fun W hW => by
    have := check_any p W (hi.all hW) (hk.all hW) hn hm
    rw [hck] at this
    exact this
  have h23 : ∀ W, Kept (fun _ => True) w W → Calls Try.prog 23 #[.slice iA p.items.length ic, .string key, .func (.func 24) #[] #[]] W fun e w' => e = .returned (.tuple #[.int .i64 i0, .bool f0]) ∧ Kept (fun _ => True) W w' := fun W hW =>
    (placeItem_any key W (hi.all hW) (check_sortedI hck) (by omega)).mono fun e w' ⟨i, f, he, ha, hk⟩ => by
      obtain ⟨rfl, rfl⟩ := At.same ha.out hati
      exact ⟨he, hk⟩
  have h27 : ∀ W, Kept (fun _ => True) w W → Calls Try.prog 27 #[.slice kA p.kids.length kc, .string key, .func (.func 28) #[] #[]] W fun e w' => e = .returned (.tuple #[.int .i64 k0, .bool g0]) ∧ Kept (fun _ => True) W w' := fun W hW =>
    (placeKid_any key W (hk.all hW) (check_sortedK hck) (by omega)).mono fun e w' ⟨i, f, he, ha, hk⟩ => by
      obtain ⟨rfl, rfl⟩ := At.same ha.out hatk
      exact ⟨he, hk⟩
  have h12 : ∀ W, Calls Try.prog 12 #[pv p (.slice iA p.items.length ic) (.slice kA p.kids.length kc), .string key] W fun e w' => e = .returned (.bool (covers p key)) ∧ Kept (fun _ => True) W w' := covers_any p _ _ key
  have h17 := isKey_any key
  have h18 := isPage_any at_
  have hlv0 : 0 ≤ p.level := check_level hck
  clear hi hk hck hn hm hati hatk
  generalize covers p key = cv at h12 hno
  generalize isKey key = kb at h17 hno
  generalize isPage at_ = pb at h18 hno
  obtain ⟨lv, lo, hi, la, sd, il, kl⟩ := p
  simp only at hno hlv0
  unfold pv at *
  simp only at *
  generalize il.length = n at h7 h12 h23 ⊢
  generalize kl.length = m at h7 h12 h27 ⊢
  have kk0 : Kept (fun _ => True) w (((w.alloc (.cells #[.int .i64 lv, .string lo, .string hi, .bool la, .int .i64 sd, .slice iA n ic, .slice kA m kc] 25)).alloc (.cells #[.int .i64 0, .string ⟨#[]⟩, .string ⟨#[]⟩, .bool false, .int .i64 0, .slice none 0 0, .slice none 0 0] 25)).alloc (.cells #[.int .i64 0, .string ⟨#[]⟩, .string ⟨#[]⟩, .bool false, .int .i64 0, .slice none 0 0, .slice none 0 0] 25)) := (((Kept.refl _ w).alloc _).alloc _).alloc _
  have hs1 : (w.alloc (.cells #[.int .i64 lv, .string lo, .string hi, .bool la, .int .i64 sd, .slice iA n ic, .slice kA m kc] 25)).heap.size = w.heap.size + 1 := by simp
  have hs2 : ((w.alloc (.cells #[.int .i64 lv, .string lo, .string hi, .bool la, .int .i64 sd, .slice iA n ic, .slice kA m kc] 25)).alloc (.cells #[.int .i64 0, .string ⟨#[]⟩, .string ⟨#[]⟩, .bool false, .int .i64 0, .slice none 0 0, .slice none 0 0] 25)).heap.size = w.heap.size + 1 + 1 := by simp
  have hB := ((Blk.new w 25 #[.int .i64 lv, .string lo, .string hi, .bool la, .int .i64 sd, .slice iA n ic, .slice kA m kc]).alloc (.cells #[.int .i64 0, .string ⟨#[]⟩, .string ⟨#[]⟩, .bool false, .int .i64 0, .slice none 0 0, .slice none 0 0] 25)).alloc (.cells #[.int .i64 0, .string ⟨#[]⟩, .string ⟨#[]⟩, .bool false, .int .i64 0, .slice none 0 0, .slice none 0 0] 25)
  have hX := (Blk.new (w.alloc (.cells #[.int .i64 lv, .string lo, .string hi, .bool la, .int .i64 sd, .slice iA n ic, .slice kA m kc] 25)) 25 #[.int .i64 0, .string ⟨#[]⟩, .string ⟨#[]⟩, .bool false, .int .i64 0, .slice none 0 0, .slice none 0 0]).alloc (.cells #[.int .i64 0, .string ⟨#[]⟩, .string ⟨#[]⟩, .bool false, .int .i64 0, .slice none 0 0, .slice none 0 0] 25)
  rw [hs1] at hX
  have hZ := Blk.new ((w.alloc (.cells #[.int .i64 lv, .string lo, .string hi, .bool la, .int .i64 sd, .slice iA n ic, .slice kA m kc] 25)).alloc (.cells #[.int .i64 0, .string ⟨#[]⟩, .string ⟨#[]⟩, .bool false, .int .i64 0, .slice none 0 0, .slice none 0 0] 25)) 25 #[.int .i64 0, .string ⟨#[]⟩, .string ⟨#[]⟩, .bool false, .int .i64 0, .slice none 0 0, .slice none 0 0]
  rw [hs2] at hZ
  have KW := Lib.hid kk0
  have HB := Lib.hid hB
  have HX := Lib.hid hX
  have HZ := Lib.hid hZ
  clear kk0 hB hX hZ hs1 hs2
  go_enter Try.func13, Try.ntmps13
  have b0 := (BlkH.go HB (Kept.refl _ _)).out.cell 0
  have b1 := (BlkH.go HB (Kept.refl _ _)).out.cell 1
  have b2 := (BlkH.go HB (Kept.refl _ _)).out.cell 2
  have b3 := (BlkH.go HB (Kept.refl _ _)).out.cell 3
  have b4 := (BlkH.go HB (Kept.refl _ _)).out.cell 4
  have b5 := (BlkH.go HB (Kept.refl _ _)).out.cell 5
  have b6 := (BlkH.go HB (Kept.refl _ _)).out.cell 6
  go_wp2_with fail
  clear b0 b1 b2 b3 b4 b5 b6
  generalize ((w.alloc (.cells #[.int .i64 lv, .string lo, .string hi, .bool la, .int .i64 sd, .slice iA n ic, .slice kA m kc] 25)).alloc (.cells #[.int .i64 0, .string ⟨#[]⟩, .string ⟨#[]⟩, .bool false, .int .i64 0, .slice none 0 0, .slice none 0 0] 25)).alloc (.cells #[.int .i64 0, .string ⟨#[]⟩, .string ⟨#[]⟩, .bool false, .int .i64 0, .slice none 0 0, .slice none 0 0] 25) = wc at KW HB HX HZ ⊢
  refine (h7 _ KW.out).mono ?_
  rintro e w1 ⟨rfl, hk⟩
  replace KW := Kept.go KW hk
  replace HB := BlkH.go HB hk
  replace HX := BlkH.go HX hk
  replace HZ := BlkH.go HZ hk
  clear hk
  have b5 := HB.out.cell 5
  go_wp2_with fail
  clear b5
  refine (h23 _ KW.out).mono ?_
  rintro e w2 ⟨rfl, hk⟩
  replace KW := Kept.go KW hk
  replace HB := BlkH.go HB hk
  replace HX := BlkH.go HX hk
  replace HZ := BlkH.go HZ hk
  clear hk
  have b6 := HB.out.cell 6
  go_wp2_with fail
  clear b6
  refine (h27 _ KW.out).mono ?_
  rintro e w3 ⟨rfl, hk⟩
  replace KW := Kept.go KW hk
  replace HB := BlkH.go HB hk
  replace HX := BlkH.go HX hk
  replace HZ := BlkH.go HZ hk
  clear hk
  go_upto_region 6 with fail
  go_cut [65] (fun x wx => x = .bool true ∧ Hid (Kept (fun _ => True) w3 wx))
  case first =>
    have b0 := HB.out.cell 0
    have b1 := HB.out.cell 1
    have b2 := HB.out.cell 2
    have b3 := HB.out.cell 3
    have b4 := HB.out.cell 4
    have b5 := HB.out.cell 5
    have b6 := HB.out.cell 6
    cases kb with
    | false =>
      go_wp2_with (first | (go_at_call 17; refine (h17 _).mono ?_; rintro e w' ⟨rfl, rfl⟩) | (go_at_call 18; refine (h18 _).mono ?_; rintro e w' ⟨rfl, rfl⟩) | (go_at_call 12; refine (h12 _).mono ?_; rintro e w' ⟨rfl, hk4⟩; have e0 := hk4.cellv b0))
      all_goals
        go_meet
        case rel => exact ⟨rfl, Lib.hid (Kept.refl _ _)⟩
    | true =>
      by_cases hlow : key = lo
      · subst hlow
        go_wp2_with (first | (go_at_call 17; refine (h17 _).mono ?_; rintro e w' ⟨rfl, rfl⟩) | (go_at_call 18; refine (h18 _).mono ?_; rintro e w' ⟨rfl, rfl⟩) | (go_at_call 12; refine (h12 _).mono ?_; rintro e w' ⟨rfl, hk4⟩; have e0 := hk4.cellv b0))
        all_goals
          go_meet
          case rel => exact ⟨rfl, Lib.hid (Kept.refl _ _)⟩
      · have tlow : (key.toList == lo.toList) = false := by rw [beq_toList]; exact decide_eq_false hlow
        cases cv with
        | false =>
          go_wp2_with (first | (go_at_call 17; refine (h17 _).mono ?_; rintro e w' ⟨rfl, rfl⟩) | (go_at_call 18; refine (h18 _).mono ?_; rintro e w' ⟨rfl, rfl⟩) | (go_at_call 12; refine (h12 _).mono ?_; rintro e w' ⟨rfl, hk4⟩; have e0 := hk4.cellv b0))
          all_goals
            go_meet
            case rel => exact ⟨rfl, Lib.hid hk4⟩
        | true =>
          cases pb with
          | false =>
            go_wp2_with (first | (go_at_call 17; refine (h17 _).mono ?_; rintro e w' ⟨rfl, rfl⟩) | (go_at_call 18; refine (h18 _).mono ?_; rintro e w' ⟨rfl, rfl⟩) | (go_at_call 12; refine (h12 _).mono ?_; rintro e w' ⟨rfl, hk4⟩; have e0 := hk4.cellv b0))
            all_goals
              go_meet
              case rel => exact ⟨rfl, Lib.hid hk4⟩
          | true =>
            have hg : lv ≠ 0 ∧ g0 = false := by
              rcases hno with h | h | h | h | h
              · cases h
              · exact absurd h hlow
              · cases h
              · cases h
              · exact h
            have hg0 := hg.2
            subst hg0
            have hl1 : decide (0 < lv) = true := by simp; omega
            have hl2 : 0 < lv := by omega
            go_wp2_with (first | (go_at_call 17; refine (h17 _).mono ?_; rintro e w' ⟨rfl, rfl⟩) | (go_at_call 18; refine (h18 _).mono ?_; rintro e w' ⟨rfl, rfl⟩) | (go_at_call 12; refine (h12 _).mono ?_; rintro e w' ⟨rfl, hk4⟩; have e0 := hk4.cellv b0))
            all_goals
              go_meet
              case rel => exact ⟨rfl, Lib.hid hk4⟩
  case rest =>
    obtain ⟨rfl, HK4⟩ := hcut
    have hk := HK4.out
    replace KW := Kept.go KW hk
    replace HB := BlkH.go HB hk
    replace HX := BlkH.go HX hk
    replace HZ := BlkH.go HZ hk
    clear hk HK4
    obtain ⟨wa, hwa, hXa, hka⟩ := set_step HX.out (.int .i64 0) (.string ⟨#[]⟩) (.string ⟨#[]⟩) (.bool false) (.int .i64 0) (.slice none 0 0) (.slice none 0 0)
    have HZa := BlkH.far HZ hka (by omega)
    obtain ⟨wb, hwb, hZb, hkb⟩ := set_step HZa.out (.int .i64 0) (.string ⟨#[]⟩) (.string ⟨#[]⟩) (.bool false) (.int .i64 0) (.slice none 0 0) (.slice none 0 0)
    have HXb := BlkH.far (Lib.hid hXa) hkb (by omega)
    have KB := KeptH.far (KeptH.far KW hka (by omega)) hkb (by omega)
    have HWA := Lib.hid hwa
    have HWB := Lib.hid hwb
    have x0 := HX.out.cell 0
    have x1 := HX.out.cell 1
    have x2 := HX.out.cell 2
    have x3 := HX.out.cell 3
    have x4 := HX.out.cell 4
    have x5 := HX.out.cell 5
    have x6 := HX.out.cell 6
    have p0 := HX.out.frozen 0
    have p1 := HX.out.frozen 1
    have p2 := HX.out.frozen 2
    have p3 := HX.out.frozen 3
    have p4 := HX.out.frozen 4
    have p5 := HX.out.frozen 5
    have p6 := HX.out.frozen 6
    have z0 := HZ.out.cell 0
    have z1 := HZ.out.cell 1
    have z2 := HZ.out.cell 2
    have z3 := HZ.out.cell 3
    have z4 := HZ.out.cell 4
    have z5 := HZ.out.cell 5
    have z6 := HZ.out.cell 6
    have q0 := HZ.out.frozen 0
    have q1 := HZ.out.frozen 1
    have q2 := HZ.out.frozen 2
    have q3 := HZ.out.frozen 3
    have q4 := HZ.out.frozen 4
    have q5 := HZ.out.frozen 5
    have q6 := HZ.out.frozen 6
    clear hwa hwb
    go_wp2_with fail
    rw [HWA.out, HWB.out]
    clear x0 x1 x2 x3 x4 x5 x6 p0 p1 p2 p3 p4 p5 p6 z0 z1 z2 z3 z4 z5 z6 q0 q1 q2 q3 q4 q5 q6
    have u0 := HXb.out.cell 0
    have u1 := HXb.out.cell 1
    have u2 := HXb.out.cell 2
    have u3 := HXb.out.cell 3
    have u4 := HXb.out.cell 4
    have u5 := HXb.out.cell 5
    have u6 := HXb.out.cell 6
    have v0 := hZb.cell 0
    have v1 := hZb.cell 1
    have v2 := hZb.cell 2
    have v3 := hZb.cell 3
    have v4 := hZb.cell 4
    have v5 := hZb.cell 5
    have v6 := hZb.cell 6
    refine bodyPost_ret (v := .tuple #[.agg #[.int .i64 0, .string ⟨#[]⟩, .string ⟨#[]⟩, .bool false, .int .i64 0, .slice none 0 0, .slice none 0 0], .agg #[.int .i64 0, .string ⟨#[]⟩, .string ⟨#[]⟩, .bool false, .int .i64 0, .slice none 0 0, .slice none 0 0], .int .i64 103]) ?_ rfl ⟨rfl, KB.out⟩
    have hres : Try.f13.results = #[.cell 6 25, .cell 7 25, .tmp 8] := rfl
    unfold results
    rw [hres]
    go_simp
    try rfl
end Ytfoolgojcmkdbaa
end Go.Proofs
