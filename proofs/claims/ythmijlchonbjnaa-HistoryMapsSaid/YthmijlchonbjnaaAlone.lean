/-
  alone: calls done one at a time.
-/
import Derived.Test.YthmijlchonbjnaaPure
import Derived.Test.YthmijlchonbjnaaAwake
set_option maxHeartbeats 4000000
set_option maxRecDepth 100000
namespace Go.Proofs
open Go.RowKit
namespace Ythmijlchonbjnaa
attribute [local go_sem ↓] Go.wp_at_zero Go.wp_at_succ
theorem HRepH.far {w w' : World} {base g c rb : Nat} {A : Option Addr} {l : List PC} {now : Int} {x : Nat} {t : TypeId} {cs : Array Value} (h : Hid (HRep w base g A c rb l now)) (hk : Kept (fun b => b ≠ x) w w') (hb : Hid (Blk w x t cs)) (h1 : t ≠ 56) (h2 : t ≠ 52) (h3 : t ≠ 49) (h4 : t ≠ 63) : Hid (HRep w' base g A c rb l now) :=
  Lib.hid ⟨h.out.blk.kept hk (Blk.ne_ h.out.blk hb.out h1.symm), (RowH.far (Lib.hid h.out.row) hk hb h2.symm).out, h.out.rules.kept hk (Blk.ne_ h.out.rules hb.out h3.symm), h.out.gge, fun z hz e a tt he => (h.out.ends z hz e a tt he).kept hk (Blk.ne_ (h.out.ends z hz e a tt he) hb.out h4.symm)⟩
theorem KeptF.go {w0 W W' : World} {base : Nat} (h : Hid (Kept (fun b => b < base) w0 W)) (hk : Kept (fun _ => True) W W') : Hid (Kept (fun b => b < base) w0 W') := Lib.hid (h.out.trans' hk fun _ _ _ => trivial)
theorem KeptF.ops {w0 W W' : World} {base : Nat} (h : Hid (Kept (fun b => b < base) w0 W)) (hk : Kept (Far base W) W W') : Hid (Kept (fun b => b < base) w0 W') := Lib.hid (h.out.trans' hk fun _ _ h => .inl h)
theorem KeptF.far {w0 W W' : World} {base x : Nat} (h : Hid (Kept (fun b => b < base) w0 W)) (hk : Kept (fun b => b ≠ x) W W') (hx : base ≤ x) : Hid (Kept (fun b => b < base) w0 W') := Lib.hid (h.out.trans' hk fun i _ (hi : i < base) e => by
  have : i = x := e
  omega)
/-- The calls, the cells written out. -/
theorem begin6 {w : World} {base g c rb : Nat} {A : Option Addr} {l : List PC} {now : Int} (h : HRep w base g A c rb l now) (x : Call) (no : Int) (h1 : now ≤ no) (hk1 : 1 ≤ x.kind) (hk5 : x.kind ≤ 5) (hn : l.length ≤ 1000) :
    Calls Try.prog 11 #[.pointer (some ⟨g, 0, none⟩), .agg #[.int .i64 x.client, .int .i64 x.kind, .string x.key, .string x.val, .string x.fin, .int .i64 x.most], .int .i64 no] w fun e w' => e = .returned (.tuple #[.int .i64 l.length, .int .i64 0]) ∧ (∃ A' c', Hid (HRep w' base g A' c' rb (l ++ [⟨x, no, 0, none⟩]) no)) ∧ Kept (Far base w) w w' := begin_any h x no h1 hk1 hk5 hn
theorem end5 {w : World} {base g c rb : Nat} {A : Option Addr} {l : List PC} {now : Int} (h : HRep w base g A c rb l now) {i : Nat} {x : PC} (hi : l[i]? = some x) (a : Ans) (no : Int) (hf : x.fin = none) (hno : now ≤ no) :
    Calls Try.prog 12 #[.pointer (some ⟨g, 0, none⟩), .int .i64 i, .agg #[.int .i64 a.err, .bool a.is, .string a.val, .int .i64 a.no, .slice none 0 0], .int .i64 no] w fun e w' => e = .returned (.int .i64 0) ∧ (∃ b A' c', Hid (HRep w' base g A' c' rb (l.set i { x with fin := some (b, a, no) }) no)) ∧ Kept (Far base w) w w' := end_any h hi a no hf hno
theorem set_last {α : Type} (l : List α) (x y : α) : (l ++ [x]).set l.length y = l ++ [y] := by simp
theorem get_last {α : Type} (l : List α) (x : α) : (l ++ [x])[l.length]? = some x := by simp
theorem wrap64_fit (n : Int) (h : -9223372036854775808 ≤ n ∧ n ≤ 9223372036854775807) : wrap64 n = n := by unfold wrap64; omega
/-- A kind, as alone makes it. -/
theorem kind3 (k : Int) : 1 ≤ wrap64 (1 + (wrap64 (k.tmod 3 + 3)).tmod 3) ∧ wrap64 (1 + (wrap64 (k.tmod 3 + 3)).tmod 3) ≤ 3 := by
  have h1 := Int.tmod_lt_of_pos k (b := 3) (by decide)
  have h2 := Int.lt_tmod_of_pos k (b := 3) (by decide)
  have e1 : wrap64 (k.tmod 3 + 3) = k.tmod 3 + 3 := wrap64_fit _ (by omega)
  rw [e1]
  have h3 : 0 ≤ Int.tmod (Int.tmod k 3 + 3) 3 := Int.tmod_nonneg 3 (by omega)
  have h4 := Int.tmod_lt_of_pos (Int.tmod k 3 + 3) (b := 3) (by decide)
  rw [wrap64_fit _ (by omega)]
  omega
theorem set12_step {W : World} {g : Nat} {t : TypeId} {b0 b1 b2 b3 b4 : Value} (h : Blk W g t #[b0, b1, b2, b3, b4]) (a1 a2 : Value) : ∃ W', (W.setCell ⟨g, 1, none⟩ a1).setCell ⟨g, 2, none⟩ a2 = W' ∧ Blk W' g t #[b0, a1, a2, b3, b4] ∧ Kept (fun b => b ≠ g) W W' :=
  ⟨_, rfl, (h.set_ 1 a1).set_ 2 a2, ((Kept.refl _ W).setCell (fun _ h => h rfl) _).setCell (fun _ h => h rfl) _⟩
theorem alone_any {w : World} {base g c rb : Nat} {A : Option Addr} (h : HRep w base g A c rb [] 0) (l : List Call) {B : Option Addr} {n d : Nat} (hr : CaR w (.slice B n d) l) (hb : l ≠ [] → ∀ x, (Value.slice B n d).ownBlock = some x → x < base) (hw : base ≤ w.heap.size) :
    Calls Try.prog 8 #[.pointer (some ⟨g, 0, none⟩), .slice B n d] w fun e w' => (∃ cs : List PC, e = .returned (.int .i64 ((updF cs).length : Nat)) ∧ (∃ (A' : Option Addr) (c' : Nat), Hid (HRep w' base g A' c' rb cs ((updF cs).length : Nat))) ∧ Hid (Good cs) ∧ Hid (cs.length ≤ 100)) ∧ Kept (fun b => b < base) w w' := by
  have HL := Lib.hid hr.len
  have HB := Lib.hid hb
  have HC := Lib.hid hr
  have H0 := Lib.hid h
  have HW := Lib.hid hw
  clear h hr hb hw
  go_enter Try.func8, Try.ntmps8
  go_wp2_with fail
  go_loopw [5, 6, 7, 8, 9, 10, 11, 12] (fun s5 s6 _ _ _ _ _ _ wr => ∃ (i no : Nat) (cs : List PC) (A' : Option Addr) (c' : Nat), i ≤ n ∧ i ≤ 100 ∧ s5 = .int .i64 no ∧ s6 = .int .i64 i ∧ Hid (HRep wr base g A' c' rb cs no) ∧ Hid (no = (updF cs).length) ∧ Hid (Good cs) ∧ Hid (cs.length = i) ∧ Hid (Kept (fun b => b < base) w wr)) (fun _ s6 _ _ _ _ _ _ _ => n - (intOf s6).toNat)
  case atStart => exact ⟨0, 0, [], A, c, Nat.zero_le _, by omega, rfl, rfl, H0, Lib.hid rfl, Lib.hid Good.nil, Lib.hid rfl, Lib.hid (Kept.refl _ _)⟩
  case round =>
    obtain ⟨i, no, cs, A', c', hin, hi100, rfl, rfl, HR, NO, GD, LN, KW⟩ := hrel
    by_cases hlt : i < n ∧ i < 100
    · obtain ⟨h1, h2⟩ := hlt
      have h1z : (i : Int) < (n : Int) := by omega
      have h2z : (i : Int) < 100 := by omega
      obtain ⟨x, hx⟩ : ∃ x, l[i]? = some x := ⟨_, List.getElem?_eq_getElem (by have := HL.out; omega)⟩
      obtain ⟨b, off, rfl, _, _, hcell⟩ := (HC.out.kept KW.out HB.out).at_ hx
      have r0 : wr.cell? ⟨b, off + i * 6, none⟩ = _ := hcell 0 _ rfl
      have r1 := hcell 1 _ rfl
      have r2 := hcell 2 _ rfl
      have r3 := hcell 3 _ rfl
      have r4 := hcell 4 _ rfl
      have r5 := hcell 5 _ rfl
      clear hcell hx
      obtain ⟨xc, xk, xy, xv, xf, xm⟩ := x
      simp only at r0 r1 r2 r3 r4 r5
      have hno : (no : Int) < 100 := by
        have := updF_len cs
        have := NO.out
        have := LN.out
        omega
      obtain ⟨hK1, hK3⟩ := kind3 xk
      go_wp2_with fail
      generalize wrap64 (1 + (wrap64 (xk.tmod 3 + 3)).tmod 3) = K at hK1 hK3 ⊢
      clear r0 r1 r2 r3 r4 r5
      have hbc := Blk.new wr 38 #[.int .i64 xc, .int .i64 K, .string xy, .string xv, .string xf, .int .i64 xm]
      have hk := (Kept.refl (fun _ => True) wr).alloc (.cells #[.int .i64 xc, .int .i64 K, .string xy, .string xv, .string xf, .int .i64 xm] 38)
      generalize wr.alloc (.cells #[.int .i64 xc, .int .i64 K, .string xy, .string xv, .string xf, .int .i64 xm] 38) = w0 at hbc hk ⊢
      have HWR : Hid (base ≤ wr.heap.size) := Lib.hid (by have := KW.out.size; have := HW.out; omega)
      generalize wr.heap.size = cb at hbc HWR ⊢
      have BC := Lib.hid hbc
      replace HR := HRepH.go HR hk
      replace KW := KeptF.go KW hk
      clear hbc hk
      have hbeg := begin6 HR.out ⟨xc, K, xy, xv, xf, xm⟩ no (by omega) hK1 (by show K ≤ 5; omega) (by have := LN.out; omega)
      rw [LN.out] at hbeg
      refine hbeg.mono ?_
      rintro e w1 ⟨rfl, ⟨A1, c1, HR1⟩, hk⟩
      have hgl : (cs ++ [(⟨⟨xc, K, xy, xv, xf, xm⟩, no, 0, none⟩ : PC)])[i]? = some ⟨⟨xc, K, xy, xv, xf, xm⟩, no, 0, none⟩ := by rw [← LN.out]; exact get_last _ _
      replace KW := KeptF.ops KW hk
      replace BC := BlkH.pass BC hk (by decide) (by decide)
      clear hk hbeg HR
      have HGL := Lib.hid hgl
      clear hgl
      have d1 := BC.out.cell 1
      by_cases hK : K = 1
      · have hne : (K != 1) = false := by simpa using hK
        go_wp2_with fail
        clear d1
        have hba := Blk.new w1 31 #[.int .i64 0, .bool false, .string ⟨#[]⟩, .int .i64 no, .slice none 0 0]
        have hk := (Kept.refl (fun _ => True) w1).alloc (.cells #[.int .i64 0, .bool false, .string ⟨#[]⟩, .int .i64 no, .slice none 0 0] 31)
        generalize w1.alloc (.cells #[.int .i64 0, .bool false, .string ⟨#[]⟩, .int .i64 no, .slice none 0 0] 31) = w2 at hba hk ⊢
        have HW1 : Hid (base ≤ w1.heap.size) := Lib.hid (by have := KW.out.size; have := HW.out; omega)
        generalize w1.heap.size = ab at hba HW1 ⊢
        have BA := Lib.hid hba
        replace HR1 := HRepH.go HR1 hk
        replace KW := KeptF.go KW hk
        replace BC := BlkH.go BC hk
        clear hba hk
        have hu : updF (cs ++ [(⟨⟨xc, K, xy, xv, xf, xm⟩, no, 0, none⟩ : PC)]) = updF cs := by rw [updF_snoc]; simp
        have hmap := map_any HR1.out no (by have := LN.out; simp; omega)
        rw [hu] at hmap
        obtain ⟨m, hm⟩ : ∃ m, mapF (updF cs) no = m := ⟨_, rfl⟩
        rw [hm] at hmap
        obtain ⟨z, hz⟩ : ∃ z, m.length = z := ⟨_, rfl⟩
        rw [hz] at hmap
        have hz100 : z ≤ 100 := by
          rw [← hz, ← hm]
          have h1 : (mapF (updF cs) no).length ≤ (keysF (updF cs)).length := List.length_filterMap_le _ _
          have h2 := keysF_len (updF cs)
          have h3 := updF_len cs
          have h4 := LN.out
          omega
        have HM := Lib.hid (And.intro hm hz)
        refine hmap.mono ?_
        rintro e w3 ⟨M, md, rfl, RM, hk⟩
        replace HR1 := HRepH.go HR1 hk
        replace KW := KeptF.go KW hk
        replace BC := BlkH.go BC hk
        replace BA := BlkH.go BA hk
        clear hk hmap hm hz
        go_wp2_with fail
        go_loopw [12] (fun s12 wx => ∃ (k : Nat) (is : Bool) (val : ByteArray), k ≤ z ∧ s12 = .int .i64 k ∧ Hid ((is, val) = look (m.take k) xy) ∧ Hid (Blk wx ab 31 #[.int .i64 0, .bool is, .string val, .int .i64 no, .slice none 0 0]) ∧ Hid (Kept (fun b => b ≠ ab) w3 wx)) (fun s12 _ => z - (intOf s12).toNat)
        case atStart => exact ⟨0, false, ⟨#[]⟩, Nat.zero_le _, rfl, Lib.hid rfl, BA, Lib.hid (Kept.refl _ _)⟩
        case round =>
          obtain ⟨k, is, val, hk, rfl, LK, BAX, KX⟩ := hrel
          by_cases hkz : k < z
          · have hkzz : (k : Int) < (z : Int) := by omega
            obtain ⟨y, hy⟩ : ∃ y, m[k]? = some y := ⟨_, List.getElem?_eq_getElem (by have := HM.out.2; omega)⟩
            obtain ⟨q, _, rfl, _, hqb, _, _, hcell⟩ := (RowH.far RM KX.out BA (by decide)).out.at_ encI hy
            have r0 : wr.cell? ⟨q, k * 4, none⟩ = _ := hcell 0 _ rfl
            have r1 := hcell 1 _ rfl
            have r1s : (wr.setCell ⟨ab, 1, none⟩ (.bool true)).cell? ⟨q, k * 4 + 1, none⟩ = some (.string y.val) :=
              ((((Kept.refl (fun b => b ≠ ab) wr).setCell (p := ⟨ab, 1, none⟩) (fun _ h => h rfl) (.bool true)).cell (p := ⟨q, k * 4 + 1, none⟩) hqb.lt (Blk.ne_ hqb BAX.out (by decide))).trans r1)
            clear hqb
            have d2 := (BlkH.far BC KX.out (Blk.ne_ BC.out BA.out (by decide))).out.cell 2
            have LK1 : Hid (look (m.take (k + 1)) xy = if (y.key.toList == xy.toList) = true then (true, y.val) else (is, val)) := Lib.hid (by
              rw [look_snoc hy, ← LK.out]
              rfl)
            clear hcell hy
            go_upto_region 17 with fail
            go_region
            all_goals
              have f1 := BAX.out.frozen 1
              have f2 := BAX.out.frozen 2
              have z1 := BAX.out.cell 1
              have z2 := BAX.out.cell 2
              cases hq : y.key.toList == xy.toList with
              | true =>
                rw [hq] at LK1
                obtain ⟨wn, hw, bn, kn⟩ := set12_step BAX.out (.bool true) (.string y.val)
                have BN := Lib.hid bn.drew
                have KN := Lib.hid (KX.out.trans kn).drew
                clear bn kn
                go_wp2_with fail
                go_roundw
                case measure => simp [intOf]; omega
                case rel => exact ⟨k + 1, true, y.val, by omega, by simp, Lib.hid LK1.out.symm, BN, KN⟩
              | false =>
                rw [hq] at LK1
                have KN := Lib.hid KX.out.drew
                go_wp2_with fail
                go_roundw
                case measure => simp [intOf]; omega
                case rel => exact ⟨k + 1, is, val, by omega, by simp, Lib.hid LK1.out.symm, BAX, KN⟩
          · have hkzz : ¬ (k : Int) < (z : Int) := by omega
            have ht : m.take k = m := List.take_of_length_le (by have := HM.out.2; omega)
            rw [ht] at LK
            clear ht
            have a0 := BAX.out.cell 0
            have a1 := BAX.out.cell 1
            have a2 := BAX.out.cell 2
            have a3 := BAX.out.cell 3
            have a4 := BAX.out.cell 4
            replace HR1 := HRepH.far HR1 KX.out BA (by decide) (by decide) (by decide) (by decide)
            replace KW := KeptF.far KW KX.out HW1.out
            clear BC RM BA
            go_wp2_with fail
            refine (end5 HR1.out HGL.out ⟨0, is, val, no⟩ no rfl (by omega)).mono ?_
            rintro e w4 ⟨rfl, ⟨eb, A4, c4, HR4⟩, hk4⟩
            replace KW := KeptF.ops KW hk4
            have hset : (cs ++ [(⟨⟨xc, K, xy, xv, xf, xm⟩, no, 0, none⟩ : PC)]).set i ⟨⟨xc, K, xy, xv, xf, xm⟩, no, 0, some (eb, ⟨0, is, val, no⟩, no)⟩ = cs ++ [⟨⟨xc, K, xy, xv, xf, xm⟩, no, 0, some (eb, ⟨0, is, val, no⟩, no)⟩] := by rw [← LN.out]; exact set_last _ _ _
            have HR5 : Hid (HRep w4 base g A4 c4 rb (cs ++ [⟨⟨xc, K, xy, xv, xf, xm⟩, no, 0, some (eb, ⟨0, is, val, no⟩, no)⟩]) no) := Lib.hid (by
              have := HR4.out
              rwa [hset] at this)
            have NO2 : Hid (no = (updF (cs ++ [⟨⟨xc, K, xy, xv, xf, xm⟩, no, 0, some (eb, ⟨0, is, val, no⟩, no)⟩])).length) := Lib.hid (by rw [updF_snoc]; simpa using NO.out)
            have GD2 : Hid (Good (cs ++ [⟨⟨xc, K, xy, xv, xf, xm⟩, no, 0, some (eb, ⟨0, is, val, no⟩, no)⟩])) := Lib.hid (GD.out.snoc ⟨eb, ⟨0, is, val, no⟩, no, rfl, rfl, by rw [NO.out], .inl ⟨hK, rfl, by rw [NO.out], by rw [NO.out], by
              show (is, val) = look (mapF (updF cs) ((updF cs).length : Int)) xy
              rw [← NO.out, HM.out.1]
              exact LK.out⟩⟩)
            have LN2 : Hid ((cs ++ [(⟨⟨xc, K, xy, xv, xf, xm⟩, no, 0, some (eb, ⟨0, is, val, no⟩, no)⟩ : PC)]).length = i + 1) := Lib.hid (by rw [List.length_append, LN.out]; rfl)
            clear hset HR4 hk4
            go_wp2_with fail
            go_roundw
            case measure => simp [intOf]; omega
            case rel => exact ⟨i + 1, no, _, A4, c4, by omega, by omega, rfl, by simp, HR5, NO2, GD2, LN2, KW⟩
      · have hne : (K != 1) = true := by simpa using hK
        go_wp2_with fail
        refine (effect_any HR1.out HGL.out ((no : Int) + 1) (by
          show isUpd K = true
          unfold isUpd
          have : K = 2 ∨ K = 3 := by omega
          rcases this with h | h <;> simp [h]) rfl rfl (by omega)).mono ?_
        rintro e w2 ⟨rfl, ⟨A2, c2, HR2⟩, hk⟩
        replace KW := KeptF.ops KW hk
        have hset : (cs ++ [(⟨⟨xc, K, xy, xv, xf, xm⟩, no, 0, none⟩ : PC)]).set i ⟨⟨xc, K, xy, xv, xf, xm⟩, no, (no : Int) + 1, none⟩ = cs ++ [⟨⟨xc, K, xy, xv, xf, xm⟩, no, (no : Int) + 1, none⟩] := by rw [← LN.out]; exact set_last _ _ _
        have HR3 : Hid (HRep w2 base g A2 c2 rb (cs ++ [⟨⟨xc, K, xy, xv, xf, xm⟩, no, (no : Int) + 1, none⟩]) no) := Lib.hid (by
          have := HR2.out
          rwa [hset] at this)
        have HGL2 : Hid ((cs ++ [(⟨⟨xc, K, xy, xv, xf, xm⟩, no, (no : Int) + 1, none⟩ : PC)])[i]? = some ⟨⟨xc, K, xy, xv, xf, xm⟩, no, (no : Int) + 1, none⟩) := Lib.hid (by rw [← LN.out]; exact get_last _ _)
        clear hk hset HR2 HR1 HGL d1
        go_wp2_with fail
        refine (end5 HR3.out HGL2.out ⟨0, false, ⟨#[]⟩, (no : Int) + 1⟩ ((no : Int) + 1) rfl (by omega)).mono ?_
        rintro e w4 ⟨rfl, ⟨eb, A4, c4, HR4⟩, hk4⟩
        replace KW := KeptF.ops KW hk4
        have hset : (cs ++ [(⟨⟨xc, K, xy, xv, xf, xm⟩, no, (no : Int) + 1, none⟩ : PC)]).set i ⟨⟨xc, K, xy, xv, xf, xm⟩, no, (no : Int) + 1, some (eb, ⟨0, false, ⟨#[]⟩, (no : Int) + 1⟩, (no : Int) + 1)⟩ = cs ++ [⟨⟨xc, K, xy, xv, xf, xm⟩, no, (no : Int) + 1, some (eb, ⟨0, false, ⟨#[]⟩, (no : Int) + 1⟩, (no : Int) + 1)⟩] := by rw [← LN.out]; exact set_last _ _ _
        have HR5 : Hid (HRep w4 base g A4 c4 rb (cs ++ [⟨⟨xc, K, xy, xv, xf, xm⟩, no, (no : Int) + 1, some (eb, ⟨0, false, ⟨#[]⟩, (no : Int) + 1⟩, (no : Int) + 1)⟩]) ((no + 1 : Nat) : Int)) := Lib.hid (by
          have := HR4.out
          rw [hset] at this
          exact this)
        have NO2 : Hid (no + 1 = (updF (cs ++ [⟨⟨xc, K, xy, xv, xf, xm⟩, no, (no : Int) + 1, some (eb, ⟨0, false, ⟨#[]⟩, (no : Int) + 1⟩, (no : Int) + 1)⟩])).length) := Lib.hid (by
          rw [updF_snoc, if_pos (show (0 : Int) < (no : Int) + 1 by omega), List.length_append, ← NO.out]
          rfl)
        have GD2 : Hid (Good (cs ++ [⟨⟨xc, K, xy, xv, xf, xm⟩, no, (no : Int) + 1, some (eb, ⟨0, false, ⟨#[]⟩, (no : Int) + 1⟩, (no : Int) + 1)⟩])) := Lib.hid (GD.out.snoc ⟨eb, ⟨0, false, ⟨#[]⟩, (no : Int) + 1⟩, (no : Int) + 1, rfl, rfl, by rw [NO.out], .inr ⟨by show K = 2 ∨ K = 3; omega, by rw [NO.out], by rw [NO.out], by rw [NO.out]⟩⟩)
        have LN2 : Hid ((cs ++ [(⟨⟨xc, K, xy, xv, xf, xm⟩, no, (no : Int) + 1, some (eb, ⟨0, false, ⟨#[]⟩, (no : Int) + 1⟩, (no : Int) + 1)⟩ : PC)]).length = i + 1) := Lib.hid (by rw [List.length_append, LN.out]; rfl)
        clear hset HR4 hk4
        go_wp2_with fail
        go_roundw
        case measure => simp [intOf]; omega
        case rel => exact ⟨i + 1, no + 1, _, A4, c4, by omega, by omega, by simp, by simp, HR5, NO2, GD2, LN2, KW⟩
    · by_cases h1 : i < n
      · have h1z : (i : Int) < (n : Int) := by omega
        have h2z : ¬ (i : Int) < 100 := by omega
        have hnn := NO.out
        subst hnn
        go_wp2_with fail
        go_ret
        exact ⟨⟨cs, rfl, ⟨A', c', HR⟩, GD, Lib.hid (by have := LN.out; omega)⟩, KW.out⟩
      · have h1z : ¬ (i : Int) < (n : Int) := by omega
        have hnn := NO.out
        subst hnn
        go_wp2_with fail
        go_ret
        exact ⟨⟨cs, rfl, ⟨A', c', HR⟩, GD, Lib.hid (by have := LN.out; omega)⟩, KW.out⟩
end Ythmijlchonbjnaa
end Go.Proofs
