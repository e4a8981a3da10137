/-
  CodeReads: the walk.
-/
import Derived.Test.YtglhkfiigbbpdaaRefRd3
import Derived.Test.YtglhkfiigbbpdaaWritesWalk
set_option maxHeartbeats 4000000
set_option maxRecDepth 100000
namespace Go.Proofs
open Go.RowKit
namespace Ytglhkfiigbbpdaa
attribute [local go_sem ↓] Go.wp_at_zero Go.wp_at_succ
/-- A reader and the reference's, side by side. -/
structure RS (w : World) (base rb lb qb : Nat) (vq : Value) (L rest : List UInt8) (e : Int) : Prop where
  r : RRd w base rb lb rest e
  q : ∃ a, L.drop a = rest ∧ QRd w base qb vq L a e
  apart : ∀ x, wfoot qb vq x → ¬ rfoot rb lb x
def rsFoot (rb lb qb : Nat) (vq : Value) (x : Nat) : Prop := rfoot rb lb x ∨ wfoot qb vq x
section
variable {w w' w2 : World} {base rb lb qb : Nat} {vq : Value} {L rest rest' : List UInt8} {e e' : Int}
theorem RS.foot_lt (h : RS w base rb lb qb vq L rest e) : ∀ x, rsFoot rb lb qb vq x → x < w.heap.size ∧ base ≤ x := by
  obtain ⟨a, _, hq⟩ := h.q
  rintro x (hx | hx)
  · refine ⟨h.r.foot_lt x hx, ?_⟩
    rcases hx with rfl | rfl
    · exact h.r.low.1
    · exact h.r.low.2
  · exact ⟨hq.foot_lt x hx, hq.foot_low x hx⟩
theorem RS.kept (h : RS w base rb lb qb vq L rest e) (hk : Kept (rsFoot rb lb qb vq) w w') : RS w' base rb lb qb vq L rest e := by
  obtain ⟨a, ha, hq⟩ := h.q
  exact ⟨h.r.kept (hk.mono fun _ _ hx => .inl hx), ⟨a, ha, hq.kept (hk.mono fun _ _ hx => .inr hx)⟩, h.apart⟩
theorem RS.drew (h : RS w base rb lb qb vq L rest e) : RS w.drew base rb lb qb vq L rest e := h.kept (Kept.refl _ w).drew
/-- The reader, then the reference's. -/
theorem RS.midQ (h : RS w base rb lb qb vq L rest e) (hk : Kept (fun b => ¬ rfoot rb lb b) w w') : ∃ a, L.drop a = rest ∧ QRd w' base qb vq L a e := by
  obtain ⟨a, ha, hq⟩ := h.q
  exact ⟨a, ha, hq.kept (hk.mono fun x _ hx => h.apart x hx)⟩
theorem RS.step (h : RS w base rb lb qb vq L rest e) (hr : RRd w' base rb lb rest' e') (hq : ∃ a, L.drop a = rest' ∧ QRd w2 base qb vq L a e') (hk : Kept (fun b => ¬ wfoot qb vq b) w' w2) : RS w2 base rb lb qb vq L rest' e' :=
  ⟨hr.kept (hk.mono fun x _ hx hf => h.apart x hf hx), hq, h.apart⟩
theorem RS.past {w0 : World} (h : RS w base rb lb qb vq L rest e) (q : Kept (fun b => b < base) w0 w) (hk : Kept (fun b => ¬ rfoot rb lb b) w w') (hk2 : Kept (fun b => ¬ wfoot qb vq b) w' w2) : Kept (fun b => b < base) w0 w2 :=
  (q.trans' hk fun x _ hx hf => Nat.not_lt_of_le (h.foot_lt x (.inl hf)).2 hx).trans (hk2.mono fun x _ hx hf => Nat.not_lt_of_le (h.foot_lt x (.inr hf)).2 hx)
theorem RS.past1 {w0 : World} (h : RS w base rb lb qb vq L rest e) (q : Kept (fun b => b < base) w0 w) (hk : Kept (fun b => ¬ rfoot rb lb b) w w') : Kept (fun b => b < base) w0 w' :=
  q.trans' hk fun x _ hx hf => Nat.not_lt_of_le (h.foot_lt x (.inl hf)).2 hx
theorem Row1.set_ {g cap j n : Nat} {xs : List Value} (h : Row1 w base 5 (.slice (some ⟨g, 0, none⟩) n cap) xs) (u : Value) : Row1 (w.setCell ⟨g, j, none⟩ u) base 5 (.slice (some ⟨g, 0, none⟩) n cap) (xs.set j u) := by
  rcases h with ⟨h0, _⟩ | ⟨g0, cap0, cur, hv, hbg, hg, hnc, hcc, hcm, ht⟩
  · cases h0
  · injection hv with hA hn hc
    injection hA with hA
    injection hA with hA
    subst hA hc
    refine .inr ⟨g, cap, cur.setIfInBounds j u, by rw [List.length_set, ← hn], hbg, hg.set_ j u, by rw [List.length_set]; exact hnc, by simpa using hcc, hcm, ?_⟩
    rw [Array.toList_setIfInBounds, List.length_set, List.take_set, ht]
end
section
variable {w : World} {base rb lb qb : Nat} {vq : Value} {L rest : List UInt8} {e : Int}
theorem rraw_len (l : List UInt8) (e n : Int) : (rraw l e n).1.length ≤ l.length := by
  unfold rraw
  split
  · exact Nat.zero_le _
  · split
    · exact Nat.zero_le _
    · split
      · exact Nat.zero_le _
      · rw [List.length_take]; omega
theorem rbytes_len (l : List UInt8) (e m : Int) : (rbytes l e m).1.length ≤ l.length := by
  unfold rbytes
  split
  · exact Nat.zero_le _
  · split
    · exact Nat.zero_le _
    · split
      · exact Nat.zero_le _
      · exact Nat.le_trans (rraw_len _ _ _) (by rw [List.length_drop]; omega)
theorem RS.len (h : RS w base rb lb qb vq L rest e) : rest.length ≤ L.length := by
  obtain ⟨a, rfl, _⟩ := h.q
  rw [List.length_drop]
  omega
theorem numQ2 (h : ∃ a, L.drop a = rest ∧ QRd w base qb vq L a e) (most : Nat) (hm : most < 18446744073709551616) :
    Calls Try.prog 18 #[.pointer (some ⟨qb, 0, none⟩), .int .u64 (most : Int)] w fun r w' => r = .returned (.int .u64 ((rnum rest e most).1 : Int)) ∧
      (∃ a2, L.drop a2 = (rnum rest e most).2.1 ∧ QRd w' base qb vq L a2 (rnum rest e most).2.2) ∧ Kept (fun b => ¬ wfoot qb vq b) w w' := by
  obtain ⟨a, rfl, hq⟩ := h
  exact numQ_any hq most hm
theorem rawQ2 (h : ∃ a, L.drop a = rest ∧ QRd w base qb vq L a e) (n : Int) :
    Calls Try.prog 22 #[.pointer (some ⟨qb, 0, none⟩), .int .i64 n] w fun r w' => ∃ v', r = .returned v' ∧ Row1 w' w.heap.size 5 v' (bc (rraw rest e n).1) ∧
      (∃ a2, L.drop a2 = (rraw rest e n).2.1 ∧ QRd w' base qb vq L a2 (rraw rest e n).2.2) ∧ Kept (fun b => ¬ wfoot qb vq b) w w' := by
  obtain ⟨a, rfl, hq⟩ := h
  exact rawQ_any hq n
theorem bytesQ2 (h : ∃ a, L.drop a = rest ∧ QRd w base qb vq L a e) (many : Int) (hm : many ≤ 9223372036854775807) :
    Calls Try.prog 20 #[.pointer (some ⟨qb, 0, none⟩), .int .i64 many] w fun r w' => ∃ v', r = .returned v' ∧ Row1 w' w.heap.size 5 v' (bc (rbytes rest e many).1) ∧
      (∃ a2, L.drop a2 = (rbytes rest e many).2.1 ∧ QRd w' base qb vq L a2 (rbytes rest e many).2.2) ∧ Kept (fun b => ¬ wfoot qb vq b) w w' := by
  obtain ⟨a, rfl, hq⟩ := h
  exact bytesQ_any hq many hm
theorem leftQ2 (h : RS w base rb lb qb vq L rest e) : Calls Try.prog 24 #[.pointer (some ⟨qb, 0, none⟩)] w fun r w' => r = .returned (.int .i64 (rest.length : Int)) ∧ w' = w.drew := by
  obtain ⟨a, rfl, hq⟩ := h.q
  exact leftQ_any hq
theorem doneQ2 (h : RS w base rb lb qb vq L rest e) : Calls Try.prog 26 #[.pointer (some ⟨qb, 0, none⟩)] w fun r w' => r = .returned (.int .i64 (rdone rest e)) ∧ w' = w.drew := by
  obtain ⟨a, rfl, hq⟩ := h.q
  exact doneQ_any hq
end
theorem reads_any (L : List UInt8) (A0 : Option Addr) (cap0 : Nat) (l : List Cl) (A : Option Addr) (cap : Nat) (w : World) (hL : Rd w (.slice A0 L.length cap0) L) (hlen : L.length ≤ 140737488351232) (HC : CallsIn w A l) (hlw : l.length ≤ 1000000000000000) :
    Calls Try.prog 4 #[.slice A0 L.length cap0, .slice A l.length cap] w fun e w' => e = .returned (.bool true) ∧ Kept (fun b => b < w.heap.size) w w' := by
  have HC := Lib.hid HC
  have HL := Lib.hid hL
  clear hL
  go_enter Try.func4, Try.ntmps4
  go_wp2_with fail
  refine (awake_any w).mono ?_
  rintro e w1 ⟨rfl, k1⟩
  have k1b : Kept (fun b => b < w.heap.size) w w1 := k1.mono fun _ _ _ => trivial
  have hr1 := HL.out.all k1b
  obtain ⟨Ao, co, w2, hrun, hrow, hk2, hat⟩ := run_append_row26 (l := []) (Row1.nil w1 w.heap.size 5) hr1 (by rw [List.length_nil]; omega) k1.size
  rw [List.nil_append] at hrun hrow hat
  have k2 : Kept (fun _ => True) w1 w2 := hk2.mono fun _ _ _ => by simp [Value.ownBlock]
  have q2 : Kept (fun b => b < w.heap.size) w w2 := k1b.trans (k2.mono fun _ _ _ => trivial)
  have HRUN := Lib.hid hrun
  clear hrun hk2 hat hr1 k1 k1b k2
  go_wp2_with (at_builtin; refine wpList_append_run (by rfl) (.const (.slice none 0 0)) (.tmp 15) 26 (by rfl) (by rfl) (by rfl) HRUN.out ?_)
  clear HRUN
  refine (newRd_any (base := w.heap.size) hrow.rd (by omega) q2.size).mono ?_
  rintro e w3 ⟨rb, lb, rfl, hR3, hf3, k3⟩
  have q3 : Kept (fun b => b < w.heap.size) w w3 := q2.trans (k3.mono fun _ _ _ => trivial)
  have hrow3 := hrow.kept k3 fun _ _ => trivial
  have hof3 : ∀ x, (Value.slice Ao L.length co).ownBlock = some x → ¬ rfoot rb lb x := fun x hx hf => by
    have := (hrow.lt hx).1
    have := hf3 x hf
    omega
  have HR3 := Lib.hid hR3
  have HROW3 := Lib.hid hrow3
  have HO3 := Lib.hid hof3
  clear hR3 hf3 k3 hrow hrow3 hof3 q2
  go_wp2_with fail
  refine (open_any (base := w.heap.size) (HL.out.all q3) (by omega) q3.size).mono ?_
  rintro e w4 ⟨qb, vq, rfl, hQ4, hf4, k4⟩
  have q4 : Kept (fun b => b < w.heap.size) w w4 := q3.trans (k4.mono fun _ _ _ => trivial)
  have HS4 : Hid (RS w4 w.heap.size rb lb qb vq L L 0) := Lib.hid ⟨HR3.out.kept (k4.mono fun _ _ _ => trivial), ⟨0, rfl, hQ4⟩, fun x hx hf => by
    have := hf4 x hx
    have := HR3.out.foot_lt x hf
    omega⟩
  have HROW4 := Lib.hid (HROW3.out.kept k4 fun _ _ => trivial)
  have HO4 : Hid (∀ x, (Value.slice Ao L.length co).ownBlock = some x → ¬ rsFoot rb lb qb vq x) := Lib.hid fun x hx hf => by
    rcases hf with hf | hf
    · exact HO3.out x hx hf
    · have := hf4 x hf
      have := (HROW3.out.lt hx).1
      omega
  clear hQ4 hf4 k4 HR3 HROW3 HO3 q3
  go_wp2_with fail
  -- the owner writes over what was handed in
  go_loopw [9] (fun jv wr => ∃ (j : Nat) (xs : List Value), jv = .int .i64 (j : Int) ∧ j ≤ L.length ∧ Hid (xs.length = L.length ∧ (∀ x ∈ xs, ∃ u : Int, x = .int .u8 u) ∧ Row1 wr w.heap.size 5 (.slice Ao L.length co) xs ∧ RS wr w.heap.size rb lb qb vq L L 0) ∧ Kept (fun b => b < w.heap.size) w wr)
    (fun jv _ => L.length - (intOf jv).toNat)
  case atStart => exact ⟨0, bc L, rfl, Nat.zero_le _, Lib.hid ⟨bc_length _, fun x hx => by obtain ⟨u, _, rfl⟩ := List.mem_map.1 hx; exact ⟨_, rfl⟩, HROW4.out, HS4.out⟩, q4⟩
  case round =>
    clear HS4 HROW4 q4
    obtain ⟨j, xs, rfl, hj, HX, qr⟩ := hrel
    by_cases hjl : j < L.length
    · have hdj : decide ((j : Int) < (L.length : Int)) = true := by simp; omega
      obtain ⟨hxl, hxi, hrow, hrs⟩ := HX.out
      obtain ⟨u, hu⟩ := hxi _ (List.getElem_mem (l := xs) (n := j) (by omega))
      have hu2 : xs[j]? = some (.int .u8 u) := by rw [List.getElem?_eq_getElem (by omega), hu]
      obtain ⟨g, cap2, hv, hcell⟩ := hrow.at_ hu2
      injection hv with hv1 hv2 hv3
      subst hv1
      obtain ⟨cs, hblk⟩ := hrow.blk (g := g) rfl
      have hfz := hblk.frozen j
      have hgl := (hrow.lt (g := g) rfl).2
      have HSET : Hid (∀ u, Row1 (wr.setCell ⟨g, j, none⟩ u) w.heap.size 5 (.slice (some ⟨g, 0, none⟩) L.length co) (xs.set j u) ∧ RS (wr.setCell ⟨g, j, none⟩ u) w.heap.size rb lb qb vq L L 0 ∧ Kept (fun b => b < w.heap.size) w (wr.setCell ⟨g, j, none⟩ u)) := Lib.hid fun u => by
        have hk : Kept (fun b => b ≠ g) wr (wr.setCell ⟨g, j, none⟩ u) := (Kept.refl _ _).setCell (fun _ hn => hn rfl) u
        exact ⟨hrow.set_ u, hrs.kept (hk.mono fun x _ hx e => HO4.out g rfl (e ▸ hx)), qr.trans' hk fun x _ hx => by omega⟩
      have HX1 := HX
      clear HX hv2 hv3 hrow hrs hxi hu hu2 hblk
      go_wp2_with fail
      refine ⟨⟨j + 1, xs.set j (.int .u8 ((u + 1) % 256)), by go_num, by omega, Lib.hid ⟨by rw [List.length_set]; exact HX1.out.1, fun x hx => ?_, (HSET.out _).1, (HSET.out _).2.1⟩, (HSET.out _).2.2⟩, by simp [intOf]; omega⟩
      rcases List.mem_or_eq_of_mem_set hx with h | h
      · exact HX1.out.2.1 x h
      · exact ⟨_, h⟩
    · have hdj : decide ((j : Int) < (L.length : Int)) = false := by simp; omega
      have HS5 := Lib.hid HX.out.2.2.2
      clear HX HO4
      go_wp2_with fail
      go_loopw [10] (fun iv wr => ∃ (k : Nat) (rest : List UInt8) (e : Int), iv = .int .i64 (k : Int) ∧ k ≤ l.length ∧ Hid (RS wr w.heap.size rb lb qb vq L rest e) ∧ Kept (fun b => b < w.heap.size) w wr)
        (fun iv _ => l.length - (intOf iv).toNat)
      case atStart => exact ⟨0, L, 0, rfl, Nat.zero_le _, HS5, qr⟩
      case round =>
        clear HS5 qr
        obtain ⟨k, rest, er, rfl, hk, HS, q⟩ := hrel
        by_cases hlt : k < l.length
        · have hd : decide ((k : Int) < (l.length : Int)) = true := by simp; omega
          obtain ⟨c, hc⟩ : ∃ c, l[k]? = some c := ⟨_, List.getElem?_eq_getElem hlt⟩
          obtain ⟨b, off, Ab, cb, rfl, hAt, hcn, hcm⟩ := HC.out.get hc
          have HAT := Lib.hid hAt
          have d0 := (hAt.all q).c0
          clear hAt
          go_upto_block 4 with fail
          go_cut [] (fun wx => ∃ (rest' : List UInt8) (e' : Int), Hid (RS wx w.heap.size rb lb qb vq L rest' e') ∧ Kept (fun b => b < w.heap.size) w wx)
          case first =>
            by_cases hk0 : c.k = 0
            · have hb0 : (c.k == 0) = true := by simp [hk0]
              clear hk0
              obtain ⟨⟨nv, rest', e'⟩, hp⟩ : ∃ p, rnum rest er c.n = p := ⟨_, rfl⟩
              have HP := Lib.hid hp
              have HCN := Lib.hid hcn
              have d1 := (HAT.out.all q).c1
              have hne : ((nv : Int) != (nv : Int)) = false := bne_self_eq_false _
              clear hp d0 hcn hcm
              go_upto_region 18 with fail
              go_region_held3 (fun W => W.cell? ⟨b, off + k * 4 + 1, none⟩ = some (.int .u64 (c.n : Int))) (first | exact d1 | exact d1' | exact d1'')
                (first
                  | (go_at_call 17; refine (numR_any HS.out.drew.r c.n HCN.out).mono ?_; rintro e9 w9 ⟨he9, hR9, hk9⟩; rw [HP.out] at he9 hR9; subst he9; have HR9 := Lib.hid hR9; have HQ9 := Lib.hid (HS.out.drew.midQ hk9); have q9 := HS.out.drew.past1 q.drew hk9; have d1' := (HAT.out.all q9).c1; have HK9 := Lib.hid hk9; clear hR9 hk9)
                  | (go_at_call 18; refine (numQ2 HQ9.out c.n HCN.out).mono ?_; rintro e8 w8 ⟨he8, hQ8, hk8⟩; rw [HP.out] at he8 hQ8; subst he8; have q8 := HS.out.drew.past q.drew HK9.out hk8; have d1'' := (HAT.out.all q8).c1; have HS8 := Lib.hid (HS.out.drew.step HR9.out hQ8 hk8); clear hQ8 hk8))
              go_wp2_with fail
              go_meet
              case rel => exact ⟨rest', e', HS8, q8⟩
            · have hb0 : (c.k == 0) = false := by simp [hk0]
              by_cases hk1 : c.k = 1
              · have hb1 : (c.k == 1) = true := by simp [hk1]
                clear hk0 hk1
                obtain ⟨⟨X, rest', e'⟩, hp⟩ : ∃ p, rbytes rest er c.many = p := ⟨_, rfl⟩
                have hXl : X.length ≤ 140737488351232 := by
                  have h1 := rbytes_len rest er c.many
                  rw [hp] at h1
                  have := HS.out.len
                  simp only at h1
                  omega
                have HP := Lib.hid hp
                have d2 := (HAT.out.all q).c2
                clear hp hcn
                go_wp2_with fail
                refine (bytesR_any HS.out.r c.many hcm).mono ?_
                rintro e9 w9 ⟨v9, rfl, hrow9, hR9, hk9⟩
                rw [HP.out] at hrow9 hR9
                have HQ9 := Lib.hid (HS.out.midQ hk9)
                have q9 := HS.out.past1 q hk9
                have d2' := (HAT.out.all q9).c2
                obtain ⟨A9, c9, rfl⟩ := hrow9.form
                rw [bc_length] at hrow9 ⊢
                clear d0 d2
                go_wp2_with fail
                refine (bytesQ2 HQ9.out c.many hcm).mono ?_
                rintro e8 w8 ⟨v8, rfl, hrow8, hQ8, hk8⟩
                rw [HP.out] at hrow8 hQ8
                have q8 := HS.out.past q hk9 hk8
                have HS8 := Lib.hid (HS.out.step hR9 hQ8 hk8)
                have hap : ∀ g, (Value.slice A9 X.length c9).ownBlock = some g → ¬ rsFoot rb lb qb vq g := fun g hg hf => by
                  have := (hrow9.lt hg).2
                  have := (HS.out.foot_lt g hf).1
                  omega
                have hrow9' := hrow9.kept hk8 fun g hg hf => hap g hg (.inr hf)
                have hlow : ∀ g, (Value.slice A9 X.length c9).ownBlock = some g → w.heap.size ≤ g := fun g hg => by
                  have := (hrow9.lt hg).2
                  have := q.size
                  omega
                obtain ⟨bs, hbs⟩ : ∃ bs, wr.heap.size = bs := ⟨_, rfl⟩
                rw [hbs] at hrow9'
                have s9 := run_str26 hrow9'.rd
                have s8 := run_str26 hrow8.rd
                obtain ⟨A8, c8, rfl⟩ := hrow8.form
                rw [bc_length] at s8 ⊢
                have hbe : ((str X).toList == (str X).toList) = true := beq_self_eq_true _
                have HROW := Lib.hid hrow9'
                have HAP := Lib.hid hap
                have HLOW := Lib.hid hlow
                clear hrow9 hR9 hk9 HQ9 q9 d2' hrow8 hQ8 hk8 hap hrow9' hlow hbs HS q HP hc
                go_wp2_with fail
                clear s9 s8 hbe
                go_loopw [13] (fun jv wr => ∃ (m : Nat) (xs : List Value), jv = .int .i64 (m : Int) ∧ m ≤ X.length ∧ Hid (xs.length = X.length ∧ Row1 wr bs 5 (.slice A9 X.length c9) xs ∧ RS wr w.heap.size rb lb qb vq L rest' e') ∧ Kept (fun b => b < w.heap.size) w wr)
                  (fun jv _ => X.length - (intOf jv).toNat)
                case atStart => exact ⟨0, bc X, rfl, Nat.zero_le _, Lib.hid ⟨bc_length _, HROW.out, HS8.out⟩, q8⟩
                case round =>
                  clear HROW HS8 q8
                  obtain ⟨m, xs, rfl, hm, HX, qr⟩ := hrel
                  by_cases hml : m < X.length
                  · have hdm : decide ((m : Int) < (X.length : Int)) = true := by simp; omega
                    obtain ⟨hxl, hrow, hrs⟩ := HX.out
                    have hu2 : xs[m]? = some xs[m] := List.getElem?_eq_getElem (by omega)
                    obtain ⟨g, cap2, hv, hcell⟩ := hrow.at_ hu2
                    obtain ⟨x0, hx0⟩ : ∃ x0, xs[m] = x0 := ⟨_, rfl⟩
                    rw [hx0] at hcell
                    injection hv with hv1 hv2 hv3
                    subst hv1
                    obtain ⟨cs, hblk⟩ := hrow.blk (g := g) rfl
                    have hfz := hblk.frozen m
                    have HSET : Hid (Row1 (wr.setCell ⟨g, m, none⟩ (.int .u8 255)) bs 5 (.slice (some ⟨g, 0, none⟩) X.length c9) (xs.set m (.int .u8 255)) ∧ RS (wr.setCell ⟨g, m, none⟩ (.int .u8 255)) w.heap.size rb lb qb vq L rest' e' ∧ Kept (fun b => b < w.heap.size) w (wr.setCell ⟨g, m, none⟩ (.int .u8 255))) := Lib.hid (by
                      have hk : Kept (fun b => b ≠ g) wr (wr.setCell ⟨g, m, none⟩ (.int .u8 255)) := (Kept.refl _ _).setCell (fun _ hn => hn rfl) _
                      exact ⟨hrow.set_ _, hrs.kept (hk.mono fun x _ hx e => HAP.out g rfl (e ▸ hx)), qr.trans' hk fun x _ hx e => by have := HLOW.out g rfl; omega⟩)
                    have hxl2 : (xs.set m (.int .u8 255)).length = X.length := by rw [List.length_set, hxl]
                    clear HX hrow hrs hu2 hx0 hv2 hv3 hblk hxl
                    go_wp2_with fail
                    exact ⟨⟨m + 1, xs.set m (.int .u8 255), by go_num, by omega, Lib.hid ⟨hxl2, HSET.out.1, HSET.out.2.1⟩, HSET.out.2.2⟩, by simp [intOf]; omega⟩
                  · have hdm : decide ((m : Int) < (X.length : Int)) = false := by simp; omega
                    obtain ⟨hxl, hrow, hrs⟩ := HX.out
                    have k1 : Kept (fun _ => True) wr (wr.alloc (.cells #[.int .u8 255] 5)) := (Kept.refl _ wr).alloc _
                    have hrs1 := hrs.kept (k1.mono fun _ _ _ => trivial)
                    have hrowb : Row1 wr w.heap.size 5 (.slice A9 X.length c9) xs := by
                      rcases hrow with h | ⟨g, cap1, cur, hv, hbg, hr⟩
                      · exact .inl h
                      · exact .inr ⟨g, cap1, cur, hv, HLOW.out g (by rw [hv]; rfl), hr⟩
                    obtain ⟨v2, w7, hrun, hrow2, hk2, -⟩ := run_append_src (P := Try.prog) (t := 26) (ty := 26) (w := wr.alloc (.cells #[.int .u8 255] 5)) Try.underlying26 Try.info5 (hrowb.alloc _) (Rd.of_blk (l := [255]) (off := 0) (cap := 1) (Blk.new wr 5 #[.int .u8 255]) (Nat.le_refl _) rfl)
                      (by rw [hxl, List.length_singleton]; omega) (by rw [World.size_alloc]; have := qr.size; omega)
                    have HRS7 := Lib.hid (hrs1.kept (hk2.mono fun x _ hx e => HAP.out x e hx))
                    have q7 : Kept (fun b => b < w.heap.size) w w7 := (qr.trans (k1.mono fun _ _ _ => trivial)).trans' hk2 fun x _ hx e => by
                      have := HLOW.out x e
                      omega
                    obtain ⟨A2, cc2, rfl⟩ := hrow2.form
                    have HRUN := Lib.hid hrun
                    clear HX hxl hrow hrs k1 hrs1 hrowb hrun hrow2 hk2 qr
                    go_wp2_with (at_builtin; refine wpList_append_run (by rfl) (.tmp 116) (.tmp 117) 26 (by rfl) (by rfl) (by rfl) HRUN.out ?_)
                    go_meet
                    case rel => exact ⟨rest', e', HRS7, q7⟩
              · have hb1 : (c.k == 1) = false := by simp [hk1]
                clear hk0 hk1
                obtain ⟨⟨X, rest', e'⟩, hp⟩ : ∃ p, rraw rest er c.many = p := ⟨_, rfl⟩
                have HP := Lib.hid hp
                have d2 := (HAT.out.all q).c2
                have hbe : ((str X).toList == (str X).toList) = true := beq_self_eq_true _
                clear hp hcn hcm d0
                go_upto_region 15 with fail
                refine wp_region_any (by kernel_rfl) ?_
                change wpAny _ _ _ _ 17 _ _ (World.drew _)
                refine wpAny_take (i := 0) (v := (.pointer (some ⟨rb, 0, none⟩))) rfl (by kernel_rfl) (by kernel_rfl) (by kernel_rfl) (fun _ _ _ h => h) (Or.inl ⟨rfl, fun w => ?_⟩) ?_
                · go_simp
                simp only [Act.put, List.getElem_toArray, List.getElem_cons_zero, List.setIfInBounds_toArray, List.set_cons_zero, List.set_cons_succ]
                refine wpAny_take (i := 1) (v := (.slice (some ⟨b, off, none⟩) l.length cap)) rfl (by kernel_rfl) (by kernel_rfl) (by kernel_rfl) (fun _ _ _ h => h) (Or.inl ⟨rfl, fun w => ?_⟩) ?_
                · go_simp
                simp only [Act.put, List.getElem_toArray, List.getElem_cons_zero, List.getElem_cons_succ, List.setIfInBounds_toArray, List.set_cons_zero, List.set_cons_succ]
                refine wpAny_take (i := 2) (v := (.int .i64 (k : Int))) rfl (by kernel_rfl) (by kernel_rfl) (by kernel_rfl) (fun _ _ _ h => h) (Or.inl ⟨rfl, fun w => ?_⟩) ?_
                · go_simp
                simp only [Act.put, List.getElem_toArray, List.getElem_cons_zero, List.getElem_cons_succ, List.setIfInBounds_toArray, List.set_cons_zero, List.set_cons_succ]
                refine wpAny_take (i := 3) (v := (.pointer (some ⟨b, off + k * 4, none⟩))) rfl (by kernel_rfl) (by kernel_rfl) (by kernel_rfl) (fun _ _ _ h => h) (Or.inl ⟨rfl, fun w => ?_⟩) ?_
                · go_simp
                simp only [Act.put, List.getElem_toArray, List.getElem_cons_zero, List.getElem_cons_succ, List.setIfInBounds_toArray, List.set_cons_zero, List.set_cons_succ]
                refine wpAny_take (i := 4) (v := (.pointer (some ⟨b, off + k * 4 + 2, none⟩))) rfl (by kernel_rfl) (by kernel_rfl) (by kernel_rfl) (fun _ _ _ h => h) (Or.inl ⟨rfl, fun w => ?_⟩) ?_
                · go_simp
                simp only [Act.put, List.getElem_toArray, List.getElem_cons_zero, List.getElem_cons_succ, List.setIfInBounds_toArray, List.set_cons_zero, List.set_cons_succ]
                refine wpAny_take (i := 8) (v := (.pointer (some ⟨qb, 0, none⟩))) rfl (by kernel_rfl) (by kernel_rfl) (by kernel_rfl) (fun _ _ _ h => h) (Or.inl ⟨rfl, fun w => ?_⟩) ?_
                · go_simp
                simp only [Act.put, List.getElem_toArray, List.getElem_cons_zero, List.getElem_cons_succ, List.setIfInBounds_toArray, List.set_cons_zero, List.set_cons_succ]
                refine wpAny_take (i := 9) (v := (.slice (some ⟨b, off, none⟩) l.length cap)) rfl (by kernel_rfl) (by kernel_rfl) (by kernel_rfl) (fun _ _ _ h => h) (Or.inl ⟨rfl, fun w => ?_⟩) ?_
                · go_simp
                simp only [Act.put, List.getElem_toArray, List.getElem_cons_zero, List.getElem_cons_succ, List.setIfInBounds_toArray, List.set_cons_zero, List.set_cons_succ]
                refine wpAny_take (i := 10) (v := (.int .i64 (k : Int))) rfl (by kernel_rfl) (by kernel_rfl) (by kernel_rfl) (fun _ _ _ h => h) (Or.inl ⟨rfl, fun w => ?_⟩) ?_
                · go_simp
                simp only [Act.put, List.getElem_toArray, List.getElem_cons_zero, List.getElem_cons_succ, List.setIfInBounds_toArray, List.set_cons_zero, List.set_cons_succ]
                refine wpAny_take (i := 11) (v := (.pointer (some ⟨b, off + k * 4, none⟩))) rfl (by kernel_rfl) (by kernel_rfl) (by kernel_rfl) (fun _ _ _ h => h) (Or.inl ⟨rfl, fun w => ?_⟩) ?_
                · go_simp
                simp only [Act.put, List.getElem_toArray, List.getElem_cons_zero, List.getElem_cons_succ, List.setIfInBounds_toArray, List.set_cons_zero, List.set_cons_succ]
                refine wpAny_take (i := 12) (v := (.pointer (some ⟨b, off + k * 4 + 2, none⟩))) rfl (by kernel_rfl) (by kernel_rfl) (by kernel_rfl) (fun _ _ _ h => h) (Or.inl ⟨rfl, fun w => ?_⟩) ?_
                · go_simp
                simp only [Act.put, List.getElem_toArray, List.getElem_cons_zero, List.getElem_cons_succ, List.setIfInBounds_toArray, List.set_cons_zero, List.set_cons_succ]
                repeat' first
                  | exact AllReady.nil
                  | (refine AllReady.cons rfl (fun K hK => ?_) ?_)
                  | (refine wpAny_ready (rs := [5, 13]) ?rdy ?mem ?_; (case rdy => decide +kernel); (case mem => simp))
                  | (refine wpAny_ready (rs := [6, 13]) ?rdy ?mem ?_; (case rdy => decide +kernel); (case mem => simp))
                  | (refine wpAny_ready (rs := [7, 13]) ?rdy ?mem ?_; (case rdy => decide +kernel); (case mem => simp))
                  | (refine wpAny_ready (rs := [7, 14]) ?rdy ?mem ?_; (case rdy => decide +kernel); (case mem => simp))
                  | (refine wpAny_ready (rs := [7, 15]) ?rdy ?mem ?_; (case rdy => decide +kernel); (case mem => simp))
                  | (refine wpAny_ready (rs := [5]) ?rdy ?mem ?_; (case rdy => decide +kernel); (case mem => simp))
                  | (refine wpAny_ready (rs := [6]) ?rdy ?mem ?_; (case rdy => decide +kernel); (case mem => simp))
                  | (refine wpAny_ready (rs := [7]) ?rdy ?mem ?_; (case rdy => decide +kernel); (case mem => simp))
                  | (refine wpAny_ready (rs := [13]) ?rdy ?mem ?_; (case rdy => decide +kernel); (case mem => simp))
                  | (refine wpAny_ready (rs := [14]) ?rdy ?mem ?_; (case rdy => decide +kernel); (case mem => simp))
                  | (refine wpAny_ready (rs := [15]) ?rdy ?mem ?_; (case rdy => decide +kernel); (case mem => simp))
                  | ((try go_simp); go_at_call 21; refine (rawR_any HS.out.drew.r c.many).mono ?_; rintro e9 w9 ⟨v9, rfl, hrow9, hR9, hk9⟩; rw [HP.out] at hrow9 hR9; have HQ9 := Lib.hid (HS.out.drew.midQ hk9); have q9 := HS.out.drew.past1 q.drew hk9; have d2' := (HAT.out.all q9).c2; have s9 := run_str26 hrow9.rd; obtain ⟨A9, c9, rfl⟩ := hrow9.form; rw [bc_length] at s9 hrow9 ⊢; have HR9 := Lib.hid hR9; have HROW9 := Lib.hid hrow9; have HK9 := Lib.hid hk9; clear hR9 hrow9 hk9; refine hK _ _ ?_; clear hK K)
                  | ((try go_simp); go_at_call 22; refine (rawQ2 HQ9.out c.many).mono ?_; rintro e8 w8 ⟨v8, rfl, hrow8, hQ8, hk8⟩; rw [HP.out] at hrow8 hQ8; have q8 := HS.out.drew.past q.drew HK9.out hk8; have HS8 := Lib.hid (HS.out.drew.step HR9.out hQ8 hk8); have s8 := run_str26 hrow8.rd; obtain ⟨A8, c8, rfl⟩ := hrow8.form; rw [bc_length] at s8 ⊢; have s98 := run_str26 (HROW9.out.rd.kept hk8 fun _ g hg hf => Nat.not_lt_of_le (HROW9.out.lt hg).2 (HS.out.drew.foot_lt g (.inr hf)).1); clear hrow8 hQ8 hk8; refine hK _ _ ?_; clear hK K)
                  | (go_simp; refine hK _ _ ?_; clear hK K)
                all_goals
                  refine wpAny_take (i := 16) (v := (.bool false)) rfl (by kernel_rfl) (by kernel_rfl) (by kernel_rfl) (fun _ _ _ h => h) (Or.inl ⟨rfl, fun w => ?_⟩) ?_
                  · go_simp
                  simp only [Act.put, List.getElem_toArray, List.getElem_cons_zero, List.getElem_cons_succ, List.setIfInBounds_toArray, List.set_cons_zero, List.set_cons_succ]
                  refine wpAny_done (by decide +kernel) ?_ _
                  go_wp2_with fail
                  go_meet
                  exact ⟨rest', e', HS8, q8⟩
          case rest =>
            obtain ⟨rest', e', HS6, q6⟩ := hcut
            clear HS q d0
            have hne : ((rest'.length : Int) != (rest'.length : Int)) = false := bne_self_eq_false _
            have hne2 : (rdone rest' e' != rdone rest' e') = false := bne_self_eq_false _
            go_wp2_with fail
            refine (leftR_any HS6.out.r).mono ?_
            rintro e9 w9 ⟨rfl, hw9⟩
            subst hw9
            go_wp2_with fail
            refine (leftQ2 HS6.out).mono ?_
            rintro e9 w9 ⟨rfl, hw9⟩
            subst hw9
            go_wp2_with fail
            refine (doneR_any HS6.out.drew.r).mono ?_
            rintro e9 w9 ⟨rfl, hw9⟩
            subst hw9
            go_wp2_with fail
            refine (doneQ2 HS6.out.drew).mono ?_
            rintro e9 w9 ⟨rfl, hw9⟩
            subst hw9
            go_wp2_with fail
            exact ⟨⟨k + 1, rest', e', by go_num, by omega, Lib.hid HS6.out.drew.drew, q6.drew.drew⟩, by simp [intOf]; omega⟩
        · have hd : decide ((k : Int) < (l.length : Int)) = false := by simp; omega
          have heq : ((rest.length : Int) == (rest.length : Int)) = true := beq_self_eq_true _
          have heq2 : (rdone rest er == rdone rest er) = true := beq_self_eq_true _
          go_wp2_with fail
          refine (leftR_any HS.out.r).mono ?_
          rintro e9 w9 ⟨rfl, hw9⟩
          subst hw9
          go_wp2_with fail
          refine (leftQ2 HS.out).mono ?_
          rintro e9 w9 ⟨rfl, hw9⟩
          subst hw9
          go_wp2_with fail
          refine (doneR_any HS.out.drew.r).mono ?_
          rintro e9 w9 ⟨rfl, hw9⟩
          subst hw9
          go_wp2_with fail
          refine (doneQ2 HS.out.drew).mono ?_
          rintro e9 w9 ⟨rfl, hw9⟩
          subst hw9
          go_wp2_with fail
          go_ret
          exact ⟨rfl, q.drew.drew⟩
end Ytglhkfiigbbpdaa
end Go.Proofs
