/-
  What has taken effect; a key's item behind a number.
-/
import Derived.Test.YthmijlchonbjnaaOps
set_option maxHeartbeats 4000000
set_option maxRecDepth 100000
namespace Go.Proofs
open Go.RowKit
theorem Try.info33 : (Try.prog.info? 33).map (fun i => (i.zero, i.size, i.bytes)) = some (some (.agg #[.string ⟨#[]⟩, .string ⟨#[]⟩, .int .i64 0, .bool false]), 4, 48) := by kernel_rfl
namespace Ythmijlchonbjnaa
attribute [local go_sem ↓] Go.wp_at_zero Go.wp_at_succ
theorem RdK.one {α : Type} {k : Nat} {enc : α → List Value} {w : World} {b : Nat} {t : TypeId} {cs : Array Value} (h : Blk w b t cs) (x : α) (he : cs.toList = enc x) : RdK k enc w (.slice (some ⟨b, 0, none⟩) 1 1) [x] :=
  ⟨_, 1, rfl, Nat.le_refl _, fun i z hz => ⟨b, 0, rfl, h.lt, fun j u hu => by
    have hi : i = 0 := by have := (List.getElem?_eq_some_iff.1 hz).1; simp at this; omega
    subst hi
    have hz' : x = z := by simpa using hz
    subst hz'
    rw [Nat.zero_mul, Nat.zero_add, h.cell]
    rw [← he] at hu
    simpa using hu⟩⟩
/-- The items of the calls that have taken effect. -/
def updF (l : List PC) : List Item := l.filterMap fun x => if 0 < x.eff then some ⟨x.c.key, x.c.val, x.eff, x.c.kind == 3⟩ else none
theorem updF_len (l : List PC) : (updF l).length ≤ l.length := List.length_filterMap_le _ _
theorem updF_yes {l : List PC} {k : Nat} {x : PC} (hx : l[k]? = some x) (h : 0 < x.eff) : updF (l.take (k + 1)) = updF (l.take k) ++ [⟨x.c.key, x.c.val, x.eff, x.c.kind == 3⟩] := by
  unfold updF
  rw [List.take_add_one, hx, List.filterMap_append]
  simp [h]
theorem updF_no {l : List PC} {k : Nat} {x : PC} (hx : l[k]? = some x) (h : ¬ 0 < x.eff) : updF (l.take (k + 1)) = updF (l.take k) := by
  unfold updF
  rw [List.take_add_one, hx, List.filterMap_append]
  simp [h]
theorem updates_any {w : World} {base g c rb : Nat} {A : Option Addr} {l : List PC} {now : Int} (h : HRep w base g A c rb l now) (hn : l.length ≤ 1000) :
    Calls Try.prog 20 #[.pointer (some ⟨g, 0, none⟩)] w fun e w' => ∃ B d, e = .returned (.slice B (updF l).length d) ∧ Hid (ItO w' w.heap.size (.slice B (updF l).length d) (updF l)) ∧ Kept (fun _ => True) w w' := by
  have c0 := h.blk.cell 0
  have c1 := h.blk.cell 1
  have hlt := h.blk.lt
  obtain ⟨n, hln⟩ : ∃ n, l.length = n := ⟨_, rfl⟩
  rw [hln] at c1 hn
  have HH := Lib.hid h
  clear h
  go_enter Try.func20, Try.ntmps20
  go_wp2_with fail
  refine (cloneNil _).mono ?_
  rintro e w' ⟨rfl, rfl⟩
  go_wp2_with fail
  go_loopw [3, 5, 16] (fun s3 _ s16 wr => ∃ (k : Nat) (B : Option Addr) (d : Nat), k ≤ n ∧ s16 = .int .i64 k ∧ s3 = .slice B (updF (l.take k)).length d ∧ Hid (ItO wr w'.heap.size (.slice B (updF (l.take k)).length d) (updF (l.take k))) ∧ Hid (Kept (fun _ => True) w' wr)) (fun _ _ s16 _ => n - (intOf s16).toNat)
  case atStart => exact ⟨0, none, 0, Nat.zero_le _, rfl, rfl, Lib.hid (RowN.nil _ _ _), Lib.hid (Kept.refl _ _)⟩
  case round =>
    obtain ⟨k, B, d, hk, rfl, rfl, RO, KW⟩ := hrel
    by_cases hlt' : k < n
    · have hltz : (k : Int) < (n : Int) := by omega
      obtain ⟨x, hx⟩ : ∃ x, l[k]? = some x := ⟨_, List.getElem?_eq_getElem (by omega)⟩
      obtain ⟨q, cs, rfl, _, _, _, _, hcell⟩ := (HH.out.all KW.out).row.at_ encP hx
      obtain ⟨m, hm⟩ : ∃ m, (updF (l.take k)).length = m := ⟨_, rfl⟩
      have hmk : m ≤ k := by
        have := updF_len (l.take k)
        rw [List.length_take] at this
        omega
      rw [hm] at RO ⊢
      have r0 : wr.cell? ⟨q, k * 9, none⟩ = _ := hcell 0 _ rfl
      have r1 := hcell 1 _ rfl
      have r2 := hcell 2 _ rfl
      have r3 := hcell 3 _ rfl
      have r4 := hcell 4 _ rfl
      have r5 := hcell 5 _ rfl
      have r6 := hcell 6 _ rfl
      have r7 := hcell 7 _ rfl
      have r8 := hcell 8 _ rfl
      have HX := Lib.hid hx
      have HM := Lib.hid hm
      clear hcell hx hm
      by_cases he : 0 < x.eff
      · have he' : decide (0 < x.eff) = true := by simpa using he
        obtain ⟨w1, hw1⟩ : ∃ w1, (wr.alloc (.cells #[.int .i64 x.c.client, .int .i64 x.c.kind, .string x.c.key, .string x.c.val, .string x.c.fin, .int .i64 x.c.most, .int .i64 x.from_, .int .i64 x.eff, .pointer (ptr x.fin)] 52)).alloc (.cells #[.string x.c.key, .string x.c.val, .int .i64 x.eff, .bool (x.c.kind == 3)] 33) = w1 := ⟨_, rfl⟩
        have k1 : Kept (fun _ => True) wr w1 := hw1 ▸ ((Kept.refl _ wr).alloc _).alloc _
        have b1 : Blk w1 (wr.heap.size + 1) 33 #[.string x.c.key, .string x.c.val, .int .i64 x.eff, .bool (x.c.kind == 3)] := by
          have := Blk.new (wr.alloc (.cells #[.int .i64 x.c.client, .int .i64 x.c.kind, .string x.c.key, .string x.c.val, .string x.c.fin, .int .i64 x.c.most, .int .i64 x.from_, .int .i64 x.eff, .pointer (ptr x.fin)] 52)) 33 #[.string x.c.key, .string x.c.val, .int .i64 x.eff, .bool (x.c.kind == 3)]
          rw [hw1] at this
          simpa using this
        have hrow := RO.out.all k1
        obtain ⟨v', w2, hr, hro, hkk, _, _⟩ := run_append_rowN (P := Try.prog) (t := 27) (ty := 27) (w := w1) encI (by omega) Try.underlying27 Try.info33 rfl hrow (RdK.one b1 (⟨x.c.key, x.c.val, x.eff, x.c.kind == 3⟩ : Item) rfl) (by simp [maxLen]; have := HM.out; omega) (by simp; have := HM.out; omega) (by have := k1.size; have := KW.out.size; omega)
        rw [← updF_yes HX.out he] at hro
        obtain ⟨B', d', rfl⟩ := hro.form
        have K2 := Lib.hid ((KW.out.trans k1).trans' hkk fun b hb _ e => by
          have := (RO.out.lt e).2
          omega)
        have HR := Lib.hid hr
        have HRO := Lib.hid hro
        rw [← hw1] at HR
        clear hr hro hkk hrow b1 k1 hw1
        go_wp2_with (at_builtin; refine wpList_append_run rfl (.tmp 23) (.tmp 37) 27 rfl rfl rfl HR.out ?_)
        go_roundw
        case measure => simp [intOf]; omega
        case rel => exact ⟨k + 1, B', d', by omega, by simp, rfl, HRO, K2⟩
      · have he' : decide (0 < x.eff) = false := by simpa using he
        have hro : ItO (wr.alloc (.cells #[.int .i64 x.c.client, .int .i64 x.c.kind, .string x.c.key, .string x.c.val, .string x.c.fin, .int .i64 x.c.most, .int .i64 x.from_, .int .i64 x.eff, .pointer (ptr x.fin)] 52)) w'.heap.size (.slice B m d) (updF (l.take k)) := RO.out.all ((Kept.refl _ wr).alloc _)
        rw [← updF_no HX.out he, ← HM.out, ← updF_no HX.out he] at hro
        have HRO := Lib.hid hro
        have K2 := Lib.hid (KW.out.alloc (.cells #[.int .i64 x.c.client, .int .i64 x.c.kind, .string x.c.key, .string x.c.val, .string x.c.fin, .int .i64 x.c.most, .int .i64 x.from_, .int .i64 x.eff, .pointer (ptr x.fin)] 52))
        have hm2 : m = (updF (l.take (k + 1))).length := by rw [updF_no HX.out he, HM.out]
        clear hro
        go_wp2_with fail
        go_roundw
        case measure => simp [intOf]; omega
        case rel => exact ⟨k + 1, B, d, by omega, by simp, by rw [hm2], HRO, K2⟩
    · have hkn : k = n := by omega
      have hlt' : ¬ (k : Int) < (n : Int) := by omega
      have ht : l.take k = l := List.take_of_length_le (by omega)
      rw [ht] at RO ⊢
      have HKN := Lib.hid hkn
      clear ht hkn
      go_wp2_with fail
      go_ret
      exact ⟨B, d, rfl, RO, KW.out⟩
end Ythmijlchonbjnaa
end Go.Proofs
