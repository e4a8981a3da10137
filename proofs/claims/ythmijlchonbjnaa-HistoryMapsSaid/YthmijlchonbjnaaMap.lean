/-
  The map behind a number.
-/
import Derived.Test.YthmijlchonbjnaaKeys
set_option maxHeartbeats 4000000
set_option maxRecDepth 100000
namespace Go.Proofs
open Go.RowKit
namespace Ythmijlchonbjnaa
attribute [local go_sem ↓] Go.wp_at_zero Go.wp_at_succ
def itemAt (us : List Item) (no : Int) (k : List UInt8) : Option Item := if (behindF us ⟨k.toArray⟩ no).2 = true then some (behindF us ⟨k.toArray⟩ no).1 else none
/-- The map behind a number. -/
def mapF (us : List Item) (no : Int) : List Item := (keysF us).filterMap (itemAt us no)
theorem filterMap_snoc {α β : Type} (f : α → Option β) {l : List α} {k : Nat} {x : α} (hx : l[k]? = some x) : (l.take (k + 1)).filterMap f = (l.take k).filterMap f ++ (f x).toList := by
  rw [List.take_add_one, hx, List.filterMap_append]
  cases h : f x <;> simp [h]
theorem keysF_len (us : List Item) : (keysF us).length ≤ us.length := by
  unfold keysF
  refine Nat.le_trans (Lib.compact_length_le _) ?_
  rw [List.length_mergeSort, List.length_map]
  exact Nat.le_refl _
theorem map_any {w : World} {base g c rb : Nat} {A : Option Addr} {l : List PC} {now : Int} (h : HRep w base g A c rb l now) (no : Int) (hn : l.length ≤ 1000) :
    Calls Try.prog 9 #[.pointer (some ⟨g, 0, none⟩), .int .i64 no] w fun e w' => ∃ B d, e = .returned (.slice B (mapF (updF l) no).length d) ∧ Hid (ItO w' w.heap.size (.slice B (mapF (updF l) no).length d) (mapF (updF l) no)) ∧ Kept (fun _ => True) w w' := by
  have hu := updates_any h hn
  have hul := updF_len l
  clear h
  obtain ⟨us, hus⟩ : ∃ us, updF l = us := ⟨_, rfl⟩
  rw [hus] at hu hul ⊢
  clear hus
  have hkl := keysF_len us
  obtain ⟨u, hul2⟩ : ∃ u, us.length = u := ⟨_, rfl⟩
  rw [hul2] at hu hul hkl
  obtain ⟨f, hf⟩ : ∃ f, itemAt us no = f := ⟨_, rfl⟩
  have HF := Lib.hid hf
  obtain ⟨ks, hks⟩ : ∃ ks, keysF us = ks := ⟨_, rfl⟩
  have HKS := Lib.hid hks
  have hmap : mapF us no = ks.filterMap f := by unfold mapF; rw [hks, hf]
  rw [hmap]
  rw [hks] at hkl
  have HUL := Lib.hid hul2
  clear hf hks hmap hul2
  go_enter Try.func9, Try.ntmps9
  go_wp2_with fail
  refine hu.mono ?_
  rintro e w1 ⟨B0, d0, rfl, R0, k1⟩
  have HR0 := Lib.hid (R0.out.rd encI)
  have K1 := Lib.hid k1
  clear k1 hu
  have hk := keys_any us w1 HR0.out (by omega)
  rw [HKS.out] at hk
  obtain ⟨z, hz⟩ : ∃ z, ks.length = z := ⟨_, rfl⟩
  rw [hz] at hk hkl
  have HZ := Lib.hid hz
  clear hz
  have HKC := Lib.hid hk
  clear hk
  go_wp2_with fail
  refine HKC.out.mono ?_
  rintro e w2 ⟨B1, d1, rfl, R1, k2⟩
  have K2 := Lib.hid (K1.out.trans k2)
  have HR02 := Lib.hid (HR0.out.all k2)
  clear k2 HKC
  go_wp2_with fail
  go_loopw [6, 8, 9, 10, 16] (fun s6 _ _ _ s16 wr => ∃ (k m : Nat) (B : Option Addr) (d : Nat), k ≤ z ∧ Hid (m = ((ks.take k).filterMap f).length) ∧ s16 = .int .i64 k ∧ s6 = .slice B m d ∧ Hid (ItO wr w2.heap.size (.slice B m d) ((ks.take k).filterMap f)) ∧ Hid (Kept (fun _ => True) w2 wr)) (fun _ _ _ _ s16 _ => z - (intOf s16).toNat)
  case atStart => exact ⟨0, 0, none, 0, Nat.zero_le _, Lib.hid rfl, rfl, rfl, Lib.hid (RowN.nil _ _ _), Lib.hid (Kept.refl _ _)⟩
  case round =>
    obtain ⟨k, m, B, d, hk, HMK, rfl, rfl, RO, KW⟩ := hrel
    by_cases hlt : k < z
    · have hltz : (k : Int) < (z : Int) := by omega
      obtain ⟨s, hs⟩ : ∃ s, ks[k]? = some s := ⟨_, List.getElem?_eq_getElem (by have := HZ.out; omega)⟩
      obtain ⟨b, off, rfl, _, _, hcell⟩ := (R1.out.all KW.out).at_ hs
      have r0 : wr.cell? ⟨b, off + k, none⟩ = some (.string ⟨s.toArray⟩) := by
        have := hcell 0 _ rfl
        rwa [Nat.mul_one] at this
      have hb := behind_any us ⟨s.toArray⟩ no wr (HR02.out.all KW.out) (by omega)
      have hmz : m ≤ z := by
        have h1 := HMK.out
        have h2 := List.length_filterMap_le f (ks.take k)
        rw [List.length_take] at h2
        omega
      have hfx : f s = if (behindF us ⟨s.toArray⟩ no).2 = true then some (behindF us ⟨s.toArray⟩ no).1 else none := by rw [← HF.out]; rfl
      generalize behindF us ⟨s.toArray⟩ no = r at hb hfx
      obtain ⟨⟨yk, yv, yn, yg⟩, is⟩ := r
      simp only [ics] at hb hfx
      have HFX := Lib.hid hfx
      have HS := Lib.hid hs
      have HB := Lib.hid hb
      clear hfx hs hb hcell
      go_wp2_with fail
      refine HB.out.mono ?_
      rintro e w3 ⟨rfl, k3⟩
      have RO3 := RowH.go RO k3
      have KW3 := KeptH.go KW k3
      clear HB r0
      have hnx := filterMap_snoc f HS.out
      rw [HFX.out] at hnx
      have K3 := Lib.hid k3
      clear k3
      cases is with
      | true =>
        rw [if_pos rfl] at hnx
        have hnx2 : (ks.take (k + 1)).filterMap f = (ks.take k).filterMap f ++ [⟨yk, yv, yn, yg⟩] := hnx
        obtain ⟨w4, hw4⟩ : ∃ w4, (w3.alloc (.cells #[.string yk, .string yv, .int .i64 yn, .bool yg] 33)).alloc (.cells #[.string yk, .string yv, .int .i64 yn, .bool yg] 33) = w4 := ⟨_, rfl⟩
        have k4 : Kept (fun _ => True) w3 w4 := hw4 ▸ ((Kept.refl _ w3).alloc _).alloc _
        have b4 : Blk w4 (w3.heap.size + 1) 33 #[.string yk, .string yv, .int .i64 yn, .bool yg] := by
          have := Blk.new (w3.alloc (.cells #[.string yk, .string yv, .int .i64 yn, .bool yg] 33)) 33 #[.string yk, .string yv, .int .i64 yn, .bool yg]
          rw [hw4] at this
          simpa using this
        have hro0 := RO3.out.all k4
        have hml : ((ks.take k).filterMap f).length = m := HMK.out.symm
        obtain ⟨v', w5, hr, hro, hkk, _, _⟩ := run_append_rowN (P := Try.prog) (t := 27) (ty := 27) (w := w4) encI (by omega) Try.underlying27 Try.info33 rfl hro0 (RdK.one b4 (⟨yk, yv, yn, yg⟩ : Item) rfl) (by rw [hml]; simp [maxLen]; omega) (by rw [hml]; simp; omega) (by have := k4.size; have := KW3.out.size; omega)
        rw [← hnx2] at hro
        obtain ⟨B', d', rfl⟩ := hro.form
        have hm2 : ((ks.take (k + 1)).filterMap f).length = m + 1 := by rw [hnx2, List.length_append, hml]; rfl
        rw [hm2] at hro hr
        have K5 := Lib.hid ((KW3.out.trans k4).trans' hkk fun b hb _ e => by
          have := (RO3.out.lt e).2
          omega)
        have HR := Lib.hid hr
        have HRO := Lib.hid hro
        have HM2 := Lib.hid hm2.symm
        rw [← hw4] at HR
        clear hr hro hkk hro0 b4 k4 hw4 hnx hnx2 hml hm2
        go_wp2_with (at_builtin; refine wpList_append_run rfl (.tmp 28) (.tmp 30) 27 rfl rfl rfl HR.out ?_)
        go_roundw
        case measure => simp [intOf]; omega
        case rel => exact ⟨k + 1, m + 1, B', d', by omega, HM2, by simp, rfl, HRO, K5⟩
      | false =>
        have hnx2 : (ks.take (k + 1)).filterMap f = (ks.take k).filterMap f := by rw [hnx]; simp
        have KW4 := Lib.hid (KW3.out.alloc (.cells #[.string yk, .string yv, .int .i64 yn, .bool yg] 33))
        have RO4 := RowH.go RO3 ((Kept.refl _ w3).alloc (.cells #[.string yk, .string yv, .int .i64 yn, .bool yg] 33))
        rw [← hnx2] at RO4 HMK
        clear hnx hnx2
        go_wp2_with fail
        go_roundw
        case measure => simp [intOf]; omega
        case rel => exact ⟨k + 1, m, B, d, by omega, HMK, by simp, rfl, RO4, KW4⟩
    · have hkn : k = z := by omega
      have hltn : ¬ (k : Int) < (z : Int) := by omega
      have ht : ks.take k = ks := List.take_of_length_le (by have := HZ.out; omega)
      rw [ht] at RO HMK
      have hm := HMK.out
      have HK := Lib.hid hkn
      clear ht hkn
      subst hm
      go_wp2_with fail
      go_ret
      exact ⟨B, d, rfl, Lib.hid (RO.out.low (by have := K2.out.size; omega)), K2.out.trans KW.out⟩
end Ythmijlchonbjnaa
end Go.Proofs
