/-
  HistoryMaps: the walk.
-/
import Derived.Test.YthmijlchonbjnaaAloneWalk
import Derived.Test.YthmijlchonbjnaaMapsPure
set_option maxHeartbeats 4000000
set_option maxRecDepth 100000
namespace Go.Proofs
open Go.RowKit
namespace Ythmijlchonbjnaa
attribute [local go_sem ↓] Go.wp_at_zero Go.wp_at_succ
theorem any_snoc {l : List Item} {k : Nat} {x : Item} (hx : l[k]? = some x) (y : Item) : (l.take (k + 1)).any (fun a => decide (a = y)) = ((l.take k).any (fun a => decide (a = y)) || decide (x = y)) := by
  rw [List.take_add_one, hx, List.any_append]
  simp
theorem maps_any (l : List Call) {B : Option Addr} {n d : Nat} (w : World) (hr : CaR w (.slice B n d) l) :
    Calls Try.prog 4 #[.slice B n d] w fun e w' => e = .returned (.bool true) ∧ Kept (fun _ => True) w w' := by
  have HC := Lib.hid hr
  clear hr
  go_enter Try.func4, Try.ntmps4
  go_wp2_with fail
  refine (awake_any w).mono ?_
  rintro e w1 ⟨rfl, hk⟩
  have KW := Lib.hid hk
  clear hk
  go_wp2_with fail
  refine (new_any w1).mono ?_
  rintro e w2 ⟨g, rb, rfl, HR, hk⟩
  have HS : Hid (w.heap.size ≤ w1.heap.size) := Lib.hid KW.out.size
  have HS2 : Hid (w1.heap.size ≤ w2.heap.size) := Lib.hid hk.size
  replace KW := KeptH.go KW hk
  clear hk
  go_wp2_with fail
  refine (alone_any HR.out l (HC.out.all KW.out) (fun hne x hx => Nat.lt_of_lt_of_le (arg_low HC.out hne x hx) HS.out) HS2.out).mono ?_
  rintro e w3 ⟨⟨cs, rfl, ⟨A3, c3, HR3⟩, GD, LN⟩, hk⟩
  replace KW := KeptH.low KW HS.out hk
  clear hk HR
  generalize w1.heap.size = base at HR3
  have HU : Hid ((updF cs).length ≤ 100) := Lib.hid (by
    have := updF_len cs
    have := LN.out
    omega)
  have NS := Lib.hid GD.out.nosAll
  have hmapAny : ∀ W (t : Int), Hid (HRep W base g A3 c3 rb cs ((updF cs).length : Nat)) → Calls Try.prog 9 #[.pointer (some ⟨g, 0, none⟩), .int .i64 t] W fun e w' => ∃ B d, e = .returned (.slice B (mapF (updF cs) t).length d) ∧ Hid (ItO w' W.heap.size (.slice B (mapF (updF cs) t).length d) (mapF (updF cs) t)) ∧ Kept (fun _ => True) W w' := fun W t h => map_any h.out t (by have := LN.out; omega)
  generalize updF cs = us at HR3 HU NS hmapAny ⊢
  obtain ⟨no, hno⟩ : ∃ no, us.length = no := ⟨_, rfl⟩
  rw [hno] at HR3 HU hmapAny ⊢
  have HNO := Lib.hid hno
  have hno100 := HU.out
  clear hno GD LN HU
  have HMA := Lib.hid hmapAny
  clear hmapAny
  go_wp2_with fail
  go_loopw [6, 7, 8, 9, 10, 11, 12] (fun s6 _ _ _ _ _ _ wr => ∃ t : Nat, t ≤ no ∧ s6 = .int .i64 ((t : Int) + 1) ∧ Hid (HRep wr base g A3 c3 rb cs (no : Nat)) ∧ Hid (Kept (fun _ => True) w wr)) (fun s6 _ _ _ _ _ _ _ => no + 1 - (intOf s6).toNat)
  case atStart => exact ⟨0, Nat.zero_le _, by simp, HR3, KW⟩
  case round =>
    clear HR3 KW
    obtain ⟨t, ht, rfl, HR3, KW⟩ := hrel
    by_cases hlt : t < no
    · have hltz : (t : Int) + 1 ≤ (no : Int) := by omega
      have hw1 : IntKind.i64.wrap (t : Int) = (t : Int) := by rw [IntKind.wrap_i64]; omega
      obtain ⟨z, hz⟩ : ∃ z, us[t]? = some z := ⟨_, List.getElem?_eq_getElem (by have := HNO.out; omega)⟩
      have HZ := Lib.hid hz
      clear hz
      obtain ⟨ma, hma⟩ : ∃ ma, mapF us (t : Int) = ma := ⟨_, rfl⟩
      obtain ⟨mb, hmb⟩ : ∃ mb, mapF us ((t : Int) + 1) = mb := ⟨_, rfl⟩
      obtain ⟨na, hna⟩ : ∃ na, ma.length = na := ⟨_, rfl⟩
      obtain ⟨nb, hnb⟩ : ∃ nb, mb.length = nb := ⟨_, rfl⟩
      have HA := HMA.out wr (t : Int) HR3
      have HBB := fun W h => HMA.out W ((t : Int) + 1) h
      rw [hma, hna] at HA
      rw [hmb, hnb] at HBB
      have hlen : ∀ q : Int, (mapF us q).length ≤ 100 := fun q => by
        have h1 : (mapF us q).length ≤ (keysF us).length := List.length_filterMap_le _ _
        have h2 := keysF_len us
        have h3 := HNO.out
        omega
      have hna100 : na ≤ 100 := by rw [← hna, ← hma]; exact hlen _
      have hnb100 : nb ≤ 100 := by rw [← hnb, ← hmb]; exact hlen _
      have OLD : Hid (∀ x : Item, x ∈ mb → x.no ≠ (t : Int) + 1 → x ∈ ma) := Lib.hid fun x hx hno => by
        rw [← hmb] at hx
        rw [← hma]
        exact maps_old NS.out HZ.out hx hno
      have SRT : Hid (∀ (i : Nat) (x y : Item), mb[i]? = some x → mb[i + 1]? = some y → Op.bytesLess x.key.toList y.key.toList = true) := Lib.hid fun i x y hx hy => by
        rw [← hmb] at hx hy
        exact maps_sorted us _ hx hy
      have CNT : Hid (∃ more was : Nat, more ≤ 1 ∧ was ≤ 1 ∧ mb.countP (fun x => x.no == (t : Int) + 1) = more ∧ nb + was = na + more) := Lib.hid (by
        have := maps_count NS.out HZ.out
        rwa [hma, hmb, hna, hnb] at this)
      have HNA := Lib.hid hna
      have HNB := Lib.hid hnb
      have HBBH := Lib.hid HBB
      clear hma hmb hna hnb hlen HBB
      go_wp2_with fail
      refine HA.mono ?_
      rintro e w4 ⟨A4, da, rfl, RA, hk⟩
      replace HR3 := HRepH.go HR3 hk
      replace KW := KeptH.go KW hk
      clear hk HA
      go_wp2_with fail
      refine (HBBH.out w4 HR3).mono ?_
      rintro e w5 ⟨A5, db, rfl, RB, hk⟩
      replace HR3 := HRepH.go HR3 hk
      replace KW := KeptH.go KW hk
      replace RA := RowH.go RA hk
      clear hk HBBH
      go_wp2_with fail
      go_loopw [9, 10, 11, 12] (fun s9 s10 _ _ wx => ∃ (i more : Nat), i ≤ nb ∧ s10 = .int .i64 i ∧ s9 = .int .i64 more ∧ Hid (more = (mb.take i).countP (fun x => x.no == (t : Int) + 1)) ∧ Hid (Kept (fun _ => True) w5 wx)) (fun _ s10 _ _ _ => nb - (intOf s10).toNat)
      case atStart => exact ⟨0, 0, Nat.zero_le _, rfl, rfl, Lib.hid rfl, Lib.hid (Kept.refl _ _)⟩
      case round =>
        obtain ⟨i, more, hi, rfl, rfl, MO, KX⟩ := hrel
        by_cases hib : i < nb
        · have hibz : (i : Int) < (nb : Int) := by omega
          obtain ⟨y, hy⟩ : ∃ y, mb[i]? = some y := ⟨_, List.getElem?_eq_getElem (by have := HNB.out; omega)⟩
          obtain ⟨q, _, rfl, -, -, -, -, hcell⟩ := (RowH.go RB KX.out).out.at_ encI hy
          have HY := Lib.hid hy
          have FY : Hid (wr.cell? ⟨q, i * 4, none⟩ = some (.string y.key) ∧ wr.cell? ⟨q, i * 4 + 1, none⟩ = some (.string y.val) ∧ wr.cell? ⟨q, i * 4 + 2, none⟩ = some (.int .i64 y.no) ∧ wr.cell? ⟨q, i * 4 + 3, none⟩ = some (.bool y.gone)) := Lib.hid ⟨hcell 0 _ rfl, hcell 1 _ rfl, hcell 2 _ rfl, hcell 3 _ rfl⟩
          have hmore : more ≤ i := by
            have h1 := MO.out
            have h2 := List.countP_le_length (p := fun x : Item => x.no == (t : Int) + 1) (l := mb.take i)
            rw [List.length_take] at h2
            omega
          clear hy hcell
          go_upto_region 15 with fail
          go_cut [57] (fun s57 wx => s57 = .bool false ∧ wx = wr.drew)
          case first =>
            by_cases hi0 : i = 0
            · have ti : decide ((0 : Int) < (i : Int)) = false := by simp; omega
              have ti2 : decide (0 < i) = false := by simp; omega
              clear hi0
              refine wp_region_held_drew (S := (fun _ => True)) (by kernel_rfl) ?_ (fun hHeld => ?_)
              · trivial
              refine wpAnyH_take (i := 0) (v := ?vz1) rfl (by kernel_rfl) (by kernel_rfl) (by kernel_rfl) (fun _ _ _ h => h) (Or.inl ⟨?wz1, ?yz1⟩) (by assumption) ?rz1
              case yz1 => (intro w hSw; (try dsimp only at hSw); go_simp; try with_reducible rfl)
              case wz1 => rfl
              case' rz1 => simp only [Act.put, List.getElem_toArray, List.getElem_cons_zero, List.setIfInBounds_toArray, List.set_cons_zero, List.set_cons_succ]
              refine wpAnyH_take (i := 1) (v := ?vz2) rfl (by kernel_rfl) (by kernel_rfl) (by kernel_rfl) (fun _ _ _ h => h) (Or.inl ⟨?wz2, ?yz2⟩) (by assumption) ?rz2
              case yz2 => (intro w hSw; (try dsimp only at hSw); go_simp; try with_reducible rfl)
              case wz2 => rfl
              case' rz2 => simp only [Act.put, List.getElem_toArray, List.getElem_cons_zero, List.getElem_cons_succ, List.setIfInBounds_toArray, List.set_cons_zero, List.set_cons_succ]
              refine wpAnyH_take (i := 2) (v := ?vz3) rfl (by kernel_rfl) (by kernel_rfl) (by kernel_rfl) (fun _ _ _ h => h) (Or.inl ⟨?wz3, ?yz3⟩) (by assumption) ?rz3
              case yz3 => (intro w hSw; (try dsimp only at hSw); go_simp; try with_reducible rfl)
              case wz3 => rfl
              case' rz3 => simp only [Act.put, List.getElem_toArray, List.getElem_cons_zero, List.getElem_cons_succ, List.setIfInBounds_toArray, List.set_cons_zero, List.set_cons_succ]
              refine wpAnyH_take (i := 3) (v := undef) rfl (by kernel_rfl) (by kernel_rfl) (by kernel_rfl) (fun _ _ _ h => h) (Or.inr ⟨rfl, rfl⟩) (by assumption) ?_
              simp only [Act.put, List.getElem_toArray, List.getElem_cons_zero, List.getElem_cons_succ, List.setIfInBounds_toArray, List.set_cons_zero, List.set_cons_succ]
              refine wpAnyH_take (i := 4) (v := undef) rfl (by kernel_rfl) (by kernel_rfl) (by kernel_rfl) (fun _ _ _ h => h) (Or.inr ⟨rfl, rfl⟩) (by assumption) ?_
              simp only [Act.put, List.getElem_toArray, List.getElem_cons_zero, List.getElem_cons_succ, List.setIfInBounds_toArray, List.set_cons_zero, List.set_cons_succ]
              refine wpAnyH_take (i := 5) (v := undef) rfl (by kernel_rfl) (by kernel_rfl) (by kernel_rfl) (fun _ _ _ h => h) (Or.inr ⟨rfl, rfl⟩) (by assumption) ?_
              simp only [Act.put, List.getElem_toArray, List.getElem_cons_zero, List.getElem_cons_succ, List.setIfInBounds_toArray, List.set_cons_zero, List.set_cons_succ]
              refine wpAnyH_take (i := 6) (v := undef) rfl (by kernel_rfl) (by kernel_rfl) (by kernel_rfl) (fun _ _ _ h => h) (Or.inr ⟨rfl, rfl⟩) (by assumption) ?_
              simp only [Act.put, List.getElem_toArray, List.getElem_cons_zero, List.getElem_cons_succ, List.setIfInBounds_toArray, List.set_cons_zero, List.set_cons_succ]
              refine wpAnyH_take (i := 7) (v := undef) rfl (by kernel_rfl) (by kernel_rfl) (by kernel_rfl) (fun _ _ _ h => h) (Or.inr ⟨rfl, rfl⟩) (by assumption) ?_
              simp only [Act.put, List.getElem_toArray, List.getElem_cons_zero, List.getElem_cons_succ, List.setIfInBounds_toArray, List.set_cons_zero, List.set_cons_succ]
              refine wpAnyH_take (i := 8) (v := undef) rfl (by kernel_rfl) (by kernel_rfl) (by kernel_rfl) (fun _ _ _ h => h) (Or.inr ⟨rfl, rfl⟩) (by assumption) ?_
              simp only [Act.put, List.getElem_toArray, List.getElem_cons_zero, List.getElem_cons_succ, List.setIfInBounds_toArray, List.set_cons_zero, List.set_cons_succ]
              refine wpAnyH_take (i := 9) (v := undef) rfl (by kernel_rfl) (by kernel_rfl) (by kernel_rfl) (fun _ _ _ h => h) (Or.inr ⟨rfl, rfl⟩) (by assumption) ?_
              simp only [Act.put, List.getElem_toArray, List.getElem_cons_zero, List.getElem_cons_succ, List.setIfInBounds_toArray, List.set_cons_zero, List.set_cons_succ]
              refine wpAnyH_take (i := 10) (v := undef) rfl (by kernel_rfl) (by kernel_rfl) (by kernel_rfl) (fun _ _ _ h => h) (Or.inr ⟨rfl, rfl⟩) (by assumption) ?_
              simp only [Act.put, List.getElem_toArray, List.getElem_cons_zero, List.getElem_cons_succ, List.setIfInBounds_toArray, List.set_cons_zero, List.set_cons_succ]
              refine wpAnyH_take (i := 11) (v := undef) rfl (by kernel_rfl) (by kernel_rfl) (by kernel_rfl) (fun _ _ _ h => h) (Or.inr ⟨rfl, rfl⟩) (by assumption) ?_
              simp only [Act.put, List.getElem_toArray, List.getElem_cons_zero, List.getElem_cons_succ, List.setIfInBounds_toArray, List.set_cons_zero, List.set_cons_succ]
              refine wpAnyH_take (i := 12) (v := undef) rfl (by kernel_rfl) (by kernel_rfl) (by kernel_rfl) (fun _ _ _ h => h) (Or.inr ⟨rfl, rfl⟩) (by assumption) ?_
              simp only [Act.put, List.getElem_toArray, List.getElem_cons_zero, List.getElem_cons_succ, List.setIfInBounds_toArray, List.set_cons_zero, List.set_cons_succ]
              refine wpAnyH_take (i := 13) (v := undef) rfl (by kernel_rfl) (by kernel_rfl) (by kernel_rfl) (fun _ _ _ h => h) (Or.inr ⟨rfl, rfl⟩) (by assumption) ?_
              simp only [Act.put, List.getElem_toArray, List.getElem_cons_zero, List.getElem_cons_succ, List.setIfInBounds_toArray, List.set_cons_zero, List.set_cons_succ]
              refine wpAnyH_take (i := 14) (v := undef) rfl (by kernel_rfl) (by kernel_rfl) (by kernel_rfl) (fun _ _ _ h => h) (Or.inr ⟨rfl, rfl⟩) (by assumption) ?_
              simp only [Act.put, List.getElem_toArray, List.getElem_cons_zero, List.getElem_cons_succ, List.setIfInBounds_toArray, List.set_cons_zero, List.set_cons_succ]
              refine wpAnyH_take (i := 15) (v := ?vz16) rfl (by kernel_rfl) (by kernel_rfl) (by kernel_rfl) (fun _ _ _ h => h) (Or.inl ⟨?wz16, ?yz16⟩) (by assumption) ?rz16
              case yz16 => (intro w hSw; (try dsimp only at hSw); go_simp; try with_reducible rfl)
              case wz16 => rfl
              case' rz16 => simp only [Act.put, List.getElem_toArray, List.getElem_cons_zero, List.getElem_cons_succ, List.setIfInBounds_toArray, List.set_cons_zero, List.set_cons_succ]
              refine wpAnyH_done (by kernel_rfl) ?_ _
              go_wp2_with fail
              go_meet
              case rel => exact ⟨rfl, rfl⟩
            · obtain ⟨j, hj⟩ : ∃ j, i = j + 1 := ⟨i - 1, by omega⟩
              obtain ⟨u, hu⟩ : ∃ u, mb[j]? = some u := ⟨_, List.getElem?_eq_getElem (by have := HNB.out; omega)⟩
              have hbl := SRT.out j u y hu (by rw [← hj]; exact HY.out)
              obtain ⟨q', _, hqq, -, -, -, -, hcell⟩ := (RowH.go RB KX.out).out.at_ encI hu
              injection hqq with hqq
              injection hqq with hqq
              subst hqq
              have FU : Hid (wr.cell? ⟨q, j * 4, none⟩ = some (.string u.key) ∧ wr.cell? ⟨q, i * 4, none⟩ = some (.string y.key)) := Lib.hid ⟨hcell 0 _ rfl, FY.out.1⟩
              have ti : decide ((0 : Int) < (i : Int)) = true := by simp; omega
              have ti2 : decide (0 < i) = true := by simp; omega
              have hwj : IntKind.i64.wrap ((i : Int) - 1) = (j : Int) := by rw [IntKind.wrap_i64]; omega
              have hjb : (j : Int) < (nb : Int) := by omega
              clear hcell hu hj hi0
              refine wp_region_held_drew (S := (fun W => W.cell? ⟨q, j * 4, none⟩ = some (.string u.key) ∧ W.cell? ⟨q, i * 4, none⟩ = some (.string y.key))) (by kernel_rfl) ?_ (fun hHeld => ?_)
              · exact FU.out
              refine wpAnyH_take (i := 0) (v := ?vz17) rfl (by kernel_rfl) (by kernel_rfl) (by kernel_rfl) (fun _ _ _ h => h) (Or.inl ⟨?wz17, ?yz17⟩) (by assumption) ?rz17
              case yz17 => (intro w hSw; (try dsimp only at hSw); go_simp; try with_reducible rfl)
              case wz17 => rfl
              case' rz17 => simp only [Act.put, List.getElem_toArray, List.getElem_cons_zero, List.setIfInBounds_toArray, List.set_cons_zero, List.set_cons_succ]
              refine wpAnyH_take (i := 1) (v := ?vz18) rfl (by kernel_rfl) (by kernel_rfl) (by kernel_rfl) (fun _ _ _ h => h) (Or.inl ⟨?wz18, ?yz18⟩) (by assumption) ?rz18
              case yz18 => (intro w hSw; (try dsimp only at hSw); go_simp; try with_reducible rfl)
              case wz18 => rfl
              case' rz18 => simp only [Act.put, List.getElem_toArray, List.getElem_cons_zero, List.getElem_cons_succ, List.setIfInBounds_toArray, List.set_cons_zero, List.set_cons_succ]
              refine wpAnyH_take (i := 2) (v := ?vz19) rfl (by kernel_rfl) (by kernel_rfl) (by kernel_rfl) (fun _ _ _ h => h) (Or.inl ⟨?wz19, ?yz19⟩) (by assumption) ?rz19
              case yz19 => (intro w hSw; (try dsimp only at hSw); go_simp; try with_reducible rfl)
              case wz19 => rfl
              case' rz19 => simp only [Act.put, List.getElem_toArray, List.getElem_cons_zero, List.getElem_cons_succ, List.setIfInBounds_toArray, List.set_cons_zero, List.set_cons_succ]
              refine wpAnyH_take (i := 3) (v := ?vz20) rfl (by kernel_rfl) (by kernel_rfl) (by kernel_rfl) (fun _ _ _ h => h) (Or.inl ⟨?wz20, ?yz20⟩) (by assumption) ?rz20
              case yz20 => (intro w hSw; (try dsimp only at hSw); go_simp; try with_reducible rfl)
              case wz20 => rfl
              case' rz20 => simp only [Act.put, List.getElem_toArray, List.getElem_cons_zero, List.getElem_cons_succ, List.setIfInBounds_toArray, List.set_cons_zero, List.set_cons_succ]
              refine wpAnyH_take (i := 4) (v := ?vz21) rfl (by kernel_rfl) (by kernel_rfl) (by kernel_rfl) (fun _ _ _ h => h) (Or.inl ⟨?wz21, ?yz21⟩) (by assumption) ?rz21
              case yz21 => (intro w hSw; (try dsimp only at hSw); go_simp; try with_reducible rfl)
              case wz21 => rfl
              case' rz21 => simp only [Act.put, List.getElem_toArray, List.getElem_cons_zero, List.getElem_cons_succ, List.setIfInBounds_toArray, List.set_cons_zero, List.set_cons_succ]
              refine wpAnyH_take (i := 5) (v := ?vz22) rfl (by kernel_rfl) (by kernel_rfl) (by kernel_rfl) (fun _ _ _ h => h) (Or.inl ⟨?wz22, ?yz22⟩) (by assumption) ?rz22
              case yz22 => (intro w hSw; (try dsimp only at hSw); go_simp; try with_reducible rfl)
              case wz22 => rfl
              case' rz22 => simp only [Act.put, List.getElem_toArray, List.getElem_cons_zero, List.getElem_cons_succ, List.setIfInBounds_toArray, List.set_cons_zero, List.set_cons_succ]
              refine wpAnyH_take (i := 6) (v := ?vz23) rfl (by kernel_rfl) (by kernel_rfl) (by kernel_rfl) (fun _ _ _ h => h) (Or.inl ⟨?wz23, ?yz23⟩) (by assumption) ?rz23
              case yz23 => (intro w hSw; (try dsimp only at hSw); go_simp; try with_reducible rfl)
              case wz23 => rfl
              case' rz23 => simp only [Act.put, List.getElem_toArray, List.getElem_cons_zero, List.getElem_cons_succ, List.setIfInBounds_toArray, List.set_cons_zero, List.set_cons_succ]
              refine wpAnyH_take (i := 7) (v := ?vz24) rfl (by kernel_rfl) (by kernel_rfl) (by kernel_rfl) (fun _ _ _ h => h) (Or.inl ⟨?wz24, ?yz24⟩) (by assumption) ?rz24
              case yz24 => (intro w hSw; (try dsimp only at hSw); go_simp; try with_reducible rfl)
              case wz24 => rfl
              case' rz24 => simp only [Act.put, List.getElem_toArray, List.getElem_cons_zero, List.getElem_cons_succ, List.setIfInBounds_toArray, List.set_cons_zero, List.set_cons_succ]
              refine wpAnyH_take (i := 8) (v := ?vz25) rfl (by kernel_rfl) (by kernel_rfl) (by kernel_rfl) (fun _ _ _ h => h) (Or.inl ⟨?wz25, ?yz25⟩) (by assumption) ?rz25
              case yz25 => (intro w hSw; (try dsimp only at hSw); go_simp; try with_reducible rfl)
              case wz25 => rfl
              case' rz25 => simp only [Act.put, List.getElem_toArray, List.getElem_cons_zero, List.getElem_cons_succ, List.setIfInBounds_toArray, List.set_cons_zero, List.set_cons_succ]
              refine wpAnyH_take (i := 9) (v := ?vz26) rfl (by kernel_rfl) (by kernel_rfl) (by kernel_rfl) (fun _ _ _ h => h) (Or.inl ⟨?wz26, ?yz26⟩) (by assumption) ?rz26
              case yz26 => (intro w hSw; (try dsimp only at hSw); go_simp; try with_reducible rfl)
              case wz26 => rfl
              case' rz26 => simp only [Act.put, List.getElem_toArray, List.getElem_cons_zero, List.getElem_cons_succ, List.setIfInBounds_toArray, List.set_cons_zero, List.set_cons_succ]
              refine wpAnyH_take (i := 10) (v := ?vz27) rfl (by kernel_rfl) (by kernel_rfl) (by kernel_rfl) (fun _ _ _ h => h) (Or.inl ⟨?wz27, ?yz27⟩) (by assumption) ?rz27
              case yz27 => (intro w hSw; (try dsimp only at hSw); go_simp; try with_reducible rfl)
              case wz27 => rfl
              case' rz27 => simp only [Act.put, List.getElem_toArray, List.getElem_cons_zero, List.getElem_cons_succ, List.setIfInBounds_toArray, List.set_cons_zero, List.set_cons_succ]
              refine wpAnyH_take (i := 11) (v := ?vz28) rfl (by kernel_rfl) (by kernel_rfl) (by kernel_rfl) (fun _ _ _ h => h) (Or.inl ⟨?wz28, ?yz28⟩) (by assumption) ?rz28
              case yz28 => (intro w hSw; (try dsimp only at hSw); go_simp; try with_reducible rfl)
              case wz28 => rfl
              case' rz28 => simp only [Act.put, List.getElem_toArray, List.getElem_cons_zero, List.getElem_cons_succ, List.setIfInBounds_toArray, List.set_cons_zero, List.set_cons_succ]
              refine wpAnyH_take (i := 12) (v := ?vz29) rfl (by kernel_rfl) (by kernel_rfl) (by kernel_rfl) (fun _ _ _ h => h) (Or.inl ⟨?wz29, ?yz29⟩) (by assumption) ?rz29
              case yz29 => (intro w hSw; (try dsimp only at hSw); go_simp; try with_reducible rfl)
              case wz29 => rfl
              case' rz29 => simp only [Act.put, List.getElem_toArray, List.getElem_cons_zero, List.getElem_cons_succ, List.setIfInBounds_toArray, List.set_cons_zero, List.set_cons_succ]
              refine wpAnyH_take (i := 13) (v := ?vz30) rfl (by kernel_rfl) (by kernel_rfl) (by kernel_rfl) (fun _ _ _ h => h) (Or.inl ⟨?wz30, ?yz30⟩) (by assumption) ?rz30
              case yz30 => (intro w hSw; (try dsimp only at hSw); go_simp; try with_reducible rfl)
              case wz30 => rfl
              case' rz30 => simp only [Act.put, List.getElem_toArray, List.getElem_cons_zero, List.getElem_cons_succ, List.setIfInBounds_toArray, List.set_cons_zero, List.set_cons_succ]
              refine wpAnyH_take (i := 14) (v := ?vz31) rfl (by kernel_rfl) (by kernel_rfl) (by kernel_rfl) (fun _ _ _ h => h) (Or.inl ⟨?wz31, ?yz31⟩) (by assumption) ?rz31
              case yz31 => (intro w hSw; (try dsimp only at hSw); go_simp; try with_reducible rfl)
              case wz31 => rfl
              case' rz31 => simp only [Act.put, List.getElem_toArray, List.getElem_cons_zero, List.getElem_cons_succ, List.setIfInBounds_toArray, List.set_cons_zero, List.set_cons_succ]
              refine wpAnyH_take (i := 15) (v := ?vz32) rfl (by kernel_rfl) (by kernel_rfl) (by kernel_rfl) (fun _ _ _ h => h) (Or.inl ⟨?wz32, ?yz32⟩) (by assumption) ?rz32
              case yz32 => (intro w hSw; (try dsimp only at hSw); go_simp; try with_reducible rfl)
              case wz32 => rfl
              case' rz32 => simp only [Act.put, List.getElem_toArray, List.getElem_cons_zero, List.getElem_cons_succ, List.setIfInBounds_toArray, List.set_cons_zero, List.set_cons_succ]
              refine wpAnyH_done (by kernel_rfl) ?_ _
              go_wp2_with fail
              go_meet
              case rel => exact ⟨by first | rfl | (rw [hbl]; rfl), rfl⟩
          case rest =>
            obtain ⟨rfl, rfl⟩ := hcut
            have y2 := FY.out.2.2.1
            by_cases hyn : y.no = (t : Int) + 1
            · have hyn' : (y.no == (t : Int) + 1) = true := by simpa using hyn
              have MO2 : Hid (more + 1 = (mb.take (i + 1)).countP (fun x => x.no == (t : Int) + 1)) := Lib.hid (by rw [count_snoc HY.out, hyn', ← MO.out]; rfl)
              go_wp2_with fail
              go_roundw
              case measure => simp [intOf]; omega
              case rel => exact ⟨i + 1, more + 1, by omega, by simp, by simp, MO2, Lib.hid KX.out.drew⟩
            · have hyn' : (y.no == (t : Int) + 1) = false := by simpa using hyn
              have MO2 : Hid (more = (mb.take (i + 1)).countP (fun x => x.no == (t : Int) + 1)) := Lib.hid (by rw [count_snoc HY.out, hyn', ← MO.out]; rfl)
              have YA : Hid (ma.any (fun a => decide (a = y)) = true) := Lib.hid (List.any_eq_true.2 ⟨y, OLD.out y (List.mem_of_getElem? HY.out) hyn, by simp⟩)
              obtain ⟨wm, hwm⟩ : ∃ wm, wm = wr := ⟨_, rfl⟩
              subst hwm
              clear hyn
              go_wp2_with fail
              clear y2
              go_loopw [11, 12] (fun s11 s12 wy => ∃ (k : Nat) (was : Bool), k ≤ na ∧ s12 = .int .i64 k ∧ s11 = .bool was ∧ Hid (was = (ma.take k).any (fun a => decide (a = y))) ∧ Hid (Kept (fun _ => True) wm wy)) (fun _ s12 _ => na - (intOf s12).toNat)
              case atStart => exact ⟨0, false, Nat.zero_le _, rfl, rfl, Lib.hid rfl, Lib.hid (Kept.refl _ wm).drew⟩
              case round =>
                obtain ⟨k, was, hk, rfl, rfl, WA, KY⟩ := hrel
                by_cases hka : k < na
                · have hkaz : (k : Int) < (na : Int) := by omega
                  obtain ⟨x, hx⟩ : ∃ x, ma[k]? = some x := ⟨_, List.getElem?_eq_getElem (by have := HNA.out; omega)⟩
                  obtain ⟨qa, _, rfl, -, -, -, -, hcell⟩ := (RowH.go RA (KX.out.trans KY.out)).out.at_ encI hx
                  have WA2 : Hid ((ma.take (k + 1)).any (fun a => decide (a = y)) = (was || decide (x = y))) := Lib.hid (by rw [any_snoc hx, ← WA.out])
                  have FF : Hid ((wr.cell? ⟨qa, k * 4, none⟩ = some (.string x.key) ∧ wr.cell? ⟨qa, k * 4 + 1, none⟩ = some (.string x.val) ∧ wr.cell? ⟨qa, k * 4 + 2, none⟩ = some (.int .i64 x.no) ∧ wr.cell? ⟨qa, k * 4 + 3, none⟩ = some (.bool x.gone)) ∧
                      (wr.cell? ⟨q, i * 4, none⟩ = some (.string y.key) ∧ wr.cell? ⟨q, i * 4 + 1, none⟩ = some (.string y.val) ∧ wr.cell? ⟨q, i * 4 + 2, none⟩ = some (.int .i64 y.no) ∧ wr.cell? ⟨q, i * 4 + 3, none⟩ = some (.bool y.gone))) :=
                    Lib.hid ⟨⟨hcell 0 _ rfl, hcell 1 _ rfl, hcell 2 _ rfl, hcell 3 _ rfl⟩, ⟨KY.out.cellv FY.out.1, KY.out.cellv FY.out.2.1, KY.out.cellv FY.out.2.2.1, KY.out.cellv FY.out.2.2.2⟩⟩
                  clear hx hcell
                  go_upto_region 23 with fail
                  cases was with
                  | true =>
                    skip
                    refine wp_region_held_drew (S := (fun _ => True)) (by kernel_rfl) ?_ (fun hHeld => ?_)
                    · trivial
                    refine wpAnyH_take (i := 0) (v := ?vz33) rfl (by kernel_rfl) (by kernel_rfl) (by kernel_rfl) (fun _ _ _ h => h) (Or.inl ⟨?wz33, ?yz33⟩) (by assumption) ?rz33
                    case yz33 => (intro w hSw; (try dsimp only at hSw); go_simp; try with_reducible rfl)
                    case wz33 => rfl
                    case' rz33 => simp only [Act.put, List.getElem_toArray, List.getElem_cons_zero, List.setIfInBounds_toArray, List.set_cons_zero, List.set_cons_succ]
                    refine wpAnyH_take (i := 1) (v := ?vz34) rfl (by kernel_rfl) (by kernel_rfl) (by kernel_rfl) (fun _ _ _ h => h) (Or.inl ⟨?wz34, ?yz34⟩) (by assumption) ?rz34
                    case yz34 => (intro w hSw; (try dsimp only at hSw); go_simp; try with_reducible rfl)
                    case wz34 => rfl
                    case' rz34 => simp only [Act.put, List.getElem_toArray, List.getElem_cons_zero, List.getElem_cons_succ, List.setIfInBounds_toArray, List.set_cons_zero, List.set_cons_succ]
                    refine wpAnyH_take (i := 2) (v := undef) rfl (by kernel_rfl) (by kernel_rfl) (by kernel_rfl) (fun _ _ _ h => h) (Or.inr ⟨rfl, rfl⟩) (by assumption) ?_
                    simp only [Act.put, List.getElem_toArray, List.getElem_cons_zero, List.getElem_cons_succ, List.setIfInBounds_toArray, List.set_cons_zero, List.set_cons_succ]
                    refine wpAnyH_take (i := 3) (v := undef) rfl (by kernel_rfl) (by kernel_rfl) (by kernel_rfl) (fun _ _ _ h => h) (Or.inr ⟨rfl, rfl⟩) (by assumption) ?_
                    simp only [Act.put, List.getElem_toArray, List.getElem_cons_zero, List.getElem_cons_succ, List.setIfInBounds_toArray, List.set_cons_zero, List.set_cons_succ]
                    refine wpAnyH_take (i := 4) (v := undef) rfl (by kernel_rfl) (by kernel_rfl) (by kernel_rfl) (fun _ _ _ h => h) (Or.inr ⟨rfl, rfl⟩) (by assumption) ?_
                    simp only [Act.put, List.getElem_toArray, List.getElem_cons_zero, List.getElem_cons_succ, List.setIfInBounds_toArray, List.set_cons_zero, List.set_cons_succ]
                    refine wpAnyH_take (i := 5) (v := undef) rfl (by kernel_rfl) (by kernel_rfl) (by kernel_rfl) (fun _ _ _ h => h) (Or.inr ⟨rfl, rfl⟩) (by assumption) ?_
                    simp only [Act.put, List.getElem_toArray, List.getElem_cons_zero, List.getElem_cons_succ, List.setIfInBounds_toArray, List.set_cons_zero, List.set_cons_succ]
                    refine wpAnyH_take (i := 6) (v := undef) rfl (by kernel_rfl) (by kernel_rfl) (by kernel_rfl) (fun _ _ _ h => h) (Or.inr ⟨rfl, rfl⟩) (by assumption) ?_
                    simp only [Act.put, List.getElem_toArray, List.getElem_cons_zero, List.getElem_cons_succ, List.setIfInBounds_toArray, List.set_cons_zero, List.set_cons_succ]
                    refine wpAnyH_take (i := 7) (v := undef) rfl (by kernel_rfl) (by kernel_rfl) (by kernel_rfl) (fun _ _ _ h => h) (Or.inr ⟨rfl, rfl⟩) (by assumption) ?_
                    simp only [Act.put, List.getElem_toArray, List.getElem_cons_zero, List.getElem_cons_succ, List.setIfInBounds_toArray, List.set_cons_zero, List.set_cons_succ]
                    refine wpAnyH_take (i := 8) (v := undef) rfl (by kernel_rfl) (by kernel_rfl) (by kernel_rfl) (fun _ _ _ h => h) (Or.inr ⟨rfl, rfl⟩) (by assumption) ?_
                    simp only [Act.put, List.getElem_toArray, List.getElem_cons_zero, List.getElem_cons_succ, List.setIfInBounds_toArray, List.set_cons_zero, List.set_cons_succ]
                    refine wpAnyH_take (i := 9) (v := undef) rfl (by kernel_rfl) (by kernel_rfl) (by kernel_rfl) (fun _ _ _ h => h) (Or.inr ⟨rfl, rfl⟩) (by assumption) ?_
                    simp only [Act.put, List.getElem_toArray, List.getElem_cons_zero, List.getElem_cons_succ, List.setIfInBounds_toArray, List.set_cons_zero, List.set_cons_succ]
                    refine wpAnyH_take (i := 10) (v := undef) rfl (by kernel_rfl) (by kernel_rfl) (by kernel_rfl) (fun _ _ _ h => h) (Or.inr ⟨rfl, rfl⟩) (by assumption) ?_
                    simp only [Act.put, List.getElem_toArray, List.getElem_cons_zero, List.getElem_cons_succ, List.setIfInBounds_toArray, List.set_cons_zero, List.set_cons_succ]
                    refine wpAnyH_take (i := 11) (v := ?vz44) rfl (by kernel_rfl) (by kernel_rfl) (by kernel_rfl) (fun _ _ _ h => h) (Or.inl ⟨?wz44, ?yz44⟩) (by assumption) ?rz44
                    case yz44 => (intro w hSw; (try dsimp only at hSw); go_simp; try with_reducible rfl)
                    case wz44 => rfl
                    case' rz44 => simp only [Act.put, List.getElem_toArray, List.getElem_cons_zero, List.getElem_cons_succ, List.setIfInBounds_toArray, List.set_cons_zero, List.set_cons_succ]
                    refine wpAnyH_take (i := 12) (v := ?vz45) rfl (by kernel_rfl) (by kernel_rfl) (by kernel_rfl) (fun _ _ _ h => h) (Or.inl ⟨?wz45, ?yz45⟩) (by assumption) ?rz45
                    case yz45 => (intro w hSw; (try dsimp only at hSw); go_simp; try with_reducible rfl)
                    case wz45 => rfl
                    case' rz45 => simp only [Act.put, List.getElem_toArray, List.getElem_cons_zero, List.getElem_cons_succ, List.setIfInBounds_toArray, List.set_cons_zero, List.set_cons_succ]
                    refine wpAnyH_done (by kernel_rfl) ?_ _
                    go_wp2_with fail
                    go_roundw
                    case measure => simp [intOf]; omega
                    case rel => exact ⟨k + 1, true, by omega, by simp, rfl, Lib.hid (by rw [WA2.out]; rfl), Lib.hid KY.out.drew⟩
                  | false =>
                    have heq : ∀ W, (binOp .eql 33 (.agg #[.string x.key, .string x.val, .int .i64 x.no, .bool x.gone]) (.agg #[.string y.key, .string y.val, .int .i64 y.no, .bool y.gone])).run Try.prog W = .ok (.bool (decide (x = y))) W := fun W => run_eqlItem x.key x.val x.no x.gone y.key y.val y.no y.gone W
                    generalize decide (x = y) = dxy at heq WA2
                    refine wp_region_held_drew (S := (fun W => (W.cell? ⟨qa, k * 4, none⟩ = some (.string x.key) ∧ W.cell? ⟨qa, k * 4 + 1, none⟩ = some (.string x.val) ∧ W.cell? ⟨qa, k * 4 + 2, none⟩ = some (.int .i64 x.no) ∧ W.cell? ⟨qa, k * 4 + 3, none⟩ = some (.bool x.gone)) ∧ (W.cell? ⟨q, i * 4, none⟩ = some (.string y.key) ∧ W.cell? ⟨q, i * 4 + 1, none⟩ = some (.string y.val) ∧ W.cell? ⟨q, i * 4 + 2, none⟩ = some (.int .i64 y.no) ∧ W.cell? ⟨q, i * 4 + 3, none⟩ = some (.bool y.gone)))) (by kernel_rfl) ?_ (fun hHeld => ?_)
                    · exact FF.out
                    refine wpAnyH_take (i := 0) (v := ?vz46) rfl (by kernel_rfl) (by kernel_rfl) (by kernel_rfl) (fun _ _ _ h => h) (Or.inl ⟨?wz46, ?yz46⟩) (by assumption) ?rz46
                    case yz46 => (intro w hSw; (try dsimp only at hSw); go_simp; try with_reducible rfl)
                    case wz46 => rfl
                    case' rz46 => simp only [Act.put, List.getElem_toArray, List.getElem_cons_zero, List.setIfInBounds_toArray, List.set_cons_zero, List.set_cons_succ]
                    refine wpAnyH_take (i := 1) (v := ?vz47) rfl (by kernel_rfl) (by kernel_rfl) (by kernel_rfl) (fun _ _ _ h => h) (Or.inl ⟨?wz47, ?yz47⟩) (by assumption) ?rz47
                    case yz47 => (intro w hSw; (try dsimp only at hSw); go_simp; try with_reducible rfl)
                    case wz47 => rfl
                    case' rz47 => simp only [Act.put, List.getElem_toArray, List.getElem_cons_zero, List.getElem_cons_succ, List.setIfInBounds_toArray, List.set_cons_zero, List.set_cons_succ]
                    refine wpAnyH_take (i := 2) (v := ?vz48) rfl (by kernel_rfl) (by kernel_rfl) (by kernel_rfl) (fun _ _ _ h => h) (Or.inl ⟨?wz48, ?yz48⟩) (by assumption) ?rz48
                    case yz48 => (intro w hSw; (try dsimp only at hSw); go_simp; try with_reducible rfl)
                    case wz48 => rfl
                    case' rz48 => simp only [Act.put, List.getElem_toArray, List.getElem_cons_zero, List.getElem_cons_succ, List.setIfInBounds_toArray, List.set_cons_zero, List.set_cons_succ]
                    refine wpAnyH_take (i := 3) (v := ?vz49) rfl (by kernel_rfl) (by kernel_rfl) (by kernel_rfl) (fun _ _ _ h => h) (Or.inl ⟨?wz49, ?yz49⟩) (by assumption) ?rz49
                    case yz49 => (intro w hSw; (try dsimp only at hSw); go_simp; try with_reducible rfl)
                    case wz49 => rfl
                    case' rz49 => simp only [Act.put, List.getElem_toArray, List.getElem_cons_zero, List.getElem_cons_succ, List.setIfInBounds_toArray, List.set_cons_zero, List.set_cons_succ]
                    refine wpAnyH_take (i := 4) (v := ?vz50) rfl (by kernel_rfl) (by kernel_rfl) (by kernel_rfl) (fun _ _ _ h => h) (Or.inl ⟨?wz50, ?yz50⟩) (by assumption) ?rz50
                    case yz50 => (intro w hSw; (try dsimp only at hSw); go_simp; try with_reducible rfl)
                    case wz50 => rfl
                    case' rz50 => simp only [Act.put, List.getElem_toArray, List.getElem_cons_zero, List.getElem_cons_succ, List.setIfInBounds_toArray, List.set_cons_zero, List.set_cons_succ]
                    refine wpAnyH_take (i := 5) (v := ?vz51) rfl (by kernel_rfl) (by kernel_rfl) (by kernel_rfl) (fun _ _ _ h => h) (Or.inl ⟨?wz51, ?yz51⟩) (by assumption) ?rz51
                    case yz51 => (intro w hSw; (try dsimp only at hSw); go_simp; try with_reducible rfl)
                    case wz51 => rfl
                    case' rz51 => simp only [Act.put, List.getElem_toArray, List.getElem_cons_zero, List.getElem_cons_succ, List.setIfInBounds_toArray, List.set_cons_zero, List.set_cons_succ]
                    refine wpAnyH_take (i := 6) (v := ?vz52) rfl (by kernel_rfl) (by kernel_rfl) (by kernel_rfl) (fun _ _ _ h => h) (Or.inl ⟨?wz52, ?yz52⟩) (by assumption) ?rz52
                    case yz52 => (intro w hSw; (try dsimp only at hSw); go_simp; try with_reducible rfl)
                    case wz52 => rfl
                    case' rz52 => simp only [Act.put, List.getElem_toArray, List.getElem_cons_zero, List.getElem_cons_succ, List.setIfInBounds_toArray, List.set_cons_zero, List.set_cons_succ]
                    refine wpAnyH_take (i := 7) (v := ?vz53) rfl (by kernel_rfl) (by kernel_rfl) (by kernel_rfl) (fun _ _ _ h => h) (Or.inl ⟨?wz53, ?yz53⟩) (by assumption) ?rz53
                    case yz53 => (intro w hSw; (try dsimp only at hSw); go_simp; try with_reducible rfl)
                    case wz53 => rfl
                    case' rz53 => simp only [Act.put, List.getElem_toArray, List.getElem_cons_zero, List.getElem_cons_succ, List.setIfInBounds_toArray, List.set_cons_zero, List.set_cons_succ]
                    refine wpAnyH_take (i := 8) (v := ?vz54) rfl (by kernel_rfl) (by kernel_rfl) (by kernel_rfl) (fun _ _ _ h => h) (Or.inl ⟨?wz54, ?yz54⟩) (by assumption) ?rz54
                    case yz54 => (intro w hSw; (try dsimp only at hSw); go_simp; try with_reducible rfl)
                    case wz54 => rfl
                    case' rz54 => simp only [Act.put, List.getElem_toArray, List.getElem_cons_zero, List.getElem_cons_succ, List.setIfInBounds_toArray, List.set_cons_zero, List.set_cons_succ]
                    refine wpAnyH_take (i := 9) (v := ?vz55) rfl (by kernel_rfl) (by kernel_rfl) (by kernel_rfl) (fun _ _ _ h => h) (Or.inl ⟨?wz55, ?yz55⟩) (by assumption) ?rz55
                    case yz55 => (intro w hSw; (try dsimp only at hSw); go_simp; try with_reducible rfl)
                    case wz55 => rfl
                    case' rz55 => simp only [Act.put, List.getElem_toArray, List.getElem_cons_zero, List.getElem_cons_succ, List.setIfInBounds_toArray, List.set_cons_zero, List.set_cons_succ]
                    refine wpAnyH_take (i := 10) (v := ?vz56) rfl (by kernel_rfl) (by kernel_rfl) (by kernel_rfl) (fun _ _ _ h => h) (Or.inl ⟨?wz56, ?yz56⟩) (by assumption) ?rz56
                    case yz56 => (intro w hSw; (try dsimp only at hSw); go_simp; try with_reducible rfl)
                    case wz56 => rfl
                    case' rz56 => simp only [Act.put, List.getElem_toArray, List.getElem_cons_zero, List.getElem_cons_succ, List.setIfInBounds_toArray, List.set_cons_zero, List.set_cons_succ]
                    refine wpAnyH_take (i := 11) (v := ?vz57) rfl (by kernel_rfl) (by kernel_rfl) (by kernel_rfl) (fun _ _ _ h => h) (Or.inl ⟨?wz57, ?yz57⟩) (by assumption) ?rz57
                    case yz57 => (intro w hSw; (try dsimp only at hSw); go_simp; try with_reducible rfl)
                    case wz57 => rfl
                    case' rz57 => simp only [Act.put, List.getElem_toArray, List.getElem_cons_zero, List.getElem_cons_succ, List.setIfInBounds_toArray, List.set_cons_zero, List.set_cons_succ]
                    refine wpAnyH_take (i := 12) (v := ?vz58) rfl (by kernel_rfl) (by kernel_rfl) (by kernel_rfl) (fun _ _ _ h => h) (Or.inl ⟨?wz58, ?yz58⟩) (by assumption) ?rz58
                    case yz58 => (intro w hSw; (try dsimp only at hSw); go_simp; try with_reducible rfl)
                    case wz58 => rfl
                    case' rz58 => simp only [Act.put, List.getElem_toArray, List.getElem_cons_zero, List.getElem_cons_succ, List.setIfInBounds_toArray, List.set_cons_zero, List.set_cons_succ]
                    refine wpAnyH_done (by kernel_rfl) ?_ _
                    go_wp2_with fail
                    go_roundw
                    case measure => simp [intOf]; omega
                    case rel => exact ⟨k + 1, dxy, by omega, by simp, rfl, Lib.hid (by rw [WA2.out]; rfl), Lib.hid KY.out.drew⟩
                · have hkaz : ¬ (k : Int) < (na : Int) := by omega
                  have hwt : was = true := by
                    rw [WA.out, List.take_of_length_le (by have := HNA.out; omega)]
                    exact YA.out
                  subst hwt
                  go_wp2_with fail
                  go_roundw
                  case measure => simp [intOf]; omega
                  case rel => exact ⟨i + 1, more, by omega, by simp, rfl, MO2, Lib.hid (KX.out.trans KY.out)⟩
        · have hibz : ¬ (i : Int) < (nb : Int) := by omega
          obtain ⟨more', was', hm1, hw1', hc1, hc2⟩ := CNT.out
          have hmm : more = more' := by
            have := MO.out
            rw [List.take_of_length_le (by have := HNB.out; omega), hc1] at this
            exact this
          have HMM := Lib.hid hmm
          have g1 : decide ((1 : Int) < (more : Int)) = false := by simp; omega
          have g1' : decide (1 < more) = false := by simp; omega
          have v1 : IntKind.i64.wrap ((na : Int) - 1) = (na : Int) - 1 := by rw [IntKind.wrap_i64]; omega
          have v2 : IntKind.i64.wrap ((na : Int) - 1 + (more : Int)) = (na : Int) - 1 + (more : Int) := by rw [IntKind.wrap_i64]; omega
          have v3 : IntKind.i64.wrap ((na : Int) + (more : Int)) = (na : Int) + (more : Int) := by rw [IntKind.wrap_i64]; omega
          have g2 : decide ((nb : Int) < (na : Int) - 1 + (more : Int)) = false := by simp; omega
          have g3 : decide ((na : Int) + (more : Int) < (nb : Int)) = false := by simp; omega
          clear hmm hc1 hc2
          go_wp2_with fail
          go_roundw
          case measure => simp [intOf]; omega
          case rel => exact ⟨t + 1, by omega, by simp, HRepH.go HR3 KX.out, KeptH.go KW KX.out⟩
    · have hltz : ¬ (t : Int) + 1 ≤ (no : Int) := by omega
      go_wp2_with fail
      go_ret
      exact ⟨rfl, KW.out⟩
end Ythmijlchonbjnaa
end Go.Proofs
