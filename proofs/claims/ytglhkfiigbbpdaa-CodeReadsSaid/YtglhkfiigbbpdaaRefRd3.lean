/-
  The reference's reader: Bytes.
-/
import Derived.Test.YtglhkfiigbbpdaaRefRd2
set_option maxHeartbeats 2000000
set_option maxRecDepth 100000
namespace Go.Proofs
open Go.RowKit
namespace Ytglhkfiigbbpdaa
attribute [local go_sem ↓] Go.wp_at_zero Go.wp_at_succ
section
variable {w w' : World} {base qb : Nat} {v : Value} {L : List UInt8} {at_ : Nat} {e : Int}
theorem bytesQ_any (h : QRd w base qb v L at_ e) (many : Int) (hmany : many ≤ 9223372036854775807) :
    Calls Try.prog 20 #[.pointer (some ⟨qb, 0, none⟩), .int .i64 many] w fun r w' => ∃ v', r = .returned v' ∧ Row1 w' w.heap.size 5 v' (bc (rbytes (L.drop at_) e many).1) ∧
      (∃ a2, L.drop a2 = (rbytes (L.drop at_) e many).2.1 ∧ QRd w' base qb v L a2 (rbytes (L.drop at_) e many).2.2) ∧ Kept (fun b => ¬ wfoot qb v b) w w' := by
  have HH := Lib.hid h
  have c0 : w.cell? ⟨qb, 0, none⟩ = some v := h.blk.cell 0
  have c1 : w.cell? ⟨qb, 1, none⟩ = some (.int .i64 (at_ : Int)) := h.blk.cell 1
  have c2 : w.cell? ⟨qb, 2, none⟩ = some (.int .i64 e) := h.blk.cell 2
  have f1 : w.frozen? ⟨qb, 1, none⟩ = false := h.blk.frozen 1
  have f2 : w.frozen? ⟨qb, 2, none⟩ = false := h.blk.frozen 2
  have hle := h.le
  have hlen := h.len
  obtain ⟨A, c, rfl⟩ := h.row.form
  rw [bc_length] at c0 HH ⊢
  clear h
  by_cases he : e = 0
  · subst he
    obtain ⟨M, hM⟩ : ∃ M, many.toNat = M := ⟨_, rfl⟩
    obtain ⟨⟨n, sz, er⟩, hp⟩ : ∃ p, number M (L.drop at_) = p := ⟨_, rfl⟩
    have hok := number_ok M (L.drop at_)
    rw [hp] at hok
    have hsz := hok.size
    simp only [List.length_drop] at hsz
    have hnM : n ≤ M := hok.val
    have hM63 : M ≤ 9223372036854775807 := by omega
    have RB : Hid (rbytes (L.drop at_) 0 many = if er ≠ 0 then ([], L.drop at_, er) else if L.length - at_ - sz < n then ([], L.drop at_, 10) else ((L.drop (at_ + sz)).take n, L.drop (at_ + sz + n), 0)) := Lib.hid (by
      unfold rbytes
      rw [if_neg (by simp), hM, hp, List.length_drop]
      simp only
      by_cases h1 : er ≠ 0
      · rw [if_pos h1, if_pos h1]
      · rw [if_neg h1, if_neg h1]
        by_cases h2 : L.length - at_ - sz < n
        · rw [if_pos h2, if_pos h2]
        · rw [if_neg h2, if_neg h2]
          unfold rraw
          rw [if_neg (by simp), if_neg (by omega), if_neg (by simp only [List.length_drop]; omega)]
          simp only [List.drop_drop, Int.toNat_natCast])
    have HP := Lib.hid hp
    have hrd : Rd w (.slice A L.length c) L := HH.out.row.rd
    have hlc : L.length ≤ c := by
      obtain ⟨_, _, hv, hlc, _⟩ := hrd
      injection hv with _ _ h3
      rw [h3]
      exact hlc
    have ha1 : 0 ≤ (at_ : Int) ∧ (at_ : Int) ≤ (L.length : Int) := by omega
    have hr8 := (hrd.from hle).drew
    obtain ⟨v8, hv8⟩ : ∃ v8, sliced A at_ L.length c 1 = v8 := ⟨_, rfl⟩
    rw [hv8] at hr8
    have HV8 := Lib.hid hv8
    have HR8 := Lib.hid hr8
    have HRD := Lib.hid hrd
    have HM := Lib.hid hM
    clear hp hok hrd hv8 hr8 hM
    go_enter Try.func20, Try.ntmps20
    go_upto_if 15 with fail
    go_cut [1] (fun x wx => x = .int .i64 (M : Int) ∧ wx = w)
    case first =>
      by_cases hm : many < 0
      · have hd : decide (many < 0) = true := by simp; omega
        have e0 : Hid (M = 0) := Lib.hid (by have := HM.out; omega)
        go_wp2_with fail
        go_meet
        case rel => exact ⟨by rw [e0.out]; rfl, rfl⟩
      · have hd : decide (many < 0) = false := by simp; omega
        have e0 : Hid ((M : Int) = many) := Lib.hid (by have := HM.out; omega)
        go_wp2_with fail
        go_meet
        case rel => exact ⟨by rw [e0.out], rfl⟩
    case rest =>
      obtain ⟨rfl, rfl⟩ := hcut
      go_upto_region 5 with fail
      go_cut [5, 6, 7] (fun x y z wx => x = .int .u64 (n : Int) ∧ y = .int .i64 (sz : Int) ∧ z = .int .i64 er ∧ wx = wc.drew)
      case first =>
        have hwu : IntKind.u64.wrap (M : Int) = (M : Int) := by rw [IntKind.wrap_u64]; omega
        refine wp_region_any (by kernel_rfl) ?_
        change wpAny _ _ _ _ 19 _ _ (World.drew _)
        refine wpAny_take (i := 0) (v := (.pointer (some ⟨qb, 0, none⟩))) rfl (by kernel_rfl) (by kernel_rfl) (by kernel_rfl) (fun _ _ _ h => h) (Or.inl ⟨rfl, fun w => ?_⟩) ?_
        · go_simp
        simp only [Act.put, List.getElem_toArray, List.getElem_cons_zero, List.setIfInBounds_toArray, List.set_cons_zero, List.set_cons_succ]
        refine wpAny_take (i := 1) (v := (.pointer (some ⟨qb, 0, none⟩))) rfl (by kernel_rfl) (by kernel_rfl) (by kernel_rfl) (fun _ _ _ h => h) (Or.inl ⟨rfl, fun w => ?_⟩) ?_
        · go_simp
        simp only [Act.put, List.getElem_toArray, List.getElem_cons_zero, List.getElem_cons_succ, List.setIfInBounds_toArray, List.set_cons_zero, List.set_cons_succ]
        refine wpAny_take (i := 2) (v := (.pointer (some ⟨qb, 0, none⟩))) rfl (by kernel_rfl) (by kernel_rfl) (by kernel_rfl) (fun _ _ _ h => h) (Or.inl ⟨rfl, fun w => ?_⟩) ?_
        · go_simp
        simp only [Act.put, List.getElem_toArray, List.getElem_cons_zero, List.getElem_cons_succ, List.setIfInBounds_toArray, List.set_cons_zero, List.set_cons_succ]
        refine wpAny_take (i := 4) (v := (.pointer (some ⟨qb, 0, none⟩))) rfl (by kernel_rfl) (by kernel_rfl) (by kernel_rfl) (fun _ _ _ h => h) (Or.inl ⟨rfl, fun w => ?_⟩) ?_
        · go_simp
        simp only [Act.put, List.getElem_toArray, List.getElem_cons_zero, List.getElem_cons_succ, List.setIfInBounds_toArray, List.set_cons_zero, List.set_cons_succ]
        refine wpAny_take (i := 5) (v := (.pointer (some ⟨qb, 0, none⟩))) rfl (by kernel_rfl) (by kernel_rfl) (by kernel_rfl) (fun _ _ _ h => h) (Or.inl ⟨rfl, fun w => ?_⟩) ?_
        · go_simp
        simp only [Act.put, List.getElem_toArray, List.getElem_cons_zero, List.getElem_cons_succ, List.setIfInBounds_toArray, List.set_cons_zero, List.set_cons_succ]
        refine wpAny_take (i := 6) (v := (.pointer (some ⟨qb, 1, none⟩))) rfl (by kernel_rfl) (by kernel_rfl) (by kernel_rfl) (fun _ _ _ h => h) (Or.inl ⟨rfl, fun w => ?_⟩) ?_
        · go_simp
        simp only [Act.put, List.getElem_toArray, List.getElem_cons_zero, List.getElem_cons_succ, List.setIfInBounds_toArray, List.set_cons_zero, List.set_cons_succ]
        refine wpAny_take (i := 9) (v := (.int .i64 (M : Int))) rfl (by kernel_rfl) (by kernel_rfl) (by kernel_rfl) (fun _ _ _ h => h) (Or.inl ⟨rfl, fun w => ?_⟩) ?_
        · go_simp
        simp only [Act.put, List.getElem_toArray, List.getElem_cons_zero, List.getElem_cons_succ, List.setIfInBounds_toArray, List.set_cons_zero, List.set_cons_succ]
        refine wpAny_take (i := 10) (v := (.int .u64 (M : Int))) rfl (by kernel_rfl) (by kernel_rfl) (by kernel_rfl) (fun _ _ _ h => h) (Or.inl ⟨rfl, fun w => ?_⟩) ?_
        · go_simp
        simp only [Act.put, List.getElem_toArray, List.getElem_cons_zero, List.getElem_cons_succ, List.setIfInBounds_toArray, List.set_cons_zero, List.set_cons_succ]
        repeat' first
          | exact AllReady.nil
          | (refine AllReady.cons rfl (fun K hK => ?_) ?_)
          | (refine wpAny_ready (rs := [3, 7]) ?rdy ?mem ?_; (case rdy => decide +kernel); (case mem => simp))
          | (refine wpAny_ready (rs := [3]) ?rdy ?mem ?_; (case rdy => decide +kernel); (case mem => simp))
          | (refine wpAny_ready (rs := [7]) ?rdy ?mem ?_; (case rdy => decide +kernel); (case mem => simp))
          | (go_simp; refine hK _ _ ?_; clear hK K)
        all_goals
          refine wpAny_take (i := 8) (v := v8) rfl (by kernel_rfl) (by kernel_rfl) (by kernel_rfl) (fun _ _ _ h => h) (Or.inl ⟨rfl, fun w => ?_⟩) ?_
          · (go_simp; rw [← HV8.out]; simp [sliced])
          simp only [Act.put, List.getElem_toArray, List.getElem_cons_zero, List.getElem_cons_succ, List.setIfInBounds_toArray, List.set_cons_zero, List.set_cons_succ]
          refine wpAny_ready (rs := [11]) (by decide +kernel) (by simp) ?_
          refine AllReady.cons rfl (fun K hK => ?_) AllReady.nil
          try go_simp
          go_at_call 31
          refine (refNumber_any _ (L.drop at_) M _ HR8.out (by rw [List.length_drop]; omega) (by omega)).mono ?_
          rintro r w' ⟨hr, hw'⟩
          rw [HP.out] at hr
          change r = .returned (.tuple #[.int .u64 (n : Int), .int .i64 (sz : Int), .int .i64 er]) at hr
          subst hr hw'
          refine hK _ _ ?_
          clear hK K
          refine wpAny_take (i := 12) (v := (.tuple #[.int .u64 (n : Int), .int .i64 (sz : Int), .int .i64 er])) rfl (by kernel_rfl) (by kernel_rfl) (by kernel_rfl) (fun _ _ _ h => h) (Or.inl ⟨rfl, fun w => ?_⟩) ?_
          · go_simp
          simp only [Act.put, List.getElem_toArray, List.getElem_cons_zero, List.getElem_cons_succ, List.setIfInBounds_toArray, List.set_cons_zero, List.set_cons_succ]
          refine wpAny_take (i := 13) (v := (.int .u64 (n : Int))) rfl (by kernel_rfl) (by kernel_rfl) (by kernel_rfl) (fun _ _ _ h => h) (Or.inl ⟨rfl, fun w => ?_⟩) ?_
          · go_simp
          simp only [Act.put, List.getElem_toArray, List.getElem_cons_zero, List.getElem_cons_succ, List.setIfInBounds_toArray, List.set_cons_zero, List.set_cons_succ]
          refine wpAny_take (i := 14) (v := (.int .i64 (sz : Int))) rfl (by kernel_rfl) (by kernel_rfl) (by kernel_rfl) (fun _ _ _ h => h) (Or.inl ⟨rfl, fun w => ?_⟩) ?_
          · go_simp
          simp only [Act.put, List.getElem_toArray, List.getElem_cons_zero, List.getElem_cons_succ, List.setIfInBounds_toArray, List.set_cons_zero, List.set_cons_succ]
          refine wpAny_take (i := 15) (v := (.int .i64 er)) rfl (by kernel_rfl) (by kernel_rfl) (by kernel_rfl) (fun _ _ _ h => h) (Or.inl ⟨rfl, fun w => ?_⟩) ?_
          · go_simp
          simp only [Act.put, List.getElem_toArray, List.getElem_cons_zero, List.getElem_cons_succ, List.setIfInBounds_toArray, List.set_cons_zero, List.set_cons_succ]
          refine wpAny_take (i := 16) (v := (.int .u64 (n : Int))) rfl (by kernel_rfl) (by kernel_rfl) (by kernel_rfl) (fun _ _ _ h => h) (Or.inl ⟨rfl, fun w => ?_⟩) ?_
          · go_simp
          simp only [Act.put, List.getElem_toArray, List.getElem_cons_zero, List.getElem_cons_succ, List.setIfInBounds_toArray, List.set_cons_zero, List.set_cons_succ]
          refine wpAny_take (i := 17) (v := (.int .i64 (sz : Int))) rfl (by kernel_rfl) (by kernel_rfl) (by kernel_rfl) (fun _ _ _ h => h) (Or.inl ⟨rfl, fun w => ?_⟩) ?_
          · go_simp
          simp only [Act.put, List.getElem_toArray, List.getElem_cons_zero, List.getElem_cons_succ, List.setIfInBounds_toArray, List.set_cons_zero, List.set_cons_succ]
          refine wpAny_take (i := 18) (v := (.int .i64 er)) rfl (by kernel_rfl) (by kernel_rfl) (by kernel_rfl) (fun _ _ _ h => h) (Or.inl ⟨rfl, fun w => ?_⟩) ?_
          · go_simp
          simp only [Act.put, List.getElem_toArray, List.getElem_cons_zero, List.getElem_cons_succ, List.setIfInBounds_toArray, List.set_cons_zero, List.set_cons_succ]
          refine wpAny_done (by decide +kernel) ?_ _
          go_wp2_with fail
          go_meet
          exact ⟨rfl, rfl, rfl, rfl⟩
      case rest =>
        obtain ⟨rfl, rfl, rfl, rfl⟩ := hcut
        clear HR8 HV8 HM
        have hwn : IntKind.i64.wrap (n : Int) = (n : Int) := by rw [IntKind.wrap_i64]; omega
        by_cases her : er = 0
        · subst her
          by_cases hbig : L.length - at_ - sz < n
          · have hd6 : decide ((L.length : Int) - (at_ : Int) - (sz : Int) < (n : Int)) = true := by simp; omega
            have E1 : Hid (rbytes (L.drop at_) 0 many = ([], L.drop at_, 10)) := Lib.hid (by rw [RB.out, if_neg (by simp), if_pos hbig])
            clear RB
            go_wp2_with go_region
            go_ret
            rw [E1.out]
            obtain ⟨h1, h2⟩ := HH.out.turn at_ 10 ((HH.out.blk.set_ 2 (.int .i64 10)).drew.drew) HH.out.le ((Kept.refl (fun b => b ≠ qb) _).setCell (fun _ hn => hn rfl) _).drew.drew
            exact ⟨_, rfl, Row1.nil _ _ _, ⟨at_, rfl, h1⟩, h2⟩
          · have hd6 : decide ((L.length : Int) - (at_ : Int) - (sz : Int) < (n : Int)) = false := by simp; omega
            have E1 : Hid (rbytes (L.drop at_) 0 many = ((L.drop (at_ + sz)).take n, L.drop (at_ + sz + n), 0)) := Lib.hid (by rw [RB.out, if_neg (by simp), if_neg hbig])
            clear RB
            go_upto_region 11 with go_region
            obtain ⟨hd2, hkd⟩ := HH.out.turn at_ 0 ((HH.out.blk.set_ 2 (.int .i64 0)).drew.drew) HH.out.le ((Kept.refl (fun b => b ≠ qb) _).setCell (fun _ hn => hn rfl) _).drew.drew
            obtain ⟨wd, hwd⟩ : ∃ wd, (wc.setCell ⟨qb, 2, none⟩ (.int .i64 0)).drew.drew = wd := ⟨_, rfl⟩
            rw [hwd] at hd2 hkd ⊢
            have hr8 := ((hd2.row.rd.sl (lo := at_ + sz) (hi := at_ + sz + n) (by omega) (by omega)).drew)
            rw [Nat.add_sub_cancel_left] at hr8
            obtain ⟨v7, hv7⟩ : ∃ v7, sliced A (at_ + sz) (at_ + sz + n) c 1 = v7 := ⟨_, rfl⟩
            rw [hv7] at hr8
            have hsw : wc.heap.size ≤ wd.drew.heap.size := hkd.size
            obtain ⟨v9, w2, hrun, hrow, hk2, hat⟩ := run_append_src (P := Try.prog) (t := 26) (ty := 26) (w := wd.drew) Try.underlying26 Try.info5 (Row1.nil wd.drew wc.heap.size 5) hr8 (by rw [List.length_take, List.length_drop, List.length_nil]; omega) hsw
            rw [List.nil_append] at hrow
            have hk3 : Kept (fun _ => True) wd w2 := ((Kept.refl _ wd).drew).trans (hk2.mono fun _ _ _ => by simp [Value.ownBlock])
            have h2 := hd2.kept (hk3.mono fun _ _ _ => trivial)
            have b0 : wd.cell? ⟨qb, 0, none⟩ = some (.slice A L.length c) := hd2.blk.cell 0
            have b1 : wd.cell? ⟨qb, 1, none⟩ = some (.int .i64 (at_ : Int)) := hd2.blk.cell 1
            have g1 : w2.cell? ⟨qb, 1, none⟩ = some (.int .i64 (at_ : Int)) := h2.blk.cell 1
            have fg1 : w2.frozen? ⟨qb, 1, none⟩ = false := h2.blk.frozen 1
            have htn : ((at_ : Int) + (sz : Int)).toNat = at_ + sz := by omega
            have htn2 : ((at_ : Int) + (sz : Int) + (n : Int)).toNat = at_ + sz + n := by omega
            have hw1 : IntKind.i64.wrap ((at_ : Int) + (sz : Int)) = (at_ : Int) + (sz : Int) := by rw [IntKind.wrap_i64]; omega
            have hw2 : IntKind.i64.wrap ((at_ : Int) + (sz : Int) + (n : Int)) = (at_ : Int) + (sz : Int) + (n : Int) := by rw [IntKind.wrap_i64]; omega
            have ha2 : 0 ≤ (at_ : Int) + (sz : Int) ∧ (at_ : Int) + (sz : Int) ≤ (at_ : Int) + (sz : Int) + (n : Int) ∧ (at_ : Int) + (sz : Int) + (n : Int) ≤ (c : Int) := by omega
            have hle2 : at_ + sz + n ≤ L.length := by omega
            have HV7 := Lib.hid hv7
            have HRUN := Lib.hid hrun
            have HROW := Lib.hid hrow
            have H2 := Lib.hid h2
            have HK3 := Lib.hid hk3
            have HKD := Lib.hid hkd
            clear c0 c1 c2 f1 f2 hwd hd2 hkd hr8 hv7 hrun hrow hk2 hat hk3 h2 hsw HH HRD
            go_cut [8] (fun x wx => x = v9 ∧ wx = w2)
            case first =>
              refine wp_region_any (by kernel_rfl) ?_
              change wpAny _ _ _ _ 22 _ _ (World.drew _)
              refine wpAny_take (i := 0) (v := (.pointer (some ⟨qb, 0, none⟩))) rfl (by kernel_rfl) (by kernel_rfl) (by kernel_rfl) (fun _ _ _ h => h) (Or.inl ⟨rfl, fun w => ?_⟩) ?_
              · go_simp
              simp only [Act.put, List.getElem_toArray, List.getElem_cons_zero, List.setIfInBounds_toArray, List.set_cons_zero, List.set_cons_succ]
              refine wpAny_take (i := 1) (v := (.pointer (some ⟨qb, 0, none⟩))) rfl (by kernel_rfl) (by kernel_rfl) (by kernel_rfl) (fun _ _ _ h => h) (Or.inl ⟨rfl, fun w => ?_⟩) ?_
              · go_simp
              simp only [Act.put, List.getElem_toArray, List.getElem_cons_zero, List.getElem_cons_succ, List.setIfInBounds_toArray, List.set_cons_zero, List.set_cons_succ]
              refine wpAny_take (i := 2) (v := (.pointer (some ⟨qb, 0, none⟩))) rfl (by kernel_rfl) (by kernel_rfl) (by kernel_rfl) (fun _ _ _ h => h) (Or.inl ⟨rfl, fun w => ?_⟩) ?_
              · go_simp
              simp only [Act.put, List.getElem_toArray, List.getElem_cons_zero, List.getElem_cons_succ, List.setIfInBounds_toArray, List.set_cons_zero, List.set_cons_succ]
              refine wpAny_take (i := 4) (v := (.pointer (some ⟨qb, 0, none⟩))) rfl (by kernel_rfl) (by kernel_rfl) (by kernel_rfl) (fun _ _ _ h => h) (Or.inl ⟨rfl, fun w => ?_⟩) ?_
              · go_simp
              simp only [Act.put, List.getElem_toArray, List.getElem_cons_zero, List.getElem_cons_succ, List.setIfInBounds_toArray, List.set_cons_zero, List.set_cons_succ]
              refine wpAny_take (i := 5) (v := (.pointer (some ⟨qb, 0, none⟩))) rfl (by kernel_rfl) (by kernel_rfl) (by kernel_rfl) (fun _ _ _ h => h) (Or.inl ⟨rfl, fun w => ?_⟩) ?_
              · go_simp
              simp only [Act.put, List.getElem_toArray, List.getElem_cons_zero, List.getElem_cons_succ, List.setIfInBounds_toArray, List.set_cons_zero, List.set_cons_succ]
              refine wpAny_take (i := 6) (v := (.pointer (some ⟨qb, 1, none⟩))) rfl (by kernel_rfl) (by kernel_rfl) (by kernel_rfl) (fun _ _ _ h => h) (Or.inl ⟨rfl, fun w => ?_⟩) ?_
              · go_simp
              simp only [Act.put, List.getElem_toArray, List.getElem_cons_zero, List.getElem_cons_succ, List.setIfInBounds_toArray, List.set_cons_zero, List.set_cons_succ]
              refine wpAny_take (i := 8) (v := (.int .i64 (sz : Int))) rfl (by kernel_rfl) (by kernel_rfl) (by kernel_rfl) (fun _ _ _ h => h) (Or.inl ⟨rfl, fun w => ?_⟩) ?_
              · go_simp
              simp only [Act.put, List.getElem_toArray, List.getElem_cons_zero, List.getElem_cons_succ, List.setIfInBounds_toArray, List.set_cons_zero, List.set_cons_succ]
              refine wpAny_take (i := 10) (v := (.pointer (some ⟨qb, 0, none⟩))) rfl (by kernel_rfl) (by kernel_rfl) (by kernel_rfl) (fun _ _ _ h => h) (Or.inl ⟨rfl, fun w => ?_⟩) ?_
              · go_simp
              simp only [Act.put, List.getElem_toArray, List.getElem_cons_zero, List.getElem_cons_succ, List.setIfInBounds_toArray, List.set_cons_zero, List.set_cons_succ]
              refine wpAny_take (i := 11) (v := (.pointer (some ⟨qb, 0, none⟩))) rfl (by kernel_rfl) (by kernel_rfl) (by kernel_rfl) (fun _ _ _ h => h) (Or.inl ⟨rfl, fun w => ?_⟩) ?_
              · go_simp
              simp only [Act.put, List.getElem_toArray, List.getElem_cons_zero, List.getElem_cons_succ, List.setIfInBounds_toArray, List.set_cons_zero, List.set_cons_succ]
              refine wpAny_take (i := 12) (v := (.pointer (some ⟨qb, 1, none⟩))) rfl (by kernel_rfl) (by kernel_rfl) (by kernel_rfl) (fun _ _ _ h => h) (Or.inl ⟨rfl, fun w => ?_⟩) ?_
              · go_simp
              simp only [Act.put, List.getElem_toArray, List.getElem_cons_zero, List.getElem_cons_succ, List.setIfInBounds_toArray, List.set_cons_zero, List.set_cons_succ]
              refine wpAny_take (i := 14) (v := (.int .i64 (sz : Int))) rfl (by kernel_rfl) (by kernel_rfl) (by kernel_rfl) (fun _ _ _ h => h) (Or.inl ⟨rfl, fun w => ?_⟩) ?_
              · go_simp
              simp only [Act.put, List.getElem_toArray, List.getElem_cons_zero, List.getElem_cons_succ, List.setIfInBounds_toArray, List.set_cons_zero, List.set_cons_succ]
              refine wpAny_take (i := 16) (v := (.int .u64 (n : Int))) rfl (by kernel_rfl) (by kernel_rfl) (by kernel_rfl) (fun _ _ _ h => h) (Or.inl ⟨rfl, fun w => ?_⟩) ?_
              · go_simp
              simp only [Act.put, List.getElem_toArray, List.getElem_cons_zero, List.getElem_cons_succ, List.setIfInBounds_toArray, List.set_cons_zero, List.set_cons_succ]
              refine wpAny_take (i := 17) (v := (.int .i64 (n : Int))) rfl (by kernel_rfl) (by kernel_rfl) (by kernel_rfl) (fun _ _ _ h => h) (Or.inl ⟨rfl, fun w => ?_⟩) ?_
              · go_simp
              simp only [Act.put, List.getElem_toArray, List.getElem_cons_zero, List.getElem_cons_succ, List.setIfInBounds_toArray, List.set_cons_zero, List.set_cons_succ]
              repeat' first
                | exact AllReady.nil
                | (refine AllReady.cons rfl (fun K hK => ?_) ?_)
                | (refine wpAny_take (i := 9) (v := (.int .i64 ((at_ : Int) + (sz : Int)))) rfl (by kernel_rfl) (by kernel_rfl) (by decide +kernel) (fun _ _ _ h => h) (Or.inl ⟨rfl, fun w => ?_⟩) ?_
                   · go_simp
                   simp only [Act.put, List.getElem_toArray, List.getElem_cons_zero, List.getElem_cons_succ, List.setIfInBounds_toArray, List.set_cons_zero, List.set_cons_succ])
                | (refine wpAny_take (i := 15) (v := (.int .i64 ((at_ : Int) + (sz : Int)))) rfl (by kernel_rfl) (by kernel_rfl) (by decide +kernel) (fun _ _ _ h => h) (Or.inl ⟨rfl, fun w => ?_⟩) ?_
                   · go_simp
                   simp only [Act.put, List.getElem_toArray, List.getElem_cons_zero, List.getElem_cons_succ, List.setIfInBounds_toArray, List.set_cons_zero, List.set_cons_succ])
                | (refine wpAny_take (i := 18) (v := (.int .i64 ((at_ : Int) + (sz : Int) + (n : Int)))) rfl (by kernel_rfl) (by kernel_rfl) (by decide +kernel) (fun _ _ _ h => h) (Or.inl ⟨rfl, fun w => ?_⟩) ?_
                   · go_simp
                   simp only [Act.put, List.getElem_toArray, List.getElem_cons_zero, List.getElem_cons_succ, List.setIfInBounds_toArray, List.set_cons_zero, List.set_cons_succ])
                | (refine wpAny_take (i := 19) (v := v7) rfl (by kernel_rfl) (by kernel_rfl) (by decide +kernel) (fun _ _ _ h => h) (Or.inl ⟨rfl, fun w => ?_⟩) ?_
                   · (go_simp; rw [← HV7.out]; simp [sliced])
                   simp only [Act.put, List.getElem_toArray, List.getElem_cons_zero, List.getElem_cons_succ, List.setIfInBounds_toArray, List.set_cons_zero, List.set_cons_succ])
                | (refine wpAny_ready (rs := [3, 7, 13]) ?rdy ?mem ?_; (case rdy => decide +kernel); (case mem => simp))
                | (refine wpAny_ready (rs := [3, 7]) ?rdy ?mem ?_; (case rdy => decide +kernel); (case mem => simp))
                | (refine wpAny_ready (rs := [3, 13]) ?rdy ?mem ?_; (case rdy => decide +kernel); (case mem => simp))
                | (refine wpAny_ready (rs := [7, 13]) ?rdy ?mem ?_; (case rdy => decide +kernel); (case mem => simp))
                | (refine wpAny_ready (rs := [3]) ?rdy ?mem ?_; (case rdy => decide +kernel); (case mem => simp))
                | (refine wpAny_ready (rs := [7]) ?rdy ?mem ?_; (case rdy => decide +kernel); (case mem => simp))
                | (refine wpAny_ready (rs := [13]) ?rdy ?mem ?_; (case rdy => decide +kernel); (case mem => simp))
                | (go_simp; refine hK _ _ ?_; clear hK K)
              all_goals
                refine wpAny_ready (rs := [20]) (by decide +kernel) (by simp) ?_
                refine AllReady.cons rfl (fun K hK => ?_) AllReady.nil
                refine step_append_run (by rfl) (.const (.slice none 0 0)) (.tmp 76) 26 (by rfl) (by rfl) (by rfl) HRUN.out ?_
                refine hK _ _ ?_
                clear hK K
                simp only [Act.put, List.getElem_toArray, List.getElem_cons_zero, List.getElem_cons_succ, List.setIfInBounds_toArray, List.set_cons_zero, List.set_cons_succ]
                refine wpAny_take (i := 21) (v := v9) rfl (by kernel_rfl) (by kernel_rfl) (by kernel_rfl) (fun _ _ _ h => h) (Or.inl ⟨rfl, fun w => ?_⟩) ?_
                · go_simp
                simp only [Act.put, List.getElem_toArray, List.getElem_cons_zero, List.getElem_cons_succ, List.setIfInBounds_toArray, List.set_cons_zero, List.set_cons_succ]
                refine wpAny_done (by decide +kernel) ?_ _
                go_wp2_with fail
                go_meet
                exact ⟨rfl, rfl⟩
            case rest =>
              obtain ⟨rfl, rfl⟩ := hcut
              go_wp2_with fail
              go_ret
              rw [E1.out]
              have hbn := H2.out.blk.set_ 1 (.int .i64 ((at_ + sz + n : Nat) : Int))
              obtain ⟨h1, h2⟩ := H2.out.turn (at_ + sz + n) 0 hbn hle2 ((Kept.refl (fun b => b ≠ qb) _).setCell (fun _ hn => hn rfl) _)
              exact ⟨_, rfl, HROW.out.far H2.out.blk (by decide) _ _, ⟨at_ + sz + n, rfl, h1⟩, (HKD.out.trans (HK3.out.mono fun _ _ _ => trivial)).trans h2⟩
        · have hde : (er == 0) = false := beq_eq_false_iff_ne.2 her
          have E1 : Hid (rbytes (L.drop at_) 0 many = ([], L.drop at_, er)) := Lib.hid (by rw [RB.out, if_pos her])
          clear her RB
          go_wp2_with go_region
          go_ret
          rw [E1.out]
          obtain ⟨h1, h2⟩ := HH.out.turn at_ er ((HH.out.blk.set_ 2 (.int .i64 er)).drew.drew) HH.out.le ((Kept.refl (fun b => b ≠ qb) _).setCell (fun _ hn => hn rfl) _).drew.drew
          exact ⟨_, rfl, Row1.nil _ _ _, ⟨at_, rfl, h1⟩, h2⟩
  · have hd : (e == 0) = false := beq_eq_false_iff_ne.2 he
    have HE := Lib.hid he
    clear he
    go_enter Try.func20, Try.ntmps20
    go_wp2_with fail
    go_ret
    have e1 : rbytes (L.drop at_) e many = ([], L.drop at_, e) := by unfold rbytes; rw [if_pos HE.out]
    rw [e1]
    exact ⟨_, rfl, Row1.nil _ _ _, ⟨at_, rfl, HH.out⟩, Kept.refl _ _⟩
end
end Ytglhkfiigbbpdaa
end Go.Proofs
