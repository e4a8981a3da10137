/-
  Add.
-/
import Derived.Test.YtghcojaggplkkaaLeaves
set_option maxHeartbeats 1600000
namespace Go.Proofs
open Go.RowKit
namespace Ytghcojaggplkkaa
attribute [local go_sem ↓] Go.wp_at_zero Go.wp_at_succ
section
variable {w : World} {base : Nat} {L : Lay} {S : Ck}
theorem add_bad (kv : Value) (n b : Int) (w : World) (h : n < 1 ∨ 512 < n ∨ b < 0 ∨ 1099511627776 < b) :
    Calls Try.prog 8 #[kv, .int .i64 n, .int .i64 b] w fun e w' => e = .returned (.int .i64 1) ∧ w = w' := by
  by_cases h1 : n < 1
  · have hd : decide (n < 1) = true := by simp; omega
    go_enter Try.func8, Try.ntmps8
    go_wp2
    go_ret
    exact ⟨rfl, rfl⟩
  by_cases h2 : 512 < n
  · have hd : decide (n < 1) = false := by simp; omega
    have hd2 : decide (512 < n) = true := by simp; omega
    go_enter Try.func8, Try.ntmps8
    go_wp2
    go_ret
    exact ⟨rfl, rfl⟩
  by_cases h3 : b < 0
  · have hd : decide (n < 1) = false := by simp; omega
    have hd2 : decide (512 < n) = false := by simp; omega
    have hd3 : decide (b < 0) = true := by simp; omega
    go_enter Try.func8, Try.ntmps8
    go_wp2
    go_ret
    exact ⟨rfl, rfl⟩
  have hd : decide (n < 1) = false := by simp; omega
  have hd2 : decide (512 < n) = false := by simp; omega
  have hd3 : decide (b < 0) = false := by simp; omega
  have hd4 : decide (1099511627776 < b) = true := by simp; omega
  go_enter Try.func8, Try.ntmps8
  go_wp2
  go_ret
  exact ⟨rfl, rfl⟩

theorem add_none (h : Rep w base L S) {n : Int} (h1 : 1 ≤ n) (h2 : n ≤ 512) (hi : idx S.ring n = none) :
    Calls Try.prog 8 #[.pointer (some ⟨L.kb, 0, none⟩), .int .i64 n, .int .i64 0] w fun e w' => e = .returned (.int .i64 0) ∧ w = w' := by
  have hd : decide (n < 1) = false := by simp; omega
  have hd2 : decide (512 < n) = false := by simp; omega
  have f3 : w.cell? ⟨L.kb, 3, none⟩ = some (.map (some L.mb)) := by rw [Blk.cell h.kblk]; rfl
  have hlk := lookup_miss (P := Try.prog) (w := w) (z := .pointer none) Try.underlying52 Try.underlying3 rfl h.map (h.miss hi) true
  go_enter Try.func8, Try.ntmps8
  go_wp2
  go_ret
  exact ⟨rfl, rfl⟩

/-- What there is, is another number; an access is counted. -/
theorem Rep.totTo (h : Rep w base L S) {t : Tal} (ht : CntAt w L.rk t) (hg : S.g = none ∨ S.g = some (L.rk, t)) (v : Int) :
    Rep ((w.setCell ⟨L.rk, 4, none⟩ (.int .i64 t.add.a)).setCell ⟨L.rb, 0, none⟩ (.int .i64 v)) base L { S with tot := v, g := S.g.on Tal.add } := by
  have h1 := h.count Tal.add ht hg (i := 4) (u := .int .i64 t.add.a) rfl
  exact {
    kblk := blk_far h1.kblk h1.res (by decide) _ _
    res := Blk.set_ h1.res 0 (.int .i64 v)
    ring := h1.ring.far h1.res (by decide) _ _
    map := h1.map.kept (K := fun c => c ≠ L.rb) ((Kept.refl _ _).setCell (fun _ hn => hn rfl) _) (h1.map.ne_blk h1.res)
    pages := fun j p b hp hb => blk_far (h1.pages j p b hp hb) h1.res (by decide) _ _
    nd := h1.nd
    lp := h1.lp
    cnt := by
      obtain ⟨t1, ht1, _⟩ := h1.cnt.get
      exact h1.cnt.kept (K := fun c => c ≠ L.rb) ((Kept.refl _ _).setCell (fun _ hn => hn rfl) _) (Blk.ne_ ht1 h1.res (by decide))
    low := h1.low }
theorem pbs_ne (hnd : L.pbs.Nodup) {i j b b' : Nat} (hi : L.pbs[i]? = some b) (hj : L.pbs[j]? = some b') (hij : i ≠ j) : b ≠ b' := by
  rintro rfl
  exact hij ((List.getElem?_inj (List.getElem?_eq_some_iff.1 hi).1 hnd).1 (hi.trans hj.symm))
/-- A page of the ring is turned. -/
theorem Rep.setPage (h : Rep w base L S) {i b : Nat} {p : Pg} (p' : Pg) (hp : S.ring[i]? = some p) (hb : L.pbs[i]? = some b) (j : Nat) (u : Value) (hn : p'.n = p.n) (hu : (#[.int .i64 p.b, .bool p.m] : Array Value).setIfInBounds j u = #[.int .i64 p'.b, .bool p'.m]) :
    Rep (w.setCell ⟨b, j, none⟩ u) base L { S with ring := S.ring.set i p' } := by
  have hpg := h.pages i p b hp hb
  have hil := (List.getElem?_eq_some_iff.1 hp).1
  have hpe : S.ring[i] = p := (List.getElem?_eq_some_iff.1 hp).2
  have hmap : (S.ring.set i p').map (·.n) = S.ring.map (·.n) := by
    rw [List.map_set, hn]
    apply List.ext_getElem? fun k => ?_
    rw [List.getElem?_set]
    split
    · next e =>
      subst e
      simp [hil, hpe]
    · rfl
  exact {
    kblk := blk_far h.kblk hpg (by decide) _ _
    res := blk_far h.res hpg (by decide) _ _
    ring := by
      have := h.ring.far hpg (by decide) j u
      have e : ∀ l : List Pg, (l.map fun p => Value.int .i64 p.n) = (l.map (·.n)).map (.int .i64 ·) := fun l => by simp
      rw [e] at this ⊢
      show Row1 _ base 3 L.rv (((S.ring.set i p').map (·.n)).map (.int .i64 ·))
      rw [hmap]
      exact this
    map := by
      have hm : MapIs (w.setCell ⟨b, j, none⟩ u) L.mb (entries S.ring L.pbs) := h.map.kept (K := fun c => c ≠ b) ((Kept.refl _ w).setCell (fun _ hn => hn rfl) _) (h.map.ne_blk hpg)
      have e : entries (S.ring.set i p') L.pbs = entries S.ring L.pbs := by
        apply List.ext_getElem? fun k => ?_
        simp only [entries, List.getElem?_zipWith]
        by_cases e : i = k
        · subst e
          rw [List.getElem?_set_self hil, hp, hb]
          simp [hn]
        · rw [List.getElem?_set_ne e]
      show MapIs _ _ (entries (S.ring.set i p') L.pbs)
      rw [e]
      exact hm
    pages := fun k q c hq hc => by
      rw [List.getElem?_set] at hq
      split at hq
      · next e =>
        subst e
        injection hq with hq
        subst hq
        rw [hb] at hc
        injection hc with hc
        subst hc
        have := hpg.set_ j u
        rw [hu] at this
        exact this
      · next e => exact (h.pages k q c hq hc).far (p := ⟨b, j, none⟩) (pbs_ne h.nd hc hb (Ne.symm e)) u
    nd := h.nd
    lp := by simp [h.lp]
    cnt := by
      obtain ⟨t1, ht1, _⟩ := h.cnt.get
      exact h.cnt.kept (K := fun c => c ≠ b) ((Kept.refl _ _).setCell (fun _ hn => hn rfl) _) (Blk.ne_ ht1 hpg (by decide))
    low := h.low }
theorem idx_get {r : List Pg} {n : Int} {i : Nat} (h : idx r n = some i) : ∃ p, r[i]? = some p ∧ p.n = n := by
  obtain ⟨hi, hpi, _⟩ := List.findIdx?_eq_some_iff_getElem.1 h
  exact ⟨r[i], List.getElem?_eq_getElem hi, (beq_iff_eq.1 hpi).symm⟩
theorem Rep.hitp (h : Rep w base L S) {n : Int} {i : Nat} {p : Pg} (hn : idx S.ring n = some i) (hp : S.ring[i]? = some p) : ∃ b, L.pbs[i]? = some b ∧ getAt (entries S.ring L.pbs) n = some (.pointer (some ⟨b, 0, none⟩)) ∧ Blk w b 59 #[.int .i64 p.b, .bool p.m] := by
  obtain ⟨p', b, hp', _, hb, hg, hpg⟩ := h.hit hn
  rw [hp] at hp'
  cases hp'
  exact ⟨b, hb, hg, hpg⟩

theorem add_upd (h : Rep w base L S) {n b : Int} {i : Nat} {p : Pg} (h1 : 1 ≤ n) (h2 : n ≤ 512) (h3 : 1 ≤ b) (h4 : b ≤ 1099511627776) (hi : idx S.ring n = some i) (hp : S.ring[i]? = some p) (hpb0 : 0 ≤ p.b) (hpb1 : p.b ≤ 1099511627776) :
    Calls Try.prog 8 #[.pointer (some ⟨L.kb, 0, none⟩), .int .i64 n, .int .i64 b] w fun e w' => e = .returned (.int .i64 0) ∧
      Rep w' base L { S with tot := wrap64 (S.tot + (b - p.b)), ring := S.ring.set i { p with b := b }, g := S.g.on Tal.add } ∧ Kept (fun b => ¬ L.foot b) w w' := by
  have hd : decide (n < 1) = false := by simp; omega
  have hd2 : decide (512 < n) = false := by simp; omega
  have hd3 : decide (b < 0) = false := by simp; omega
  have hd4 : decide (1099511627776 < b) = false := by simp; omega
  have hd5 : (b == 0) = false := by simp; omega
  have hwr : IntKind.i64.wrap (b - p.b) = b - p.b := by rw [IntKind.wrap_i64]; omega
  obtain ⟨pb, hpb, hgt, hpg⟩ := h.hitp hi hp
  have f3 : w.cell? ⟨L.kb, 3, none⟩ = some (.map (some L.mb)) := by rw [Blk.cell h.kblk]; rfl
  have f1 : w.cell? ⟨L.kb, 1, none⟩ = some (.pointer (some ⟨L.rb, 0, none⟩)) := by rw [Blk.cell h.kblk]; rfl
  have fp : w.cell? ⟨pb, 0, none⟩ = some (.int .i64 p.b) := hpg.cell 0
  have hlk := lookup_hit (P := Try.prog) (w := w) Try.underlying52 Try.underlying3 h.map hgt true
  obtain ⟨t, ht, hg⟩ := h.cnt.get
  have hres := h.res
  have hR := h.totTo ht hg (wrap64 (S.tot + (b - p.b)))
  have hR2 := hR.setPage { p with b := b } hp hpb 0 (.int .i64 b) rfl rfl
  have hpg2 := hR.pages i p pb hp hpb
  have ff : (((w.setCell ⟨L.rk, 4, none⟩ (.int .i64 t.add.a)).setCell ⟨L.rb, 0, none⟩ (.int .i64 (wrap64 (S.tot + (b - p.b)))))).cell? ⟨pb, 0, none⟩ = some (.int .i64 p.b) := hpg2.cell 0
  have ff2 : (((w.setCell ⟨L.rk, 4, none⟩ (.int .i64 t.add.a)).setCell ⟨L.rb, 0, none⟩ (.int .i64 (wrap64 (S.tot + (b - p.b)))))).frozen? ⟨pb, 0, none⟩ = false := hpg2.frozen 0
  have HR := Lib.hid hR2
  have KP : Kept (fun b => ¬ L.foot b) w (((w.setCell ⟨L.rk, 4, none⟩ (.int .i64 t.add.a)).setCell ⟨L.rb, 0, none⟩ (.int .i64 (wrap64 (S.tot + (b - p.b))))).setCell ⟨pb, 0, none⟩ (.int .i64 b)) :=
    (((Kept.refl _ w).setCell (fun _ hn => hn (.inr (.inr (.inl rfl)))) _).setCell (fun _ hn => hn (.inr (.inl rfl))) _).setCell (fun _ hn => hn (.inr (.inr (.inr (.inr (.inr (List.mem_of_getElem? hpb))))))) _
  have HK := Lib.hid KP
  obtain ⟨w1, hw1⟩ : ∃ w1, (w.setCell ⟨L.rk, 4, none⟩ (.int .i64 t.add.a)).setCell ⟨L.rb, 0, none⟩ (.int .i64 (wrap64 (S.tot + (b - p.b)))) = w1 := ⟨_, rfl⟩
  rw [hw1] at ff ff2 HR HK
  have HW := Lib.hid hw1
  have HG := Lib.hid hg
  clear hR hR2 KP h hpg hpg2 hw1 hi hp hg
  go_enter Try.func8, Try.ntmps8
  go_wp2_with fail
  go_region_law (first | ((try go_simp); go_at_call 22; refine (iadd_any L.rb L.rk _ S.tot _ t (by exact hres) (by exact ht)).mono ?_; rintro e w' ⟨rfl, hw'⟩; replace hw' := hw'.trans (congrArg World.drew HW.out); subst hw'))
  all_goals go_wp2_with fail
  all_goals go_ret
  all_goals exact ⟨rfl, HR.out.drew, HK.out.drew⟩
end
end Ytghcojaggplkkaa
end Go.Proofs
