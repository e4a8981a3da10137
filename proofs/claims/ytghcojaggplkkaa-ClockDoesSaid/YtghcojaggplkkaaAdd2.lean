/-
  Add, that lets a page go, and that takes one in.
-/
import Derived.Test.YtghcojaggplkkaaAdd
set_option maxHeartbeats 1600000
namespace Go.Proofs
open Go.RowKit
namespace Ytghcojaggplkkaa
attribute [local go_sem ↓] Go.wp_at_zero Go.wp_at_succ
section
variable {w : World} {base : Nat} {L : Lay} {S : Ck}
theorem Rep.foreign (h : Rep w base L S) {b : Nat} {cs : Array Value} (hb : Blk w b 59 cs) (hn : b ∉ L.pbs) : ¬ L.foot b := by
  rintro (rfl | rfl | rfl | hr | rfl | hm)
  · exact Blk.ne_ hb h.kblk (by decide) rfl
  · exact Blk.ne_ hb h.res (by decide) rfl
  · obtain ⟨t, ht, _⟩ := h.cnt.get
    exact Blk.ne_ hb ht (by decide) rfl
  · exact h.ring.ne_ hb (by decide) hr
  · exact h.map.ne_blk hb rfl
  · exact hn hm
theorem drop_foot {L : Lay} {rv' : Value} {i c n : Nat} (hf : ({ L with rv := rv', pbs := L.pbs.eraseIdx i } : Lay).foot c) (hnew : ∀ b, rv'.ownBlock = some b → L.rv.ownBlock = some b ∨ n ≤ b) : L.foot c ∨ n ≤ c := by
  rcases hf with hf | hf | hf | hf | hf | hf
  · exact .inl (.inl hf)
  · exact .inl (.inr (.inl hf))
  · exact .inl (.inr (.inr (.inl hf)))
  · exact (hnew c hf).imp (fun h => .inr (.inr (.inr (.inl h)))) id
  · exact .inl (.inr (.inr (.inr (.inr (.inl hf)))))
  · exact .inl (.inr (.inr (.inr (.inr (.inr (List.mem_of_mem_eraseIdx hf))))))

/-- Behind 'Add' that lets go: the page at place i is gone. -/
def DropPost (w w' : World) (base : Nat) (L : Lay) (S : Ck) (i : Nat) (p : Pg) : Prop :=
  ∃ rv', Rep w' base { L with rv := rv', pbs := L.pbs.eraseIdx i } { S with tot := wrap64 (S.tot + -p.b), ring := S.ring.eraseIdx i, hand := dropHand S.ring.length S.hand i, g := S.g.on Tal.add } ∧
    (∀ b, rv'.ownBlock = some b → L.rv.ownBlock = some b ∨ w.heap.size ≤ b) ∧ Kept (fun b => ¬ L.foot b) w w'
theorem drop_close {w1 : World} {rv' : Value} {i pb : Nat} {p : Pg} {t : Tal} (h : Rep w base L S) (hp : S.ring[i]? = some p) (hpb : L.pbs[i]? = some pb) (hr : Rep w1 base { L with rv := rv', pbs := L.pbs.eraseIdx i } { S with ring := S.ring.eraseIdx i, hand := dropHand S.ring.length S.hand i })
    (hnew : ∀ b, rv'.ownBlock = some b → L.rv.ownBlock = some b ∨ w.heap.size ≤ b) (hk : Kept (fun b => b ≠ L.kb ∧ b ≠ L.mb ∧ L.rv.ownBlock ≠ some b) w w1) (ht : CntAt w1 L.rk t) (hg : S.g = none ∨ S.g = some (L.rk, t)) (hpg : Blk w1 pb 59 #[.int .i64 p.b, .bool p.m]) :
    DropPost w (((w1.setCell ⟨L.rk, 4, none⟩ (.int .i64 t.add.a)).setCell ⟨L.rb, 0, none⟩ (.int .i64 (wrap64 (S.tot + -p.b)))).setCell ⟨pb, 0, none⟩ (.int .i64 0)) base L S i p := by
  have hR := hr.totTo ht hg (wrap64 (S.tot + -p.b))
  have hn : pb ∉ L.pbs.eraseIdx i := by
    intro hm
    obtain ⟨j, hj⟩ := List.getElem?_of_mem hm
    rw [List.getElem?_eraseIdx] at hj
    split at hj
    · exact pbs_ne h.nd hpb hj (by omega) rfl
    · exact pbs_ne h.nd hpb hj (by omega) rfl
  have hf := hr.foreign hpg hn
  refine ⟨rv', hR.kept ((Kept.refl _ _).setCell (fun _ hK => hf hK) _), hnew, ?_⟩
  exact (((hk.mono fun b _ hb => ⟨fun e => hb (.inl e), fun e => hb (.inr (.inr (.inr (.inr (.inl e))))), fun e => hb (.inr (.inr (.inr (.inl e))))⟩).setCell (fun _ hn => hn (.inr (.inr (.inl rfl)))) _).setCell (fun _ hn => hn (.inr (.inl rfl))) _).setCell
    (fun _ hn => hn (.inr (.inr (.inr (.inr (.inr (List.mem_of_getElem? hpb))))))) _

theorem add_drop (h : Rep w base L S) {n : Int} {i : Nat} {p : Pg} (h1 : 1 ≤ n) (h2 : n ≤ 512) (hi : idx S.ring n = some i) (hp : S.ring[i]? = some p) (hpb0 : 0 ≤ p.b) (hpb1 : p.b ≤ 1099511627776) (hl : S.ring.length ≤ 512) (hh : S.hand ≤ 512) (hbase : base ≤ w.heap.size) :
    Calls Try.prog 8 #[.pointer (some ⟨L.kb, 0, none⟩), .int .i64 n, .int .i64 0] w fun e w' => e = .returned (.int .i64 0) ∧ DropPost w w' base L S i p := by
  have hd : decide (n < 1) = false := by simp; omega
  have hd2 : decide (512 < n) = false := by simp; omega
  have hwr2 : IntKind.i64.wrap (-p.b) = -p.b := by rw [IntKind.wrap_i64]; omega
  obtain ⟨pb, hpb, hgt, hpg⟩ := h.hitp hi hp
  have f3 : w.cell? ⟨L.kb, 3, none⟩ = some (.map (some L.mb)) := by rw [Blk.cell h.kblk]; rfl
  have hlk := lookup_hit (P := Try.prog) (w := w) Try.underlying52 Try.underlying3 h.map hgt true
  have HP := Lib.hid hp
  have HPB := Lib.hid hpb
  have HH := Lib.hid h
  have HI := Lib.hid hi
  have HPG := Lib.hid hpg
  clear hp hpb h hi hpg hgt
  go_enter Try.func8, Try.ntmps8
  go_wp2_with fail
  refine (leaves_any HH.out HI.out hl hh hbase).mono ?_
  rintro e w1 ⟨rfl, rv', hr, hnew, hk⟩
  obtain ⟨t, ht, hg⟩ := hr.cnt.get
  have hres := hr.res
  have hpg1 := HPG.out.kept hk ⟨Blk.ne_ HPG.out HH.out.kblk (by decide), fun e => HH.out.map.ne_blk HPG.out e.symm, HH.out.ring.ne_ HPG.out (by decide)⟩
  have f1 : w1.cell? ⟨L.kb, 1, none⟩ = some (.pointer (some ⟨L.rb, 0, none⟩)) := hr.kblk.cell 1
  have fp : w1.cell? ⟨pb, 0, none⟩ = some (.int .i64 p.b) := hpg1.cell 0
  have hpg2 := blk_far (blk_far hpg1 ht (by decide) 4 (.int .i64 t.add.a)) (blk_far hres ht (by decide) 4 (.int .i64 t.add.a)) (by decide) 0 (.int .i64 (wrap64 (S.tot + -p.b)))
  have HC := Lib.hid (drop_close HH.out HP.out HPB.out hr hnew hk ht hg hpg1)
  obtain ⟨w2, hw2⟩ : ∃ w2, (w1.setCell ⟨L.rk, 4, none⟩ (.int .i64 t.add.a)).setCell ⟨L.rb, 0, none⟩ (.int .i64 (wrap64 (S.tot + -p.b))) = w2 := ⟨_, rfl⟩
  rw [hw2] at hpg2 HC
  have ff : w2.cell? ⟨pb, 0, none⟩ = some (.int .i64 p.b) := hpg2.cell 0
  have ff2 : w2.frozen? ⟨pb, 0, none⟩ = false := hpg2.frozen 0
  have HW := Lib.hid hw2
  clear hw2 hr hnew hk hg hpg1 hpg2
  go_wp2_with fail
  go_region_law (first | ((try go_simp); go_at_call 22; refine (iadd_any L.rb L.rk _ S.tot _ t (by exact hres) (by exact ht)).mono ?_; rintro e w' ⟨rfl, hw'⟩; replace hw' := hw'.trans (congrArg World.drew HW.out); subst hw'))
  all_goals go_wp2_with fail
  all_goals go_ret
  all_goals exact ⟨rfl, by
    obtain ⟨rv2, a, b, c⟩ := HC.out
    exact ⟨rv2, a.drew, b, c.drew⟩⟩
/-- Behind 'Add' that takes a page in. -/
def NewPost (w w' : World) (base : Nat) (L : Lay) (S : Ck) (n b : Int) : Prop :=
  ∃ L', Rep w' base L' { S with tot := wrap64 (S.tot + b), ring := S.ring ++ [⟨n, b, true⟩], g := S.g.on Tal.add } ∧ L'.kb = L.kb ∧ (∀ c, L'.foot c → L.foot c ∨ w.heap.size ≤ c) ∧ Kept (fun b => ¬ L.foot b) w w'

theorem entries_snoc {r : List Pg} {pbs : List Nat} (h : pbs.length = r.length) (p : Pg) (b : Nat) : entries (r ++ [p]) (pbs ++ [b]) = entries r pbs ++ [(p.n, .pointer (some ⟨b, 0, none⟩))] := by
  unfold entries
  rw [List.zipWith_append h.symm]
  rfl

/-- The page has no bytes yet. -/
theorem new_rep {w5 : World} {rv' : Value} {pb : Nat} {n : Int} (h : Rep w base L S) (hb5 : Blk w5 L.kb 55 #[.int .i64 S.budget, .pointer (some ⟨L.rb, 0, none⟩), rv', .map (some L.mb), .int .i64 S.hand])
    (hrow : Row1 w5 base 3 rv' ((S.ring.map fun p => .int .i64 p.n) ++ [.int .i64 n])) (hmap : MapIs w5 L.mb (entries S.ring L.pbs ++ [(n, .pointer (some ⟨pb, 0, none⟩))])) (hpg : Blk w5 pb 59 #[.int .i64 0, .bool true]) (hpb : w.heap.size ≤ pb) (hbase : base ≤ w.heap.size)
    (hk : Kept (fun b => b ≠ L.kb ∧ b ≠ L.mb ∧ L.rv.ownBlock ≠ some b) w w5) : Rep w5 base { L with rv := rv', pbs := L.pbs ++ [pb] } { S with ring := S.ring ++ [⟨n, 0, true⟩] } := by
  have ne : ∀ {b t cs}, Blk w b t cs → t ≠ 55 → t ≠ 3 → b ≠ L.kb ∧ b ≠ L.mb ∧ L.rv.ownBlock ≠ some b := fun hb h1 h2 => ⟨Blk.ne_ hb h.kblk h1, fun e => h.map.ne_blk hb e.symm, h.ring.ne_ hb (Ne.symm h2)⟩
  exact {
    kblk := hb5
    res := Blk.kept h.res hk (ne h.res (by decide) (by decide))
    ring := by
      show Row1 _ _ _ _ ((S.ring ++ [(⟨n, 0, true⟩ : Pg)]).map fun p => .int .i64 p.n)
      rw [List.map_append]
      exact hrow
    map := by
      show MapIs _ _ (entries (S.ring ++ [(⟨n, 0, true⟩ : Pg)]) (L.pbs ++ [pb]))
      rw [entries_snoc h.lp]
      exact hmap
    pages := fun j p b hp hb => by
      by_cases hj : j < S.ring.length
      · rw [List.getElem?_append_left hj] at hp
        rw [List.getElem?_append_left (by rw [h.lp]; exact hj)] at hb
        have := h.pages j p b hp hb
        exact this.kept hk (ne this (by decide) (by decide))
      · rw [List.getElem?_append_right (by omega)] at hp
        rw [List.getElem?_append_right (by rw [h.lp]; omega)] at hb
        have e1 := List.mem_of_getElem? hp
        have e2 := List.mem_of_getElem? hb
        rw [List.mem_singleton] at e1 e2
        subst e1 e2
        exact hpg
    nd := by
      show (L.pbs ++ [pb]).Nodup
      rw [List.nodup_append]
      refine ⟨h.nd, by simp, fun a ha b hb => ?_⟩
      rw [List.mem_singleton] at hb
      subst hb
      have := h.foot_lt a (.inr (.inr (.inr (.inr (.inr ha)))))
      omega
    lp := by simp [h.lp]
    cnt := by
      obtain ⟨t, ht, _⟩ := h.cnt.get
      exact h.cnt.kept hk (ne ht (by decide) (by decide))
    low := fun b hb => by
      rcases hb with rfl | rfl | rfl | hb | rfl | hb
      · exact h.low _ (.inl rfl)
      · exact h.low _ (.inr (.inl rfl))
      · exact h.low _ (.inr (.inr (.inl rfl)))
      · exact (hrow.lt hb).2
      · exact h.low _ (.inr (.inr (.inr (.inr (.inl rfl)))))
      · rcases List.mem_append.1 hb with hb | hb
        · exact h.low _ (.inr (.inr (.inr (.inr (.inr hb)))))
        · rw [List.mem_singleton] at hb
          omega }

theorem add_new (h : Rep w base L S) {n b : Int} (h1 : 1 ≤ n) (h2 : n ≤ 512) (h3 : 1 ≤ b) (h4 : b ≤ 1099511627776) (hi : idx S.ring n = none) (hl : S.ring.length ≤ 512) (hbase : base ≤ w.heap.size) :
    Calls Try.prog 8 #[.pointer (some ⟨L.kb, 0, none⟩), .int .i64 n, .int .i64 b] w fun e w' => e = .returned (.int .i64 0) ∧ NewPost w w' base L S n b := by
  have hd : decide (n < 1) = false := by simp; omega
  have hd2 : decide (512 < n) = false := by simp; omega
  have hd3 : decide (b < 0) = false := by simp; omega
  have hd4 : decide (1099511627776 < b) = false := by simp; omega
  have hd5 : (b == 0) = false := by simp; omega
  have hwr : IntKind.i64.wrap b = b := by rw [IntKind.wrap_i64]; omega
  obtain ⟨i0, hi0, hz0, hz1, hz2⟩ := info_parts Try.info3
  have f3 : w.cell? ⟨L.kb, 3, none⟩ = some (.map (some L.mb)) := by rw [Blk.cell h.kblk]; rfl
  have hlk := lookup_miss (P := Try.prog) (w := w) (z := .pointer none) Try.underlying52 Try.underlying3 rfl h.map (h.miss hi) true
  have hm1 : MapIs (w.alloc (.cells #[.int .i64 0, .bool true] 59)) L.mb (entries S.ring L.pbs) := h.map.kept (K := fun _ => True) ((Kept.refl _ w).alloc _) trivial
  obtain ⟨w2, hst, hm2, hk2⟩ := store_new (P := Try.prog) Try.underlying52 Try.underlying3 hm1 (.pointer (some ⟨w.heap.size, 0, none⟩)) (h.miss hi)
  have f13 : (w.alloc (.cells #[.int .i64 0, .bool true] 59)).cell? ⟨L.kb, 3, none⟩ = some (.map (some L.mb)) := (h.kblk.alloc _).cell 3
  have hkm : L.kb ≠ L.mb := fun e => h.map.ne_blk h.kblk e.symm
  have hrm : L.rv.ownBlock ≠ some L.mb := fun e => by
    obtain ⟨cs, hcs⟩ := h.ring.blk e
    exact h.map.ne_blk hcs rfl
  have hw2 : Kept (fun c => c ≠ L.mb) w w2 := ((Kept.refl _ w).alloc _).trans hk2
  have hb2 := h.kblk.kept hw2 hkm
  have hs2 : w.heap.size + 1 ≤ w2.heap.size := by
    have := hk2.size
    rw [World.size_alloc] at this
    exact this
  have hp2 : Blk w2 w.heap.size 59 #[.int .i64 0, .bool true] := (Blk.new w 59 _).kept hk2 (fun e => by have := h.map.lt; omega)
  have q2 : w2.cell? ⟨L.kb, 2, none⟩ = some L.rv := hb2.cell 2
  have hr2 : Row1 w2 base 3 L.rv (S.ring.map fun p => .int .i64 p.n) := h.ring.kept hw2 (fun g hg e => hrm (e ▸ hg))
  have hr3 := hr2.alloc (.cells #[.int .i64 n] 3)
  have hbl : base ≤ (w2.alloc (.cells #[.int .i64 n] 3)).heap.size := by rw [World.size_alloc]; omega
  obtain ⟨g', cap', w4, hrun, hrow4, hk4, hat⟩ := run_append_row1 (P := Try.prog) (t := 53) (ty := 53) (e := 3) (i := i0) (z := .int .i64 0) (bytes := 8) Try.underlying53 hi0 hz0 hz1 hz2 (by rfl) hr3 ⟨w2.heap.size, 0, none⟩ 1 (.int .i64 n) ((Blk.new w2 3 #[.int .i64 n]).cell 0) (by simp [Value.oneCell'])
    (by simp; unfold maxLen; omega) (by simp; omega) hbl
  have hkb : L.rv.ownBlock ≠ some L.kb := h.ring.ne_ h.kblk (by decide)
  have hb4 := (hb2.alloc (.cells #[.int .i64 n] 3)).kept hk4 hkb
  have q4 : w4.cell? ⟨L.kb, 2, none⟩ = some L.rv := hb4.cell 2
  have q4f : w4.frozen? ⟨L.kb, 2, none⟩ = false := hb4.frozen 2
  rw [List.length_map] at hrun hrow4
  have hb5 := hb4.set_ 2 (.slice (some ⟨g', 0, none⟩) (S.ring.length + 1) cap')
  have hg'k : g' ≠ L.kb := fun e => by
    rcases hat with hat | hat
    · exact hkb (e ▸ hat)
    · have := hb2.lt
      rw [World.size_alloc] at hat
      omega
  have hrow5 := hrow4.kept (K := fun c => c ≠ L.kb) ((Kept.refl _ w4).setCell (p := ⟨L.kb, 2, none⟩) (fun _ hn => hn rfl) (.slice (some ⟨g', 0, none⟩) (S.ring.length + 1) cap')) (fun c hc => by
    have : g' = c := by simpa [Value.ownBlock] using hc
    exact this ▸ hg'k)
  have hpn : w.heap.size ≠ L.kb := fun e => by have := h.kblk.lt; omega
  have hpr : L.rv.ownBlock ≠ some w.heap.size := fun e => by have := (h.ring.lt e).1; omega
  have hp4 := (hp2.alloc (.cells #[.int .i64 n] 3)).kept hk4 hpr
  have hp5 := hp4.far (p := ⟨L.kb, 2, none⟩) hpn (.slice (some ⟨g', 0, none⟩) (S.ring.length + 1) cap')
  have hm5 : MapIs (w4.setCell ⟨L.kb, 2, none⟩ (.slice (some ⟨g', 0, none⟩) (S.ring.length + 1) cap')) L.mb (entries S.ring L.pbs ++ [(n, .pointer (some ⟨w.heap.size, 0, none⟩))]) :=
    ((hm2.kept (K := fun _ => True) ((Kept.refl _ w2).alloc _) trivial).kept hk4 hrm).kept (K := fun c => c ≠ L.kb) ((Kept.refl _ w4).setCell (p := ⟨L.kb, 2, none⟩) (fun _ hn => hn rfl) _) (Ne.symm hkm)
  have hk5 : Kept (fun b => b ≠ L.kb ∧ b ≠ L.mb ∧ L.rv.ownBlock ≠ some b) w (w4.setCell ⟨L.kb, 2, none⟩ (.slice (some ⟨g', 0, none⟩) (S.ring.length + 1) cap')) :=
    (((hw2.mono fun _ _ hK => hK.2.1).alloc _).trans' hk4 fun _ _ hK => hK.2.2).setCell (fun _ hK => hK.1 rfl) _
  have hR5 := new_rep h hb5 hrow5 hm5 hp5 (Nat.le_refl _) hbase hk5
  obtain ⟨w5, hw5⟩ : ∃ w5, w4.setCell ⟨L.kb, 2, none⟩ (.slice (some ⟨g', 0, none⟩) (S.ring.length + 1) cap') = w5 := ⟨_, rfl⟩
  rw [hw5] at hR5 hk5 hp5
  obtain ⟨t, ht, hg⟩ := hR5.cnt.get
  have hR6 := hR5.totTo ht hg (wrap64 (S.tot + b))
  have hidx : (S.ring ++ [(⟨n, 0, true⟩ : Pg)])[S.ring.length]? = some ⟨n, 0, true⟩ := by simp
  have hidb : (L.pbs ++ [w.heap.size])[S.ring.length]? = some w.heap.size := by rw [← h.lp]; simp
  have hR7 := hR6.setPage (p' := (⟨n, b, true⟩ : Pg)) hidx hidb 0 (.int .i64 b) rfl rfl
  have e7 : (S.ring ++ [(⟨n, 0, true⟩ : Pg)]).set S.ring.length ⟨n, b, true⟩ = S.ring ++ [⟨n, b, true⟩] := by simp
  have hp6 := hR6.pages _ _ _ hidx hidb
  have hpost : NewPost w (((w5.setCell ⟨L.rk, 4, none⟩ (.int .i64 t.add.a)).setCell ⟨L.rb, 0, none⟩ (.int .i64 (wrap64 (S.tot + b)))).setCell ⟨w.heap.size, 0, none⟩ (.int .i64 b)) base L S n b := by
    refine ⟨{ L with rv := .slice (some ⟨g', 0, none⟩) (S.ring.length + 1) cap', pbs := L.pbs ++ [w.heap.size] }, e7 ▸ hR7, rfl, ?_, ?_⟩
    · rintro c (hc | hc | hc | hc | hc | hc)
      · exact .inl (.inl hc)
      · exact .inl (.inr (.inl hc))
      · exact .inl (.inr (.inr (.inl hc)))
      · have : g' = c := by simpa [Value.ownBlock] using hc
        subst this
        rcases hat with hat | hat
        · exact .inl (.inr (.inr (.inr (.inl hat))))
        · rw [World.size_alloc] at hat
          exact .inr (by omega)
      · exact .inl (.inr (.inr (.inr (.inr (.inl hc)))))
      · rcases List.mem_append.1 hc with hc | hc
        · exact .inl (.inr (.inr (.inr (.inr (.inr hc)))))
        · rw [List.mem_singleton] at hc
          exact .inr (by omega)
    · exact (((hk5.mono fun b _ hb => ⟨fun e => hb (.inl e), fun e => hb (.inr (.inr (.inr (.inr (.inl e))))), fun e => hb (.inr (.inr (.inr (.inl e))))⟩).setCell (fun _ hn => hn (.inr (.inr (.inl rfl)))) _).setCell (fun _ hn => hn (.inr (.inl rfl))) _).setCell
        (fun hlt _ => absurd hlt (Nat.lt_irrefl _)) _
  have r1 : w5.cell? ⟨L.kb, 1, none⟩ = some (.pointer (some ⟨L.rb, 0, none⟩)) := hR5.kblk.cell 1
  have r0 : w5.cell? ⟨w.heap.size, 0, none⟩ = some (.int .i64 0) := hp5.cell 0
  have hres := hR5.res
  obtain ⟨w6, hw6⟩ : ∃ w6, (w5.setCell ⟨L.rk, 4, none⟩ (.int .i64 t.add.a)).setCell ⟨L.rb, 0, none⟩ (.int .i64 (wrap64 (S.tot + b))) = w6 := ⟨_, rfl⟩
  rw [hw6] at hpost
  rw [hw6] at hp6
  have ff : w6.cell? ⟨w.heap.size, 0, none⟩ = some (.int .i64 0) := hp6.cell 0
  have ff2 : w6.frozen? ⟨w.heap.size, 0, none⟩ = false := hp6.frozen 0
  have HRUN := Lib.hid hrun
  have HC := Lib.hid hpost
  have HW := Lib.hid hw6
  have HW5 := Lib.hid hw5
  clear hpost hw6 hw5 hg hR5 hR6 hR7 hp6 hp5 hk5 hm5 hrow5 hrow4 hk4 hat hb4 hb5 hp4 hp2 hb2 hr2 hr3 hm1 hm2 hw2 h hk2 hkm hrm hkb hg'k hpn hpr e7 hidx hidb hs2 hi hrun
  go_enter Try.func8, Try.ntmps8
  go_wp2_with (at_builtin; refine wpList_append_run (by rfl) (.tmp 54) (.tmp 56) 53 (by rfl) (by rfl) (by rfl) HRUN.out ?_)
  rw [HW5.out]
  go_region_law (first | ((try go_simp); go_at_call 22; refine (iadd_any L.rb L.rk _ S.tot _ t (by exact hres) (by exact ht)).mono ?_; rintro e w' ⟨rfl, hw'⟩; replace hw' := hw'.trans (congrArg World.drew HW.out); subst hw'))
  all_goals go_wp2_with fail
  all_goals go_ret
  all_goals exact ⟨rfl, by
    obtain ⟨L2, a, b, c, d⟩ := HC.out
    exact ⟨L2, a.drew, b, c, d.drew⟩⟩
end
end Ytghcojaggplkkaa
end Go.Proofs
