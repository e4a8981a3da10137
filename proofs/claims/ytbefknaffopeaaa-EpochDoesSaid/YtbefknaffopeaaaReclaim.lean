/-
  Reclaim.
-/
import Derived.Test.YtbefknaffopeaaaOld
import Derived.Test.YtbefknaffopeaaaSafe
set_option maxHeartbeats 2000000
set_option maxRecDepth 100000
namespace Go.Proofs
open Go.RowKit Go.Shelf
theorem Try.info3 : (Try.prog.info? 3).map (fun i => (i.zero, i.size, i.bytes)) = some (some (.int .i64 0), 1, 8) := by kernel_rfl
theorem Try.info58' : (Try.prog.info? 58).map (fun i => (i.zero, i.size, i.bytes)) = some (some (.agg #[.int .i64 0, .int .i64 0]), 2, 16) := by kernel_rfl
namespace Ytbefknaffopeaaa
attribute [local go_sem] Oper.semAt_some
theorem keptK_b {K : Nat → Prop} {w : World} (hK : ∀ k, K k → k < w.heap.size) (W : World) (l : Nat) (o o' : Obj) (hl : w.heap.size ≤ l) (h : W.heap[l]? = some o) (_ : o.isCells = false) (_ : o.isWalk = false) : Kept K W (W.putObj l o') :=
  (Kept.refl K W).grown (grownBy_putObj' W l o') (fun k e _ hk => by cases e; have := hK l hk; omega)
theorem ownFrom_kept {β : Type} {K : Nat → Prop} {w0 : World} {B : Nat} (hK : ∀ k, K k → k < B) : OwnFrom B (fun (_ : β) W => Kept K w0 W) := fun _ W W' row hs hg hr =>
  hs.grown hg (fun k e _ hk => by have := (hr k e).1; have := hK k hk; omega)
theorem blk_own {β : Type} (b : Nat) (t : TypeId) (f : β → Array Value) : Own (fun s W => Blk W b t (f s)) := fun s W W' row hs hg hr =>
  hs.grown hg (fun e => by
    obtain ⟨o, ho, hc⟩ := hr b e.symm
    unfold Blk at hs
    rw [hs] at ho
    cases ho
    cases hc)

/-- The four blocks ahead of a loop: the slice that grows, and what the closure has captured. -/
structure Boxes (w1 W : World) (s : Nat) (t : TypeId) (eb : Nat) (q : Int) (before : Bool) : Prop where
  sz : W.heap.size = s + 4
  le : w1.heap.size ≤ s
  o : Blk W s t #[.slice none 0 0]
  e : Blk W (s + 1) 24 #[.pointer (some ⟨eb, 0, none⟩)]
  q : Blk W (s + 1 + 1) 3 #[.int .i64 q]
  b : Blk W (s + 1 + 2) 4 #[.bool before]
  k : Kept (fun _ => True) w1 W

theorem boxes_new (w1 : World) (t : TypeId) (eb : Nat) (q : Int) (before : Bool) :
    Boxes w1 ((((w1.alloc (.cells #[.slice none 0 0] t)).alloc (.cells #[.pointer (some ⟨eb, 0, none⟩)] 24)).alloc (.cells #[.int .i64 q] 3)).alloc (.cells #[.bool before] 4)) w1.heap.size t eb q before where
  sz := by simp
  le := Nat.le_refl _
  o := (((Blk.new w1 t #[.slice none 0 0]).alloc _).alloc _).alloc _
  e := by
    have := Blk.new (w1.alloc (.cells #[.slice none 0 0] t)) 24 #[.pointer (some ⟨eb, 0, none⟩)]
    rw [World.size_alloc] at this
    exact (this.alloc _).alloc _
  q := by
    have := Blk.new ((w1.alloc (.cells #[.slice none 0 0] t)).alloc (.cells #[.pointer (some ⟨eb, 0, none⟩)] 24)) 3 #[.int .i64 q]
    simp only [World.size_alloc] at this
    exact this.alloc _
  b := by
    have := Blk.new (((w1.alloc (.cells #[.slice none 0 0] t)).alloc (.cells #[.pointer (some ⟨eb, 0, none⟩)] 24)).alloc (.cells #[.int .i64 q] 3)) 4 #[.bool before]
    simp only [World.size_alloc] at this
    exact this
  k := ((((Kept.refl _ w1).alloc _).alloc _).alloc _).alloc _

/-- What a loop over the iterator leaves as it is. -/
def inKeep (s b : Nat) : Prop := b < s ∨ b = s + 1 ∨ b = s + 1 + 1 ∨ b = s + 1 + 2
theorem inKeep_lt {s b : Nat} (h : inKeep s b) : b < s + 4 := by unfold inKeep at h; omega

/-- Behind the append: what a round leaves. -/
theorem appended_kept {W w1 : World} {s : Nat} {e : TypeId} {size : Nat} {v v' : Value} {k : Nat} {xs : List Value} {tmp : Obj} (hrow : W.ownsRow (s + 4) e size v k xs)
    (hgrow : (W.alloc tmp).grownBy w1 v.ownBlock) : Kept (inKeep s) W (w1.setCell ⟨s, 0, none⟩ v') := by
  refine (((Kept.refl _ W).alloc _).grown hgrow fun k hk _ hK => ?_).setCell (fun _ hK => ?_) _
  · have := (ownsRow_lt hrow hk).2
    have := inKeep_lt hK
    omega
  · unfold inKeep at hK
    simp only at hK
    omega

theorem Rep.putObj {w : World} {base : Nat} {L : Lay} {S : St} (h : Rep w base L S) {l : Nat} {o o' : Obj} (hl : w.heap[l]? = some o) (ho : o.isCells = false) : Rep (w.putObj l o') base L S :=
  h.kept ((Kept.refl _ w).grown (grownBy_putObj' w l o') fun k e _ hf => by
    cases e
    obtain ⟨c, t, f, hc⟩ := h.foot_cells l hf
    rw [hc] at hl
    cases hl
    cases ho)
theorem waitCells_snoc' (l : List (Int × Int)) (x : Int × Int) : waitCells (l ++ [x]) = waitCells l ++ [.int .i64 x.1, .int .i64 x.2] := by simp [waitCells]

section
variable {w : World} {base : Nat} {L : Lay} {S : St}
set_option maxHeartbeats 4000000 in
theorem reclaim_any (h : Rep w base L S) (hm : S.waits.length * 16 ≤ 140737488355328) (hbase : base ≤ w.heap.size) :
    Calls Try.prog 13 #[.pointer (some ⟨L.eb, 0, none⟩)] w fun e w' => ∃ v wv', e = .returned v ∧
      w'.ownsRow w.heap.size 3 1 v (S.waits.filter (isOld (safeOf S) true)).length ((S.waits.filter (isOld (safeOf S) true)).map fun p => .int .i64 p.1) ∧
      Rep w' base { L with wv := wv' } { S with waits := S.waits.filter (isOld (safeOf S) false), g := (S.g.on Tal.load).ons L.ints.length } ∧
      (∀ b, wv'.ownBlock = some b → w.heap.size ≤ b) ∧ Kept (fun b => ¬ L.foot b) w w' := by
  obtain ⟨i3, hi3, hz30, hz31, hz32⟩ := info_parts Try.info3
  obtain ⟨i58, hi58, hz580, hz581, hz582⟩ := info_parts Try.info58'
  have hfl : ∀ b, (S.waits.filter (isOld (safeOf S) b)).length ≤ S.waits.length := fun b => List.length_filter_le _ _
  have HFL := Lib.hid hfl
  clear hfl
  refine (callsIn_wide (n := 3)).1 ?_
  refine callsIn_of_wp_marks Try.func13 rfl trivial ?_ rfl
  simp only [Try.ntmps13, List.size_toArray, List.length_cons, List.length_nil, Nat.reduceAdd, Nat.reduceSub, Array.replicate_succ, Array.replicate_zero, List.push_toArray, List.append_toArray, List.nil_append, List.cons_append]
  gi_wp2_with fail
  refine ⟨trivial, ?_⟩
  refine (callsIn_wide.2 (safe_any h)).mono ?_
  rintro e w1 ⟨rfl, hr1, hk1⟩
  gi_wp2_with fail
  refine ⟨trivial, ?_⟩
  refine (callsIn_wide.2 (old_any _ _ _ _)).mono ?_
  rintro e w' ⟨rfl, rfl⟩
  gi_wp2_with fail
  have hbx := boxes_new w1 34 L.eb (safeOf S) true
  obtain ⟨W0, hW0⟩ : ∃ W0, (((w1.alloc (.cells #[.slice none 0 0] 34)).alloc (.cells #[.pointer (some ⟨L.eb, 0, none⟩)] 24)).alloc (.cells #[.int .i64 (safeOf S)] 3)).alloc (.cells #[.bool true] 4) = W0 := ⟨_, rfl⟩
  rw [hW0] at hbx ⊢
  clear hW0
  obtain ⟨s, hs⟩ : ∃ s, w1.heap.size = s := ⟨_, rfl⟩
  rw [hs] at hbx ⊢
  have HS := Lib.hid hs
  clear hs
  have hrW := hr1.kept (hbx.k.mono fun _ _ _ => trivial)
  have hwv := hrW.wv
  refine wpIn_rangeFunc_ownH rfl (by omega) (gf := 35) (lb := #[.pointer (some ⟨s + 1, 0, none⟩), .pointer (some ⟨s + 1 + 1, 0, none⟩), .pointer (some ⟨s + 1 + 2, 0, none⟩)]) rfl trivial (enters_of Try.func35 (by kernel_rfl) rfl)
    (old_stops Fence.wide (3 - 1) trivial rfl (by omega) (s + 1) (s + 1 + 1) (s + 1 + 2) L.eb (safeOf S) true S.waits L.wv (inKeep s) W0 (.inr (.inr (.inl rfl))) (.inr (.inr (.inr rfl))) (fun g hg => .inl (by have := (ownsRow_lt hr1.wv hg).1; rw [HS.out] at this; exact this))
      hbx.e hbx.q hbx.b hrW.eblk rfl ⟨hwv.1, hwv.2.imp id fun ⟨g, cap, cur, h1, h2, h3⟩ => ⟨g, cap, cur, h1, Nat.zero_le _, h3⟩⟩ hm) Kept.trans (keptK_b (fun k hk => by rw [hbx.sz]; exact inKeep_lt hk)) (Below.refl _ _) (fun _ => rfl)
    (fun pre W => (∃ v, Boxed W s 34 v ∧ W.ownsRow (s + 4) 3 1 v pre.length (pre.map fun p => .int .i64 p.1) ∧ True) ∧ Kept (inKeep s) W0 W)
    (fun _ _ _ => False)
    (OwnFrom.and (Own.from (holdsRow_own (s + 4) s 34 3 1 (fun pre : List (Int × Int) => pre.length) (fun pre => pre.map fun p => .int .i64 p.1) (fun _ _ => True)) _) (ownFrom_kept fun k hk => by rw [hbx.sz]; exact inKeep_lt hk))
    (fun _ _ _ _ _ hs _ _ => hs)
    ⟨⟨_, hbx.o, World.ownsRow_nil _ _ _ _, trivial⟩, Kept.refl _ _⟩
    (fun x a' W => ∃ Bx, s + 4 ≤ Bx ∧ Blk W Bx 58 #[.int .i64 x.1, .int .i64 x.2] ∧ a' = { tmps := #[.pointer (some ⟨L.eb, 0, none⟩), undef, .slice none 0 0, .int .i64 (safeOf S), .pointer (some ⟨s, 0, none⟩), .pointer (some ⟨Bx, 0, none⟩), undef, undef, .pointer (some ⟨L.eb, 0, none⟩), .int .i64 (safeOf S), .pointer (some ⟨L.eb, 0, none⟩), .int .i64 (safeOf S),
      .func (.func 35) #[] #[.pointer (some ⟨s + 1, 0, none⟩), .pointer (some ⟨s + 1 + 1, 0, none⟩), .pointer (some ⟨s + 1 + 2, 0, none⟩)], .agg #[.int .i64 x.1, .int .i64 x.2], undef, undef, undef, undef, undef, undef, undef, undef, undef, undef, undef, undef, undef, undef, undef, undef, undef, undef], defers := [] })
    (fun x a' _ X Y row hs hg hr => by obtain ⟨Bx, h1, h2, h3⟩ := hs; exact ⟨Bx, h1, blk_own Bx 58 (fun (_ : Unit) => #[.int .i64 x.1, .int .i64 x.2]) () X Y row h2 hg (fun r e => (hr r e).2), h3⟩)
    ?assign ?body ?done ?stop
  case assign =>
    rintro l pre x W K ⟨⟨v, hv, hrow, _⟩, hK0⟩ hK
    dsimp only [encThing]
    gi_wp2
    exact hK _ _ ((KeepsOthers.alloc _ _).from _) ((Kept.refl _ W).alloc _) ⟨⟨v, hv.alloc _, hrow.alloc _, trivial⟩, hK0.alloc _⟩ ⟨W.heap.size, by have := hK0.size; rw [hbx.sz] at this; exact this, Blk.new W 58 _, rfl⟩
  case body =>
    rintro l pre x a' W hl ⟨r, hr⟩ ⟨⟨v, hv, hrow, _⟩, hK0⟩ ⟨Bx, hBx, bX, rfl⟩ hlt
    have hc := hv.cell
    have cX := bX.cell 0
    have hsz : s + 4 ≤ W.heap.size := by have := hK0.size; rw [hbx.sz] at this; exact this
    have hlen : pre.length + 1 ≤ S.waits.length := by have := HFL.out true; omega
    gi_wp2_with (gi_at_builtin; refine wpListIn_append_own _ rfl _ _ 34 rfl (s + 4) 3 i3 (.int .i64 0) 1 8 Try.underlying34 hi3 hz30 hz31 hz32 rfl (by decide) _ _ _ rfl (hrow.alloc _) ⟨W.heap.size, 0, none⟩ 1 1 [.int .i64 x.1] rfl rfl (cell_one_new _ _ _) (by simp [Value.oneCell']) (by unfold maxLen; omega) (by omega) (by simp; omega) ?_; intro v' w2 hown' hgrow _; obtain ⟨g', cap', rfl⟩ := ownsRow_succ hown'; have hv1 := (hv.alloc _).kept hgrow (hv.not_row (by decide) hrow); have hc1 := hv1.cell; have hf1 := hv1.frozen)
    obtain ⟨_, hv2, hr2, hk2, _⟩ := hv.appended (by decide) (own_low hrow (Nat.zero_le _)) (Nat.zero_le _) (Nat.zero_le _) (own_low hown' (Nat.zero_le _)) hgrow
    exact ⟨hk2.from _, appended_kept hrow hgrow, ⟨_, hv2, by rw [List.length_append, List.map_append]; exact own_high hr2 fun g hg => (ownsRow_lt hown' hg).2⟩, hK0.trans (appended_kept hrow hgrow)⟩
  case done =>
    rintro D ys W hD rfl ⟨⟨v, hv, hrow, _⟩, hK0⟩ hKD
    gi_wp2_with fail
    refine ⟨trivial, ?_⟩
    refine (callsIn_wide.2 (old_any _ _ _ _)).mono ?_
    rintro e w' ⟨rfl, rfl⟩
    gi_wp2_with fail
    have hbx2 := boxes_new W 53 L.eb (safeOf S) false
    obtain ⟨W2, hW2⟩ : ∃ W2, (((W.alloc (.cells #[.slice none 0 0] 53)).alloc (.cells #[.pointer (some ⟨L.eb, 0, none⟩)] 24)).alloc (.cells #[.int .i64 (safeOf S)] 3)).alloc (.cells #[.bool false] 4) = W2 := ⟨_, rfl⟩
    rw [hW2] at hbx2 ⊢
    clear hW2
    obtain ⟨s2, hs2⟩ : ∃ s2, W.heap.size = s2 := ⟨_, rfl⟩
    rw [hs2] at hbx2 ⊢
    have HS2 := Lib.hid hs2
    clear hs2
    have hfoot : ∀ b, L.foot b → b < W0.heap.size → inKeep s b := fun b hb _ => .inl (by have := hr1.foot_lt b hb; rw [HS.out] at this; exact this)
    have hrW1 : Rep W base L _ := hrW.kept (hK0.mono fun b hb hf => hfoot b hf hb)
    have hrW2 := hrW1.kept (hbx2.k.mono fun _ _ _ => trivial)
    have hwv2 := hrW2.wv
    refine wpIn_rangeFunc_ownH rfl (by omega) (gf := 35) (lb := #[.pointer (some ⟨s2 + 1, 0, none⟩), .pointer (some ⟨s2 + 1 + 1, 0, none⟩), .pointer (some ⟨s2 + 1 + 2, 0, none⟩)]) rfl trivial (enters_of Try.func35 (by kernel_rfl) rfl)
      (old_stops Fence.wide (3 - 1) trivial rfl (by omega) (s2 + 1) (s2 + 1 + 1) (s2 + 1 + 2) L.eb (safeOf S) false S.waits L.wv (inKeep s2) W2 (.inr (.inr (.inl rfl))) (.inr (.inr (.inr rfl))) (fun g hg => .inl (by have := (ownsRow_lt hrW1.wv hg).1; rw [HS2.out] at this; exact this))
        hbx2.e hbx2.q hbx2.b hrW2.eblk rfl (own_low hwv2 (Nat.zero_le _)) hm) Kept.trans (keptK_b (fun k hk => by rw [hbx2.sz]; exact inKeep_lt hk)) (Below.refl _ _) (fun _ => rfl)
      (fun pre W => (∃ v, Boxed W s2 53 v ∧ W.ownsRow (s2 + 4) 58 2 v pre.length (waitCells pre) ∧ True) ∧ Kept (inKeep s2) W2 W)
      (fun _ _ _ => False)
      (OwnFrom.and (Own.from (holdsRow_own (s2 + 4) s2 53 58 2 (fun pre : List (Int × Int) => pre.length) (fun pre => waitCells pre) (fun _ _ => True)) _) (ownFrom_kept fun k hk => by rw [hbx2.sz]; exact inKeep_lt hk))
      (fun _ _ _ _ _ hs _ _ => hs)
      ⟨⟨_, hbx2.o, World.ownsRow_nil _ _ _ _, trivial⟩, Kept.refl _ _⟩
      (fun x a' W => ∃ Bx, s2 + 4 ≤ Bx ∧ Blk W Bx 58 #[.int .i64 x.1, .int .i64 x.2] ∧ a' = { tmps := #[.pointer (some ⟨L.eb, 0, none⟩), undef, .slice none 0 0, .int .i64 (safeOf S), .pointer (some ⟨s, 0, none⟩), undef, .pointer (some ⟨s2, 0, none⟩), .pointer (some ⟨Bx, 0, none⟩), .pointer (some ⟨L.eb, 0, none⟩), .int .i64 (safeOf S), .pointer (some ⟨L.eb, 0, none⟩), .int .i64 (safeOf S),
        .func (.func 35) #[] #[.pointer (some ⟨s + 1, 0, none⟩), .pointer (some ⟨s + 1 + 1, 0, none⟩), .pointer (some ⟨s + 1 + 2, 0, none⟩)], undef, undef, undef, undef, undef, undef, .pointer (some ⟨L.eb, 0, none⟩), .int .i64 (safeOf S), 
        .func (.func 35) #[] #[.pointer (some ⟨s2 + 1, 0, none⟩), .pointer (some ⟨s2 + 1 + 1, 0, none⟩), .pointer (some ⟨s2 + 1 + 2, 0, none⟩)], .agg #[.int .i64 x.1, .int .i64 x.2], undef, undef, undef, undef, undef, undef, undef, undef, undef], defers := [] })
      (fun x a' _ X Y row hs hg hr => by obtain ⟨Bx, h1, h2, h3⟩ := hs; exact ⟨Bx, h1, blk_own Bx 58 (fun (_ : Unit) => #[.int .i64 x.1, .int .i64 x.2]) () X Y row h2 hg (fun r e => (hr r e).2), h3⟩)
      ?assign2 ?body2 ?done2 ?stop2
    case assign2 =>
      rintro l pre x W K ⟨⟨v, hv, hrow, _⟩, hK0⟩ hK
      dsimp only [encThing]
      gi_wp2
      exact hK _ _ ((KeepsOthers.alloc _ _).from _) ((Kept.refl _ W).alloc _) ⟨⟨v, hv.alloc _, hrow.alloc _, trivial⟩, hK0.alloc _⟩ ⟨W.heap.size, by have := hK0.size; rw [hbx2.sz] at this; exact this, Blk.new W 58 _, rfl⟩
    case body2 =>
      rintro l pre x a' W hl ⟨r, hr⟩ ⟨⟨v, hv, hrow, _⟩, hK0⟩ ⟨Bx, hBx, bX, rfl⟩ hlt
      have hc := hv.cell
      have cX := bX.cell 0
      have cX1 := bX.cell 1
      have hsz : s2 + 4 ≤ W.heap.size := by have := hK0.size; rw [hbx2.sz] at this; exact this
      have hlen : pre.length + 1 ≤ S.waits.length := by have := HFL.out false; omega
      gi_wp2_with (gi_at_builtin; refine wpListIn_append_own _ rfl _ _ 53 rfl (s2 + 4) 58 i58 (.agg #[.int .i64 0, .int .i64 0]) 2 16 Try.underlying53 hi58 hz580 hz581 hz582 rfl (by decide) _ _ _ rfl (hrow.alloc _) ⟨W.heap.size, 0, none⟩ 1 1 [.int .i64 x.1, .int .i64 x.2] rfl rfl (World.news_of_block (heap_alloc_new _ _)) (by simp [Value.oneCell']) (by unfold maxLen; omega) (by omega) (by simp; omega) ?_; intro v' w2 hown' hgrow _; obtain ⟨g', cap', rfl⟩ := ownsRow_succ hown'; have hv1 := (hv.alloc _).kept hgrow (hv.not_row (by decide) hrow); have hc1 := hv1.cell; have hf1 := hv1.frozen)
      obtain ⟨_, hv2, hr2, hk2, _⟩ := hv.appended (by decide) (own_low hrow (Nat.zero_le _)) (Nat.zero_le _) (Nat.zero_le _) (own_low hown' (Nat.zero_le _)) hgrow
      exact ⟨hk2.from _, appended_kept hrow hgrow, ⟨_, hv2, by rw [List.length_append, waitCells_snoc']; exact own_high hr2 fun g hg => (ownsRow_lt hown' hg).2⟩, hK0.trans (appended_kept hrow hgrow)⟩
    case done2 =>
      rintro D2 ys W3 hD2 rfl ⟨⟨v2, hv2, hrow2, _⟩, hK2⟩ hKD2
      have hle : s < s2 := by have := hv.lt; rw [HS2.out] at this; exact this
      have hv3 : Boxed W3 s 34 v := Blk.kept (Blk.kept hv hbx2.k trivial) hK2 (.inl hle)
      have hcv := hv3.cell
      have hfoot2 : ∀ b, L.foot b → inKeep s2 b := fun b hb => .inl (by have := hrW1.foot_lt b hb; rw [HS2.out] at this; exact this)
      have hrW3 := hrW2.kept (hK2.mono fun b _ hf => hfoot2 b hf)
      have he3 : W3.cell? ⟨L.eb, 3, none⟩ = some L.wv := hrW3.eblk.cell 3
      have hf3 : W3.frozen? ⟨L.eb, 3, none⟩ = false := hrW3.eblk.frozen 3
      obtain ⟨A2, n2, c2, rfl⟩ : ∃ A n c, v2 = .slice A n c := by
        rcases hrow2.2 with ⟨rfl, _⟩ | ⟨g, cap, cur, rfl, _⟩
        · exact ⟨_, _, _, rfl⟩
        · exact ⟨_, _, _, rfl⟩
      have c1 := hv2.cell
      have hne : ¬ s = L.eb := Blk.ne_ hv3 hrW3.eblk (by decide)
      have hne2 : ¬ L.eb = s := fun e => hne e.symm
      have hDlt : D < s2 := by have := (Array.getElem?_eq_some_iff.1 hKD).1; rw [HS2.out] at this; exact this
      have hKD3 : W3.heap[D]? = some (.deferred (some [])) := (hK2.block D (by rw [hbx2.sz]; omega) (.inl hDlt)).trans ((hbx2.k.block D (by rw [HS2.out]; exact hDlt) trivial).trans hKD)
      have hD24 : s2 + 4 ≤ D2 := by rw [← hbx2.sz]; exact hD2
      gi_wp2
      obtain ⟨W4, hW4⟩ : ∃ W4, W3.setCell ⟨L.eb, 3, none⟩ (.slice A2 n2 c2) = W4 := ⟨_, rfl⟩
      rw [hW4]
      have k4D2 : W4.heap[D2]? = some (.deferred (some [])) := by rw [← hW4]; exact (KeepsOthers.setCell _ _ _).same D2 _ hKD2 rfl
      have k4D : W4.heap[D]? = some (.deferred (some [])) := by rw [← hW4]; exact (KeepsOthers.setCell _ _ _).same D _ hKD3 rfl
      refine ⟨by simp, .inl ⟨_, _, rfl, run_takeDeferred k4D2, ?_⟩⟩
      have hDD : D ≠ D2 := by omega
      have k5D : (W4.putObj D2 (.deferred none)).heap[D]? = some (.deferred (some [])) := (World.putObj_heap_other hDD).trans k4D
      refine ⟨by simp, .inl ⟨_, _, rfl, run_takeDeferred k5D, ?_⟩⟩
      have hR4 := hrW3.newWaits (w2 := W3) (Kept.refl _ _) (own_low hrow2 (base' := base) (by have h1 := hr1.foot_lt L.eb (.inl rfl); have h2 := hr1.low L.eb (.inl rfl); rw [HS.out] at h1; omega))
      rw [hW4] at hR4
      have hR5 := hR4.putObj (o' := .deferred none) k4D2 rfl
      have hR6 := hR5.putObj (o' := .deferred none) k5D rfl
      have ho3 : W3.ownsRow (s + 4) 3 1 v _ _ := ownsRow_kept (ownsRow_kept hrow hbx2.k fun _ _ => trivial) hK2 fun g hg => .inl (by have := (ownsRow_lt hrow hg).1; rw [HS2.out] at this; exact this)
      have ho4 := row_far ho3 hrW3.eblk (by decide) 3 (.slice A2 n2 c2)
      rw [hW4] at ho4
      have ho6 := ownsRow_putObj (ownsRow_putObj ho4 (.deferred none) k4D2 rfl) (.deferred none) k5D rfl
      have hws : w.heap.size ≤ s := by have := hk1.size; rw [HS.out] at this; exact this
      have hkk : Kept (fun b => ¬ L.foot b) w W4 := by
        rw [← hW4]
        refine Kept.setCell ?_ (fun _ hn => hn (.inl rfl)) _
        have a1 : Kept (fun b => ¬ L.foot b) w W0 := hk1.trans (hbx.k.mono fun _ _ _ => trivial)
        have a2 : Kept (fun b => ¬ L.foot b) w W := a1.trans' hK0 (fun i hi _ => .inl (by omega))
        have a3 : Kept (fun b => ¬ L.foot b) w W2 := a2.trans (hbx2.k.mono fun _ _ _ => trivial)
        exact a3.trans' hK2 (fun i hi _ => .inl (by omega))
      have hD4 : s + 4 ≤ D := by rw [← hbx.sz]; exact hD
      exact ⟨_, results_tmp rfl _ _ _, v, rfl, own_low ho6 (by omega), .slice A2 n2 c2, hR6, fun b hb => by have := (ownsRow_lt hrow2 hb).2; omega,
        (hkk.grown (grownBy_putObj' _ _ _) (fun k e hl => by cases e; omega)).grown (grownBy_putObj' _ _ _) (fun k e hl => by cases e; omega)⟩
    case stop2 =>
      rintro D c pre W _ _ h _
      exact h.elim
  case stop =>
    rintro D c pre W _ _ h _
    exact h.elim
end
end Ytbefknaffopeaaa
end Go.Proofs
