/-
  epoch.New.
-/
import Derived.Test.YtbefknaffopeaaaRetire
import Derived.Deep.RegionWith
import Derived.Deep.DeepCutAuto
set_option maxHeartbeats 400000
namespace Go.Proofs
open Go.RowKit
theorem Try.info4 : (Try.prog.info? 4).map (fun i => (i.zero, i.size, i.bytes)) = some (some (.bool false), 1, 1) := by kernel_rfl
theorem Try.info50 : (Try.prog.info? 50).map (fun i => (i.zero, i.size, i.bytes)) = some (some (.pointer none), 1, 8) := by kernel_rfl
namespace Ytbefknaffopeaaa
attribute [local go_sem ↓] Go.wp_at_zero Go.wp_at_succ
def falses (n : Nat) : Array Value := ((List.replicate n false).map Value.bool).toArray
theorem make_falses (n : Nat) (hn : n ≤ 64) : ∀ w : World, (Instr.makeSlice 28 (.int .i64 (n : Int)) (.int .i64 (n : Int))).run Try.prog w = .ok (.slice (some ⟨w.heap.size, 0, none⟩) n n) (w.alloc (.cells (falses n) 4)) := by
  intro w
  obtain ⟨i0, hi0, hz0, hz1, hz2⟩ := info_parts Try.info4
  have h := run_make (P := Try.prog) w 28 4 i0 _ Try.underlying28 hi0 hz0 .i64 .i64 n n (by omega) (Int.le_refl _) (by rw [hz2]; omega) (by omega)
  rw [h]
  have e : madeCells (Value.bool false).cells ((n : Int).toNat * i0.size) = falses n := by
    rw [hz1]
    apply Array.ext'
    show (madeCells #[.bool false] _).toList = _
    rw [toList_madeCells_one]
    simp [falses]
  rw [e]
  simp

/-- By whom the cells are counted: nobody, or block k. -/
def Gho.val (g : Gho) : Value := match g with | none => .pointer none | some p => .pointer (some ⟨p.1, 0, none⟩)
def CntOk (w : World) (k : Nat) (g : Gho) : Prop := match g with | none => ∃ t, CntAt w k t | some p => k = p.1 ∧ CntAt w p.1 p.2

theorem newint_any (g : Gho) (n : Int) (w : World) (hg : ∀ p, g = some p → CntAt w p.1 p.2) :
    Calls Try.prog 26 #[g.val, .int .i64 n] w fun e w' => ∃ b k, e = .returned (.pointer (some ⟨b, 0, none⟩)) ∧ w.heap.size ≤ b ∧ IntAt w' b k n ∧ CntOk w' k g ∧ (g = none → w.heap.size ≤ k) ∧ Kept (fun _ => True) w w' := by
  cases g with
  | none =>
    refine (newint_none n w).mono ?_
    rintro e w' ⟨rfl, rfl⟩
    refine ⟨w.heap.size + 1, w.heap.size, rfl, by omega, ?_, ⟨Tal.zero, (Blk.new _ _ _).alloc _⟩, fun _ => Nat.le_refl _, ((Kept.refl _ w).alloc _).alloc _⟩
    have := Blk.new (w.alloc (.cells Tal.zero.arr 69)) 74 #[.int .i64 n, .pointer (some ⟨w.heap.size, 0, none⟩)]
    rw [World.size_alloc] at this
    exact this
  | some p =>
    refine (newint_some p.1 n w).mono ?_
    rintro e w' ⟨rfl, rfl⟩
    exact ⟨w.heap.size, p.1, rfl, Nat.le_refl _, Blk.new _ _ _, ⟨rfl, Blk.alloc (hg p rfl) _⟩, (fun h => nomatch h), (Kept.refl _ w).alloc _⟩

/-- An Epochs in the making. -/
structure PRep (w : World) (base m : Nat) (L : Lay) (g : Gho) : Prop where
  eblk : Blk w L.eb 55 #[.pointer (some ⟨L.nb, 0, none⟩), L.cv, .slice (some ⟨L.inb, 0, none⟩) m m, .slice none 0 0]
  now : IntAt w L.nb L.nk 1
  cv : w.ownsRow base 50 1 L.cv L.ints.length (L.ints.map ptrOf)
  int : ∀ (i : Nat) (p : Nat × Nat), L.ints[i]? = some p → IntAt w p.1 p.2 0
  nd : (L.nb :: L.ints.map (·.1)).Nodup
  inblk : Blk w L.inb 4 (falses m)
  cnt : ∀ k ∈ L.ks, CntOk w k g
  wv : L.wv = .slice none 0 0
  low : ∀ b, L.foot b → base ≤ b

theorem PRep.done {w : World} {base m : Nat} {L : Lay} {g : Gho} (h : PRep w base m L g) (hl : L.ints.length = m) (h1 : 1 ≤ m) (h64 : m ≤ 64) : Rep w base L ⟨1, List.replicate m 0, List.replicate m false, [], g⟩ where
  eblk := by rw [hl, h.wv]; exact h.eblk
  now := h.now
  cv := h.cv
  int := fun i p c hp hc => by
    have : c = 0 := by
      have := List.mem_of_getElem? hc
      simpa using (List.mem_replicate.1 this).2
    subst this
    exact h.int i p hp
  nd := h.nd
  inblk := h.inblk
  wv := by rw [h.wv]; exact World.ownsRow_nil _ _ _ _
  lc := by simp [hl]
  li := by simp [hl]
  le := by omega
  one := by omega
  cnt := by
    have hc := h.cnt
    revert hc
    cases g with
    | none => exact fun hc => hc
    | some p =>
      intro hc
      exact ⟨(hc L.nk (by simp [Lay.ks])).2, fun k hk => (hc k hk).1⟩
  low := h.low

theorem CntOk.far {w w' : World} {k : Nat} {g : Gho} (h : CntOk w k g) (hk : ∀ k t, CntAt w k t → CntAt w' k t) : CntOk w' k g := by
  cases g with
  | none => obtain ⟨t, ht⟩ := h; exact ⟨t, hk _ _ ht⟩
  | some p => exact ⟨h.1, hk _ _ h.2⟩

theorem PRep.kept {w w' : World} {base m : Nat} {L : Lay} {g : Gho} (h : PRep w base m L g) (hk : Kept L.foot w w') : PRep w' base m L g where
  eblk := h.eblk.kept hk (.inl rfl)
  now := Blk.kept h.now hk (.inr (.inl rfl))
  cv := ownsRow_kept h.cv hk fun g hg => .inr (.inr (.inr (.inr (.inl hg))))
  int := fun j p hp => Blk.kept (h.int j p hp) hk (.inr (.inr (.inl ⟨p, List.mem_of_getElem? hp, rfl⟩)))
  nd := h.nd
  inblk := h.inblk.kept hk (.inr (.inr (.inr (.inr (.inr (.inl rfl))))))
  cnt := fun k hkk => by
    have := h.cnt k hkk
    revert this
    cases g with
    | none => rintro ⟨t, ht⟩; exact ⟨t, Blk.kept ht hk (.inr (.inr (.inr (.inl hkk))))⟩
    | some p =>
      rintro ⟨h1, h2⟩
      subst h1
      exact ⟨rfl, Blk.kept h2 hk (.inr (.inr (.inr (.inl hkk))))⟩
  wv := h.wv
  low := h.low

theorem new_first {w w2 : World} {base n inb b k : Nat} {g : Gho} (hbase : base ≤ w.heap.size) (hg : ∀ p, g = some p → CntAt w p.1 p.2 ∧ base ≤ p.1) (hI : IntAt w2 b k 1) (hC : CntOk w2 k g) (hb : w.heap.size ≤ b) (hk : g = none → w.heap.size ≤ k)
    (hin : Blk w2 inb 4 (falses n)) (hinb : w.heap.size ≤ inb) (hK : Kept (fun _ => True) w w2) :
    ∃ L : Lay, Value.pointer (some ⟨w2.heap.size, 0, none⟩) = .pointer (some ⟨L.eb, 0, none⟩) ∧
      PRep (w2.alloc (.cells #[.pointer (some ⟨b, 0, none⟩), .slice none 0 0, .slice (some ⟨inb, 0, none⟩) n n, .slice none 0 0] 55)) base n L g ∧ L.ints = [] ∧
      (∀ b, L.foot b → w.heap.size ≤ b ∨ ∃ p, g = some p ∧ b = p.1) ∧
      Kept (fun _ => True) w (w2.alloc (.cells #[.pointer (some ⟨b, 0, none⟩), .slice none 0 0, .slice (some ⟨inb, 0, none⟩) n n, .slice none 0 0] 55)) := by
  have hfoot : ∀ c, (Lay.mk w2.heap.size b k [] (.slice none 0 0) inb (.slice none 0 0)).foot c → w.heap.size ≤ c ∨ ∃ p, g = some p ∧ c = p.1 := by
    intro c hc
    rcases hc with rfl | rfl | ⟨i, hi, _⟩ | hc | hc | rfl | hc
    · exact .inl hK.size
    · exact .inl hb
    · cases hi
    · have : c = k := by simpa [Lay.ks] using hc
      subst this
      cases g with
      | none => exact .inl (hk rfl)
      | some p => exact .inr ⟨p, rfl, hC.1⟩
    · simp [Value.ownBlock] at hc
    · exact .inl hinb
    · simp [Value.ownBlock] at hc
  refine ⟨⟨w2.heap.size, b, k, [], .slice none 0 0, inb, .slice none 0 0⟩, rfl, ?_, rfl, hfoot, hK.alloc _⟩
  exact {
    eblk := Blk.new _ _ _
    now := Blk.alloc hI _
    cv := World.ownsRow_nil _ _ _ _
    int := fun i p hp => by simp at hp
    nd := by simp
    inblk := hin.alloc _
    cnt := fun k' hk' => by
      have : k' = k := by simpa [Lay.ks] using hk'
      subst this
      exact hC.far fun _ _ ht => Blk.alloc ht _
    wv := rfl
    low := fun c hc => by
      rcases hfoot c hc with h | ⟨p, hp, rfl⟩
      · omega
      · exact (hg p hp).2 }

theorem PRep.push {w w1 w2 : World} {base n b k g' cap : Nat} {L : Lay} {g : Gho} (h : PRep w base n L g) (hlow : ∀ p, g = some p → base ≤ p.1) (hbase : base ≤ w.heap.size) (hI : IntAt w1 b k 0) (hC : CntOk w1 k g) (hb : w.heap.size ≤ b) (hk : g = none → w.heap.size ≤ k)
    (hK : Kept (fun _ => True) w w1) (hown2 : w2.ownsRow base 50 1 (.slice (some ⟨g', 0, none⟩) (L.ints.length + 1) cap) (L.ints.length + 1) (L.ints.map ptrOf ++ [.pointer (some ⟨b, 0, none⟩)]))
    (hgrow : (w1.alloc (.cells #[.pointer (some ⟨b, 0, none⟩)] 50)).grownBy w2 L.cv.ownBlock) :
    PRep (w2.setCell ⟨L.eb, 1, none⟩ (.slice (some ⟨g', 0, none⟩) (L.ints.length + 1) cap)) base n { L with cv := .slice (some ⟨g', 0, none⟩) (L.ints.length + 1) cap, ints := L.ints ++ [(b, k)] } g := by
  have h1 : PRep w1 base n L g := h.kept (hK.mono fun _ _ _ => trivial)
  have hk2 : Kept (fun c => L.cv.ownBlock ≠ some c) w1 w2 := ((Kept.refl _ w1).alloc _).grown hgrow fun c hc _ hn => hn hc
  have ne : ∀ {g t} {cs : Array Value}, Blk w1 g t cs → t ≠ 50 → L.cv.ownBlock ≠ some g := fun hb ht => own_blk_ne h1.cv hb (Ne.symm ht)
  have e2 := h1.eblk.kept hk2 (ne h1.eblk (by decide))
  have hbn : ∀ p ∈ (L.nb, L.nk) :: L.ints, p.1 ≠ b := by
    intro p hp e
    rcases List.mem_cons.1 hp with rfl | hp
    · have := Blk.lt h.now
      simp only at e
      omega
    · obtain ⟨i, hi⟩ := List.getElem?_of_mem hp
      have := Blk.lt (h.int i p hi)
      omega
  exact {
    eblk := e2.set_ 1 _
    now := blk_far (Blk.kept h1.now hk2 (ne h1.now (by decide))) e2 (by decide) _ _
    cv := by
      have := row_far hown2 e2 (by decide) 1 (.slice (some ⟨g', 0, none⟩) (L.ints.length + 1) cap)
      simpa [ptrOf] using this
    int := fun i p hp => by
      rw [List.getElem?_append] at hp
      split at hp
      · exact blk_far (Blk.kept (h1.int i p hp) hk2 (ne (h1.int i p hp) (by decide))) e2 (by decide) _ _
      · have : p = (b, k) := by
          have := List.mem_of_getElem? hp
          simpa using this
        subst this
        exact blk_far (Blk.kept hI hk2 (ne hI (by decide))) e2 (by decide) _ _
    nd := by
      have := h.nd
      simp only [List.map_append, List.map_cons, List.map_nil]
      rw [← List.cons_append, List.nodup_append]
      refine ⟨this, by simp, ?_⟩
      intro x hx y hy
      have hyb : y = b := by simpa using hy
      subst hyb
      rcases List.mem_cons.1 hx with rfl | hx
      · exact hbn (L.nb, L.nk) List.mem_cons_self
      · obtain ⟨p, hp, rfl⟩ := List.mem_map.1 hx
        exact hbn p (List.mem_cons_of_mem _ hp)
    inblk := blk_far (h1.inblk.kept hk2 (ne h1.inblk (by decide))) e2 (by decide) _ _
    cnt := fun k' hk' => by
      have hks : k' ∈ L.ks ∨ k' = k := by
        simp only [Lay.ks, List.map_append, List.map_cons, List.map_nil, List.mem_cons, List.mem_append, List.not_mem_nil, or_false] at hk' ⊢
        rcases hk' with h | h | h
        · exact .inl (.inl h)
        · exact .inl (.inr h)
        · exact .inr h
      have hC' : CntOk w1 k' g := by
        rcases hks with h | rfl
        · exact h1.cnt k' h
        · exact hC
      exact hC'.far fun _ _ ht => blk_far (Blk.kept ht hk2 (ne ht (by decide))) e2 (by decide) _ _
    wv := h.wv
    low := fun c hc => by
      rcases hc with hc | hc | ⟨i, hi, hc⟩ | hc | hc | hc | hc
      · exact h.low c (.inl hc)
      · exact h.low c (.inr (.inl hc))
      · rcases List.mem_append.1 hi with hi | hi
        · exact h.low c (.inr (.inr (.inl ⟨i, hi, hc⟩)))
        · have : i = (b, k) := by simpa using hi
          subst this
          simp only at hc
          omega
      · simp only [Lay.ks, List.map_append, List.map_cons, List.map_nil, List.mem_cons, List.mem_append, List.not_mem_nil, or_false] at hc
        rcases hc with hc | hc | rfl
        · exact h.low c (.inr (.inr (.inr (.inl (by simp [Lay.ks, hc])))))
        · exact h.low c (.inr (.inr (.inr (.inl (by simp only [Lay.ks, List.mem_cons]; exact .inr hc)))))
        · cases g with
          | none => have := hk rfl; omega
          | some p => have := hlow p rfl; rw [hC.1]; exact this
      · exact (ownsRow_lt hown2 hc).2
      · exact h.low c (.inr (.inr (.inr (.inr (.inr (.inl hc))))))
      · exact h.low c (.inr (.inr (.inr (.inr (.inr (.inr hc)))))) }

theorem PRep.newer {w0 w : World} {base n : Nat} {L : Lay} {g : Gho} (h : PRep w base n L g) (hf : ∀ b, L.foot b → w0.heap.size ≤ b ∨ ∃ p, g = some p ∧ b = p.1) : w0.heap.size ≤ L.eb ∧ ∀ c, L.cv.ownBlock = some c → w0.heap.size ≤ c := by
  constructor
  · rcases hf L.eb (.inl rfl) with h1 | ⟨p, rfl, hp⟩
    · exact h1
    · have := h.cnt L.nk (by simp [Lay.ks])
      exact absurd hp (Blk.ne_ h.eblk this.2 (by decide))
  · intro c hc
    rcases hf c (.inr (.inr (.inr (.inr (.inl hc))))) with h1 | ⟨p, rfl, hp⟩
    · exact h1
    · have := h.cnt L.nk (by simp [Lay.ks])
      exact absurd (hc.trans (congrArg some hp)) (own_blk_ne h.cv this.2 (by decide))

/-- What the new layout touches is new, or the count. -/
theorem push_foot {w0 w w1 : World} {L : Lay} {g : Gho} {b k g' cap : Nat} (hs : w0.heap.size ≤ w.heap.size) (hf : ∀ b, L.foot b → w0.heap.size ≤ b ∨ ∃ p, g = some p ∧ b = p.1) (hb : w.heap.size ≤ b) (hk : g = none → w.heap.size ≤ k) (hC : CntOk w1 k g) (hs1 : w.heap.size ≤ w1.heap.size)
    (hat : L.cv.ownBlock = some g' ∨ g' = w1.heap.size + 1) :
    ∀ c, ({ L with cv := .slice (some ⟨g', 0, none⟩) (L.ints.length + 1) cap, ints := L.ints ++ [(b, k)] } : Lay).foot c → w0.heap.size ≤ c ∨ ∃ p, g = some p ∧ c = p.1 := by
  intro c hc
  rcases hc with hc | hc | ⟨i, hi, hc⟩ | hc | hc | hc | hc
  · exact hf c (.inl hc)
  · exact hf c (.inr (.inl hc))
  · rcases List.mem_append.1 hi with hi | hi
    · exact hf c (.inr (.inr (.inl ⟨i, hi, hc⟩)))
    · have : i = (b, k) := by simpa using hi
      subst this
      simp only at hc
      exact .inl (by omega)
  · simp only [Lay.ks, List.map_append, List.map_cons, List.map_nil, List.mem_cons, List.mem_append, List.not_mem_nil, or_false] at hc
    rcases hc with hc | hc | rfl
    · exact hf c (.inr (.inr (.inr (.inl (by simp [Lay.ks, hc])))))
    · exact hf c (.inr (.inr (.inr (.inl (by simp only [Lay.ks, List.mem_cons]; exact .inr hc)))))
    · cases g with
      | none => have := hk rfl; exact .inl (by omega)
      | some p => exact .inr ⟨p, rfl, hC.1⟩
  · have : g' = c := by simpa [Value.ownBlock] using hc
    subst this
    rcases hat with h | h
    · exact hf g' (.inr (.inr (.inr (.inr (.inl h)))))
    · exact .inl (by omega)
  · exact hf c (.inr (.inr (.inr (.inr (.inr (.inl hc))))))
  · exact hf c (.inr (.inr (.inr (.inr (.inr (.inr hc))))))

theorem new_bad (g : Value) (n : Int) (w : World) (h : n < 1 ∨ 64 < n) :
    Calls Try.prog 8 #[g, .int .i64 n] w fun e w' => e = .returned (.tuple #[.pointer none, .int .i64 1]) ∧ w = w' := by
  rcases h with h | h
  · have hd : decide (n < 1) = true := by simp; omega
    go_enter Try.func8, Try.ntmps8
    go_wp2
    go_ret2
    exact ⟨rfl, rfl⟩
  · have hd : decide (n < 1) = false := by simp; omega
    have hd2 : decide (64 < n) = true := by simp; omega
    go_enter Try.func8, Try.ntmps8
    go_wp2
    go_ret2
    exact ⟨rfl, rfl⟩

theorem new_good (g : Gho) (n : Nat) (w : World) (base : Nat) (h1 : 1 ≤ n) (h64 : n ≤ 64) (hbase : base ≤ w.heap.size) (hg : ∀ p, g = some p → CntAt w p.1 p.2 ∧ base ≤ p.1) :
    Calls Try.prog 8 #[g.val, .int .i64 n] w fun e w' => ∃ L, e = .returned (.tuple #[.pointer (some ⟨L.eb, 0, none⟩), .int .i64 0]) ∧ Rep w' base L ⟨1, List.replicate n 0, List.replicate n false, [], g⟩ ∧
      (∀ b, L.foot b → w.heap.size ≤ b ∨ ∃ p, g = some p ∧ b = p.1) ∧ Kept (fun _ => True) w w' := by
  have hmk := make_falses n h64
  have hd : decide ((n : Int) < 1) = false := by simp; omega
  have hd2 : decide (64 < (n : Int)) = false := by simp; omega
  obtain ⟨i0, hi0, hz0, hz1, hz2⟩ := info_parts Try.info50
  have HG := Lib.hid hg
  clear hg
  go_enter Try.func8, Try.ntmps8
  go_upto_region 3 with fail
  go_cut [6] (fun v wx => ∃ L, v = .pointer (some ⟨L.eb, 0, none⟩) ∧ PRep wx base n L g ∧ L.ints = [] ∧ (∀ b, L.foot b → w.heap.size ≤ b ∨ ∃ p, g = some p ∧ b = p.1) ∧ Kept (fun _ => True) w wx)
  case first =>
    go_region_with (first
      | (go_at_call 26; refine (newint_any g 1 _ ?_).mono ?_; (intro p hp; first | exact ((HG.out p hp).1) | exact Blk.alloc ((HG.out p hp).1) _); rintro e w' ⟨b, k, rfl, hb, hI, hC, hk, hK⟩))
    · go_wp2_with fail
      go_meet
      rw [← World.size_alloc w' (.cells (falses n) 4)]
      exact new_first hbase HG.out (Blk.alloc hI _) (hC.far fun _ _ ht => Blk.alloc ht _) hb hk (Blk.new w' 4 (falses n)) hK.size ((Kept.refl _ w).drew.trans (hK.alloc _))
    · go_wp2_with fail
      go_meet
      have hs : w.heap.size ≤ (w.alloc (.cells (falses n) 4)).drew.heap.size := ((Kept.refl (fun _ => True) w).alloc _).drew.size
      exact new_first hbase HG.out hI hC (Nat.le_trans hs hb) (fun e => Nat.le_trans hs (hk e)) (Blk.kept (Blk.new w 4 (falses n)).drew hK trivial) (Nat.le_refl _) (((Kept.refl _ w).alloc _).drew.trans hK)
  case rest =>
    obtain ⟨L0, rfl, hP, hL0, hF, hK⟩ := hcut
    have HL0 := Lib.hid hL0
    clear hL0
    go_wp2_with fail
    go_loopw [20] (fun i wr => ∃ k L, k ≤ n ∧ i = .int .i64 k ∧ PRep wr base n L g ∧ Hid (L.ints.length = k) ∧ Hid (L0.eb = L.eb) ∧ (∀ b, L.foot b → w.heap.size ≤ b ∨ ∃ p, g = some p ∧ b = p.1) ∧ Kept (fun _ => True) w wr)
      (fun i _ => n - (intOf i).toNat)
    case atStart => exact ⟨0, L0, Nat.zero_le _, rfl, hP, Lib.hid (by rw [HL0.out]; rfl), Lib.hid rfl, hF, hK⟩
    case round =>
      obtain ⟨k, L, hk, rfl, hr, HL, HE, hf, hkp⟩ := hrel
      by_cases hlt : k < n
      · have q1 : wr.cell? ⟨L0.eb, 1, none⟩ = some L.cv := by rw [HE.out]; exact hr.eblk.cell 1
        have HF := Lib.hid hf
        clear hf
        have hlow : Hid (∀ p, g = some p → base ≤ p.1) := fun p hp => (HG.out p hp).2
        have hbw : base ≤ wr.heap.size := Nat.le_trans hbase hkp.size
        go_wp2_with fail
        go_region_law (first
          | (refine step_append_lies _ (by rfl) (.tmp 26) (.tmp 29) 52 (by rfl) base 50 i0 (.pointer none) 1 8 Try.underlying52 hi0 hz0 hz1 hz2 (by rfl) (by decide) L.cv L.ints.length (L.ints.map ptrOf) (by rfl) (by exact hr1.cv.alloc _) ⟨w1.heap.size, 0, none⟩ 1 1 [.pointer (some ⟨b, 0, none⟩)] (by rfl) (by rfl) (World.news_of_block (heap_alloc_new _ _)) (by simp [Value.oneCell']) (by decide) (by rw [HL.out]; unfold maxLen; omega) (by rw [HL.out]; omega) (by have h1 := hkp.size; have h2 := hK1.size; simp; omega) (w1.heap.size + 1) (by simp) ?_; intro g' cap w2 hown2 hgrow hat hlt2; have q3 : w2.cell? ⟨L0.eb, 1, none⟩ = some L.cv := by { rw [HE.out]; exact ((hr1.eblk.alloc _).grown hgrow (Ne.symm (own_blk_ne hr1.cv hr1.eblk (by decide)))).cell 1 }; have qf : w2.frozen? ⟨L0.eb, 1, none⟩ = false := by { rw [HE.out]; exact ((hr1.eblk.alloc _).grown hgrow (Ne.symm (own_blk_ne hr1.cv hr1.eblk (by decide)))).frozen 1 })
          | ((try go_simp); go_at_call 26; refine (newint_any g 0 _ ?_).mono ?_; (intro p hp; first | exact (Blk.kept ((HG.out p hp).1) hkp.drew trivial)); rintro e w1 ⟨b, k', rfl, hb, hI, hC, hk', hK1⟩; replace hK1 := (Kept.refl _ wr).drew.trans hK1; have hr1 := hr.kept (w' := w1) (hK1.mono fun _ _ _ => trivial); have qa : ∀ o, (w1.alloc o).cell? ⟨L0.eb, 1, none⟩ = some L.cv := (fun o => by rw [HE.out]; exact (hr1.eblk.alloc o).cell 1); have qb : w1.cell? ⟨L0.eb, 1, none⟩ = some L.cv := (by rw [HE.out]; exact hr1.eblk.cell 1)))
        all_goals go_wp2_with fail
        all_goals go_roundw
        all_goals first
          | (show _ < _; simp [intOf]; omega)
          | (rw [HE.out]
             exact ⟨k + 1, _, by omega, by go_num, hr.push hlow.out hbw hI hC hb hk' hK1 hown2 hgrow, Lib.hid (by have := HL.out; simp [this]), Lib.hid rfl, push_foot hkp.size HF.out hb hk' hC hK1.size hat,
               ((hkp.trans (hK1.alloc _)).grown hgrow fun c hc hl _ => Nat.not_lt_of_le ((hr.newer HF.out).2 c hc) hl).setCell (fun hl _ => Nat.not_lt_of_le (hr.newer HF.out).1 hl) _⟩)
      · obtain rfl : k = n := by omega
        go_wp2_with fail
        go_ret2
        exact ⟨L, by rw [HE.out]; rfl, hr.done HL.out h1 h64, hf, hkp⟩
end Ytbefknaffopeaaa
end Go.Proofs
