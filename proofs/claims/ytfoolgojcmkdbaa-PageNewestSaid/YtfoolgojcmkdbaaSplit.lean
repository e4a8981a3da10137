/-
  Split of a page that may be, where it may be cut.
-/
import Derived.Test.YtfoolgojcmkdbaaPutNew
import Derived.Test.YtfoolgojcmkdbaaBinK
import Derived.Test.YtfoolgojcmkdbaaEqs
set_option maxHeartbeats 8000000
set_option maxRecDepth 100000
namespace Go.Proofs
open Go.RowKit
namespace Ytfoolgojcmkdbaa
attribute [local go_sem ↓] Go.wp_at_zero Go.wp_at_succ
theorem BlkH.go {w w' : World} {g : Nat} {t : TypeId} {cs : Array Value} (h : Hid (Blk w g t cs)) (hk : Kept (fun _ => True) w w') : Hid (Blk w' g t cs) := Lib.hid (h.out.kept hk trivial)
theorem BlkH.far {w w' : World} {g x : Nat} {t : TypeId} {cs : Array Value} (h : Hid (Blk w g t cs)) (hk : Kept (fun b => b ≠ x) w w') (hne : g ≠ x) : Hid (Blk w' g t cs) := Lib.hid (h.out.kept hk hne)
section
variable {α : Type} {k : Nat} {enc : α → List Value} {w w' : World} {base : Nat} {e : TypeId} {v : Value} {l : List α}
theorem RowH.go (h : Hid (RowN k enc w base e v l)) (hk : Kept (fun _ => True) w w') : Hid (RowN k enc w' base e v l) := Lib.hid (h.out.all hk)
theorem RowH.far {x : Nat} {t : TypeId} {cs : Array Value} (h : Hid (RowN k enc w base e v l)) (hk : Kept (fun b => b ≠ x) w w') (hb : Hid (Blk w x t cs)) (hne : e ≠ t) : Hid (RowN k enc w' base e v l) := Lib.hid (h.out.kept hk fun g hg => by
  obtain ⟨_, h1⟩ := h.out.blk hg
  exact Blk.ne_ h1 hb.out hne)
theorem KeptH.far {w0 : World} {x : Nat} (h : Hid (Kept (fun _ => True) w0 w)) (hk : Kept (fun b => b ≠ x) w w') (hx : w0.heap.size ≤ x) : Hid (Kept (fun _ => True) w0 w') := Lib.hid (h.out.trans' hk fun b hb _ e => by
  have : b = x := e
  omega)
theorem SzH.go {n : Nat} (h : Hid (n ≤ w.heap.size)) {K : Nat → Prop} (hk : Kept K w w') : Hid (n ≤ w'.heap.size) := Lib.hid (Nat.le_trans h.out hk.size)
theorem Blk.box {w : World} {g : Nat} {lv sd : Int} {lo hi : ByteArray} {la : Bool} {iv kv : Value} (h : Blk w g 25 #[.int .i64 lv, .string lo, .string hi, .bool la, .int .i64 sd, iv, kv]) : Box w g lv lo hi la sd iv kv :=
  ⟨h.cell 0, h.cell 1, h.cell 2, h.cell 3, h.cell 4, h.cell 5, h.cell 6⟩
theorem alloc_step {W : World} {b : Nat} (hs : Hid (b ≤ W.heap.size)) (cs : Array Value) : ∃ gl W', W.alloc (.cells cs 25) = W' ∧ W.heap.size = gl ∧ Hid (b ≤ gl) ∧ Hid (Blk W' gl 25 cs) ∧ Kept (fun _ => True) W W' ∧ (∀ g t cs', Blk W g t cs' → g ≠ gl) :=
  ⟨_, _, rfl, rfl, hs, Lib.hid (Blk.new W 25 cs), (Kept.refl _ W).alloc _, fun _ _ _ h => Nat.ne_of_lt h.lt⟩
theorem alloc_stepd {W : World} {b : Nat} (hs : Hid (b ≤ (World.drew W).heap.size)) (cs : Array Value) : ∃ gl W', (W.alloc (.cells cs 25)).drew = W' ∧ W.heap.size = gl ∧ Hid (b ≤ gl) ∧ Hid (Blk W' gl 25 cs) ∧ Kept (fun _ => True) (World.drew W) W' ∧ (∀ g t cs', Blk (World.drew W) g t cs' → g ≠ gl) :=
  ⟨_, _, rfl, rfl, hs, Lib.hid (Blk.new W 25 cs).drew, ((Kept.refl _ (World.drew W)).alloc _), fun _ _ _ h => Nat.ne_of_lt (show _ < W.heap.size from h.lt)⟩
theorem cap_of {α : Type} {k : Nat} {enc : α → List Value} {w : World} {base n c : Nat} {e : TypeId} {A : Option Addr} {l : List α} (h : RowN k enc w base e (.slice A n c) l) : n ≤ c := by
  rcases h with ⟨h0, h1⟩ | ⟨g, cap, cur, h0, _, _, h1, _⟩
  · injection h0 with _ h2 h3
    omega
  · injection h0 with _ h2 h3
    omega
theorem kept4 {W : World} {gl gr : Nat} {t : TypeId} {cs : Array Value} (_ : Hid (Blk W gl t cs)) (a b c d : Value) : Kept (fun x => x ≠ gl ∧ x ≠ gr) W ((((W.setCell ⟨gl, 2, none⟩ a).setCell ⟨gl, 4, none⟩ b).setCell ⟨gl, 3, none⟩ c).setCell ⟨gr, 1, none⟩ d) :=
  ((((Kept.refl _ W).setCell (fun _ h => h.1 rfl) _).setCell (fun _ h => h.1 rfl) _).setCell (fun _ h => h.1 rfl) _).setCell (fun _ h => h.2 rfl) _
theorem kept2 {W : World} {gl gr : Nat} {t : TypeId} {cs : Array Value} (_ : Hid (Blk W gl t cs)) (o : Nat) (a b : Value) : Kept (fun x => x ≠ gl ∧ x ≠ gr) W ((W.setCell ⟨gl, o, none⟩ a).setCell ⟨gr, o, none⟩ b) :=
  ((Kept.refl _ W).setCell (fun _ h => h.1 rfl) _).setCell (fun _ h => h.2 rfl) _
theorem RowH.far2 {α : Type} {k : Nat} {enc : α → List Value} {w w' : World} {base : Nat} {e : TypeId} {v : Value} {l : List α} {x y : Nat} {t : TypeId} {cs cs' : Array Value} (h : Hid (RowN k enc w base e v l)) (hk : Kept (fun b => b ≠ x ∧ b ≠ y) w w') (hb : Hid (Blk w x t cs)) (hc : Hid (Blk w y t cs')) (hne : e ≠ t) : Hid (RowN k enc w' base e v l) := Lib.hid (h.out.kept hk fun g hg => by
  obtain ⟨_, h1⟩ := h.out.blk hg
  exact ⟨Blk.ne_ h1 hb.out hne, Blk.ne_ h1 hc.out hne⟩)
theorem KeptH.far2 {w0 w w' : World} {x y : Nat} (h : Hid (Kept (fun _ => True) w0 w)) (hk : Kept (fun b => b ≠ x ∧ b ≠ y) w w') (hx : w0.heap.size ≤ x) (hy : w0.heap.size ≤ y) : Hid (Kept (fun _ => True) w0 w') := Lib.hid (h.out.trans' hk fun b hb _ => ⟨by omega, by omega⟩)
theorem BlkH.far2 {w w' : World} {g x y : Nat} {t : TypeId} {cs : Array Value} (h : Hid (Blk w g t cs)) (hk : Kept (fun b => b ≠ x ∧ b ≠ y) w w') (hx : g ≠ x) (hy : g ≠ y) : Hid (Blk w' g t cs) := Lib.hid (h.out.kept hk ⟨hx, hy⟩)
theorem sliced_form (A : Option Addr) (lo hi cap size : Nat) : ∃ B, sliced A lo hi cap size = .slice B (hi - lo) (cap - lo) := ⟨_, rfl⟩
theorem set_step {W : World} {g : Nat} {b0 b1 b2 b3 b4 b5 b6 : Value} (h : Blk W g 25 #[b0, b1, b2, b3, b4, b5, b6]) (a0 a1 a2 a3 a4 a5 a6 : Value) : ∃ W', ((((((W.setCell ⟨g, 0, none⟩ a0).setCell ⟨g, 1, none⟩ a1).setCell ⟨g, 2, none⟩ a2).setCell ⟨g, 3, none⟩ a3).setCell ⟨g, 4, none⟩ a4).setCell ⟨g, 5, none⟩ a5).setCell ⟨g, 6, none⟩ a6 = W' ∧
    Blk W' g 25 #[a0, a1, a2, a3, a4, a5, a6] ∧ Kept (fun b => b ≠ g) W W' := ⟨_, rfl, set7_blk h a0 a1 a2 a3 a4 a5 a6, set7_kept W g a0 a1 a2 a3 a4 a5 a6⟩
theorem RdK.cut {A : Option Addr} {n c : Nat} (h : RdK k enc w (.slice A n c) l) (i : Nat) (hi : i ≤ l.length) : RdK k enc w (.slice A i i) (l.take i) := by
  obtain ⟨A0, c0, hv, hlc, hA⟩ := h
  injection hv with e1 _ e3
  subst e1 e3
  have hl : (l.take i).length = i := by rw [List.length_take]; omega
  refine ⟨A, i, by rw [hl], by rw [hl]; exact Nat.le_refl _, fun j u hu => ?_⟩
  rw [List.getElem?_take] at hu
  split at hu
  · exact hA j u hu
  · cases hu
theorem RdK.sl {A : Option Addr} {c lo hi : Nat} (h : RdK k enc w (.slice A l.length c) l) (h1 : lo ≤ hi) (h2 : hi ≤ l.length) (cap : Nat) (hc : hi ≤ cap) : RdK k enc w (sliced A lo hi cap k) ((l.drop lo).take (hi - lo)) := by
  obtain ⟨A0, c0, hv, hlc, hA⟩ := h
  injection hv with e1 _ e3
  subst e1 e3
  have hl : ((l.drop lo).take (hi - lo)).length = hi - lo := by rw [List.length_take, List.length_drop]; omega
  refine ⟨if cap = lo then A else A.map (·.add (lo * k)), cap - lo, by rw [hl]; rfl, by rw [hl]; omega, fun i u hu => ?_⟩
  have hi2 := (List.getElem?_eq_some_iff.1 hu).1
  rw [hl] at hi2
  rw [List.getElem?_take, if_pos hi2, List.getElem?_drop] at hu
  obtain ⟨b, off, rfl, hb, hc⟩ := hA _ u hu
  rw [if_neg (by omega)]
  refine ⟨b, off + lo * k, by rw [Option.map_some, addr_add], hb, fun j v hv => ?_⟩
  have := hc j v hv
  rw [Nat.add_mul] at this
  rw [Nat.add_assoc off]
  exact this
theorem RdK.from_ {A : Option Addr} {n c lo : Nat} (hn : n = l.length) (h : RdK k enc w (.slice A n c) l) (h1 : lo ≤ n) : RdK k enc w (sliced A lo n c k) (l.drop lo) := by
  subst hn
  have hc : l.length ≤ c := by
    obtain ⟨A0, c0, hv, hlc, _⟩ := h
    injection hv with _ _ e3
    omega
  have := RdK.sl h h1 (Nat.le_refl _) c hc
  rwa [List.take_of_length_le (by rw [List.length_drop]; exact Nat.le_refl _)] at this
end
theorem split_ok (p : Page) (key : ByteArray) (at_ : Int) {iA kA : Option Addr} {ic kc : Nat} (w : World) (hi : ItR w (.slice iA p.items.length ic) p.items) (hk : KdR w (.slice kA p.kids.length kc) p.kids) (hck : check p = true) (hkey : isKey key = true) (hlow : key ≠ p.low) (hcov : covers p key = true) (hpg : isPage at_ = true)
    {i0 k0 : Nat} {f0 g0 : Bool} (hati : At (p.items.map (·.key)) key i0 f0) (hatk : At (p.kids.map (·.key)) key k0 g0) (hlf : p.level = 0 ∨ g0 = true) (hni : p.items.length ≤ 120) (hnk : p.kids.length ≤ 120) :
    Calls Try.prog 13 #[pv p (.slice iA p.items.length ic) (.slice kA p.kids.length kc), .string key, .int .i64 at_] w fun e w' => ∃ A1 c1 A2 c2 A3 c3 A4 c4, e = .returned (.tuple #[
      pv ⟨p.level, p.low, key, false, at_, p.items.take i0, p.kids.take k0⟩ (.slice A1 i0 c1) (.slice A2 k0 c2), pv ⟨p.level, key, p.high, p.last, p.side, p.items.drop i0, p.kids.drop k0⟩ (.slice A3 (p.items.length - i0) c3) (.slice A4 (p.kids.length - k0) c4), .int .i64 0]) ∧
      Hid (ItR w' (.slice A1 i0 c1) (p.items.take i0)) ∧ Hid (KdR w' (.slice A2 k0 c2) (p.kids.take k0)) ∧ Hid (ItR w' (.slice A3 (p.items.length - i0) c3) (p.items.drop i0)) ∧ Hid (KdR w' (.slice A4 (p.kids.length - k0) c4) (p.kids.drop k0)) ∧ Kept (fun _ => True) w w' := by
  have h7 : ∀ W, Kept (fun _ => True) w W → Calls Try.prog 7 #[pv p (.slice iA p.items.length ic) (.slice kA p.kids.length kc)] W fun e w' => e = .returned (.int .i64 0) ∧ Kept (fun _ => True) W w' := fun W hW => by
    have := check_any p W (hi.all hW) (hk.all hW) (by omega) (by omega)
    rw [hck] at this
    exact this
  have h23 : ∀ W, Kept (fun _ => True) w W → Calls Try.prog 23 #[.slice iA p.items.length ic, .string key, .func (.func 24) #[] #[]] W fun e w' => e = .returned (.tuple #[.int .i64 i0, .bool f0]) ∧ Kept (fun _ => True) W w' := fun W hW =>
    (placeItem_any key W (hi.all hW) (check_sortedI hck) (by omega)).mono fun e w' ⟨i, f, he, ha, hk⟩ => by
      obtain ⟨rfl, rfl⟩ := At.same ha.out hati
      exact ⟨he, hk⟩
  have h27 : ∀ W, Kept (fun _ => True) w W → Calls Try.prog 27 #[.slice kA p.kids.length kc, .string key, .func (.func 28) #[] #[]] W fun e w' => e = .returned (.tuple #[.int .i64 k0, .bool g0]) ∧ Kept (fun _ => True) W w' := fun W hW =>
    (placeKid_any key W (hk.all hW) (check_sortedK hck) (by omega)).mono fun e w' ⟨i, f, he, ha, hk⟩ => by
      obtain ⟨rfl, rfl⟩ := At.same ha.out hatk
      exact ⟨he, hk⟩
  have h12 : ∀ W, Calls Try.prog 12 #[pv p (.slice iA p.items.length ic) (.slice kA p.kids.length kc), .string key] W fun e w' => e = .returned (.bool true) ∧ Kept (fun _ => True) W w' := fun W => by
    have := covers_any p (.slice iA p.items.length ic) (.slice kA p.kids.length kc) key W
    rw [hcov] at this
    exact this
  have h17 : ∀ W, Calls Try.prog 17 #[.string key] W fun e w' => e = .returned (.bool true) ∧ w' = W := fun W => by
    have := isKey_any key W
    rw [hkey] at this
    exact this
  have h18 : ∀ W, Calls Try.prog 18 #[.int .i64 at_] W fun e w' => e = .returned (.bool true) ∧ w' = W := fun W => by
    have := isPage_any at_ W
    rw [hpg] at this
    exact this
  have h25 : ∀ W, Kept (fun _ => True) w W → Calls Try.prog 25 #[pv p (.slice iA p.items.length ic) (.slice kA p.kids.length kc)] W fun e w' => ∃ A c A' c', e = .returned (pv p (.slice A p.items.length c) (.slice A' p.kids.length c')) ∧ Hid (ItO w' 0 (.slice A p.items.length c) p.items) ∧ Hid (KdO w' 0 (.slice A' p.kids.length c') p.kids) ∧ Kept (fun _ => True) W w' := fun W hW =>
    (own_any p W (hi.all hW) (hk.all hW) (by omega) (by omega)).mono fun e w' ⟨iv, kv, he, ho, hq, hkk⟩ => by
      obtain ⟨A, c, rfl⟩ := ho.out.form
      obtain ⟨A', c', rfl⟩ := hq.out.form
      exact ⟨A, c, A', c', he, Lib.hid (ho.out.low (Nat.zero_le _)), Lib.hid (hq.out.low (Nat.zero_le _)), hkk⟩
  have hle1 : i0 ≤ p.items.length := by have := hati.le; simpa using this
  have hle2 : k0 ≤ p.kids.length := by have := hatk.le; simpa using this
  have tlow : (key.toList == p.low.toList) = false := by rw [beq_toList]; exact decide_eq_false hlow
  clear hi hk hck hkey hcov hpg hati hatk hlow
  obtain ⟨lv, lo, hi, la, sd, il, kl⟩ := p
  simp only at hlf hle1 hle2 tlow hni hnk
  unfold pv at *
  simp only at *
  generalize hn : il.length = n at h7 h12 h23 h25 hle1 hni ⊢
  generalize hm : kl.length = m at h7 h12 h27 h25 hle2 hnk ⊢
  have HN := Lib.hid hn
  have HM := Lib.hid hm
  clear hn hm
  have kk0 : Kept (fun _ => True) w (((w.alloc (.cells #[.int .i64 lv, .string lo, .string hi, .bool la, .int .i64 sd, .slice iA n ic, .slice kA m kc] 25)).alloc (.cells #[.int .i64 0, .string ⟨#[]⟩, .string ⟨#[]⟩, .bool false, .int .i64 0, .slice none 0 0, .slice none 0 0] 25)).alloc (.cells #[.int .i64 0, .string ⟨#[]⟩, .string ⟨#[]⟩, .bool false, .int .i64 0, .slice none 0 0, .slice none 0 0] 25)) := (((Kept.refl _ w).alloc _).alloc _).alloc _
  have hs1 : (w.alloc (.cells #[.int .i64 lv, .string lo, .string hi, .bool la, .int .i64 sd, .slice iA n ic, .slice kA m kc] 25)).heap.size = w.heap.size + 1 := by simp
  have hs2 : ((w.alloc (.cells #[.int .i64 lv, .string lo, .string hi, .bool la, .int .i64 sd, .slice iA n ic, .slice kA m kc] 25)).alloc (.cells #[.int .i64 0, .string ⟨#[]⟩, .string ⟨#[]⟩, .bool false, .int .i64 0, .slice none 0 0, .slice none 0 0] 25)).heap.size = w.heap.size + 1 + 1 := by simp
  have hs3 : (((w.alloc (.cells #[.int .i64 lv, .string lo, .string hi, .bool la, .int .i64 sd, .slice iA n ic, .slice kA m kc] 25)).alloc (.cells #[.int .i64 0, .string ⟨#[]⟩, .string ⟨#[]⟩, .bool false, .int .i64 0, .slice none 0 0, .slice none 0 0] 25)).alloc (.cells #[.int .i64 0, .string ⟨#[]⟩, .string ⟨#[]⟩, .bool false, .int .i64 0, .slice none 0 0, .slice none 0 0] 25)).heap.size = w.heap.size + 1 + 1 + 1 := by simp
  have hB := ((Blk.new w 25 #[.int .i64 lv, .string lo, .string hi, .bool la, .int .i64 sd, .slice iA n ic, .slice kA m kc]).alloc (.cells #[.int .i64 0, .string ⟨#[]⟩, .string ⟨#[]⟩, .bool false, .int .i64 0, .slice none 0 0, .slice none 0 0] 25)).alloc (.cells #[.int .i64 0, .string ⟨#[]⟩, .string ⟨#[]⟩, .bool false, .int .i64 0, .slice none 0 0, .slice none 0 0] 25)
  have hX := (Blk.new (w.alloc (.cells #[.int .i64 lv, .string lo, .string hi, .bool la, .int .i64 sd, .slice iA n ic, .slice kA m kc] 25)) 25 #[.int .i64 0, .string ⟨#[]⟩, .string ⟨#[]⟩, .bool false, .int .i64 0, .slice none 0 0, .slice none 0 0]).alloc (.cells #[.int .i64 0, .string ⟨#[]⟩, .string ⟨#[]⟩, .bool false, .int .i64 0, .slice none 0 0, .slice none 0 0] 25)
  rw [hs1] at hX
  have hZ := Blk.new ((w.alloc (.cells #[.int .i64 lv, .string lo, .string hi, .bool la, .int .i64 sd, .slice iA n ic, .slice kA m kc] 25)).alloc (.cells #[.int .i64 0, .string ⟨#[]⟩, .string ⟨#[]⟩, .bool false, .int .i64 0, .slice none 0 0, .slice none 0 0] 25)) 25 #[.int .i64 0, .string ⟨#[]⟩, .string ⟨#[]⟩, .bool false, .int .i64 0, .slice none 0 0, .slice none 0 0]
  rw [hs2] at hZ
  have KW := Lib.hid kk0
  have HB := Lib.hid hB
  have HX := Lib.hid hX
  have HZ := Lib.hid hZ
  have HS : Hid (w.heap.size + 3 ≤ (((w.alloc (.cells #[.int .i64 lv, .string lo, .string hi, .bool la, .int .i64 sd, .slice iA n ic, .slice kA m kc] 25)).alloc (.cells #[.int .i64 0, .string ⟨#[]⟩, .string ⟨#[]⟩, .bool false, .int .i64 0, .slice none 0 0, .slice none 0 0] 25)).alloc (.cells #[.int .i64 0, .string ⟨#[]⟩, .string ⟨#[]⟩, .bool false, .int .i64 0, .slice none 0 0, .slice none 0 0] 25)).heap.size) := Lib.hid (by rw [hs3]; exact Nat.le_refl _)
  clear kk0 hB hX hZ hs1 hs2 hs3
  go_enter Try.func13, Try.ntmps13
  have b0 := (BlkH.go HB (Kept.refl _ _)).out.cell 0
  have b1 := (BlkH.go HB (Kept.refl _ _)).out.cell 1
  have b2 := (BlkH.go HB (Kept.refl _ _)).out.cell 2
  have b3 := (BlkH.go HB (Kept.refl _ _)).out.cell 3
  have b4 := (BlkH.go HB (Kept.refl _ _)).out.cell 4
  have b5 := (BlkH.go HB (Kept.refl _ _)).out.cell 5
  have b6 := (BlkH.go HB (Kept.refl _ _)).out.cell 6
  go_wp2_with fail
  clear b0 b1 b2 b3 b4 b5 b6
  generalize ((w.alloc (.cells #[.int .i64 lv, .string lo, .string hi, .bool la, .int .i64 sd, .slice iA n ic, .slice kA m kc] 25)).alloc (.cells #[.int .i64 0, .string ⟨#[]⟩, .string ⟨#[]⟩, .bool false, .int .i64 0, .slice none 0 0, .slice none 0 0] 25)).alloc (.cells #[.int .i64 0, .string ⟨#[]⟩, .string ⟨#[]⟩, .bool false, .int .i64 0, .slice none 0 0, .slice none 0 0] 25) = wc at KW HB HX HZ HS ⊢
  refine (h7 _ KW.out).mono ?_
  rintro e w1 ⟨rfl, hk⟩
  replace KW := Kept.go KW hk
  replace HB := BlkH.go HB hk
  replace HX := BlkH.go HX hk
  replace HZ := BlkH.go HZ hk
  replace HS := SzH.go HS hk
  clear hk
  have b5 := HB.out.cell 5
  go_wp2_with fail
  clear b5
  refine (h23 _ KW.out).mono ?_
  rintro e w2 ⟨rfl, hk⟩
  replace KW := Kept.go KW hk
  replace HB := BlkH.go HB hk
  replace HX := BlkH.go HX hk
  replace HZ := BlkH.go HZ hk
  replace HS := SzH.go HS hk
  clear hk
  have b6 := HB.out.cell 6
  go_wp2_with fail
  clear b6
  refine (h27 _ KW.out).mono ?_
  rintro e w3 ⟨rfl, hk⟩
  replace KW := Kept.go KW hk
  replace HB := BlkH.go HB hk
  replace HX := BlkH.go HX hk
  replace HZ := BlkH.go HZ hk
  replace HS := SzH.go HS hk
  clear hk
  go_upto_region 6 with fail
  go_cut [65] (fun x wx => x = .bool false ∧ Hid (Kept (fun _ => True) w3 wx))
  case first =>
    have b0 := HB.out.cell 0
    have b1 := HB.out.cell 1
    have b2 := HB.out.cell 2
    have b3 := HB.out.cell 3
    have b4 := HB.out.cell 4
    have b5 := HB.out.cell 5
    have b6 := HB.out.cell 6
    by_cases hl0 : lv = 0
    · subst hl0
      go_wp2_with (first | (go_at_call 17; refine (h17 _).mono ?_; rintro e w' ⟨rfl, rfl⟩) | (go_at_call 18; refine (h18 _).mono ?_; rintro e w' ⟨rfl, rfl⟩) | (go_at_call 12; refine (h12 _).mono ?_; rintro e w' ⟨rfl, hk4⟩; have e0 := hk4.cellv b0))
      all_goals
        go_meet
        case rel => exact ⟨rfl, Lib.hid hk4⟩
    · have hg0 : g0 = true := hlf.resolve_left hl0
      subst hg0
      go_wp2_with (first | (go_at_call 17; refine (h17 _).mono ?_; rintro e w' ⟨rfl, rfl⟩) | (go_at_call 18; refine (h18 _).mono ?_; rintro e w' ⟨rfl, rfl⟩) | (go_at_call 12; refine (h12 _).mono ?_; rintro e w' ⟨rfl, hk4⟩; have e0 := hk4.cellv b0))
      all_goals
        go_meet
        case rel => exact ⟨rfl, Lib.hid hk4⟩
  case rest =>
    obtain ⟨rfl, HK4⟩ := hcut
    have hk := HK4.out.drew
    go_upto_region 8 with fail
    go_cut [14, 15] (fun x y wx => ∃ (gl gr : Nat) (A1 : Option Addr) (c1 : Nat) (A2 : Option Addr) (c2 : Nat) (A3 : Option Addr) (c3 : Nat) (A4 : Option Addr) (c4 : Nat), x = .pointer (some ⟨gl, 0, none⟩) ∧ y = .pointer (some ⟨gr, 0, none⟩) ∧ Hid (gl ≠ gr ∧ w.heap.size + 3 ≤ gl ∧ w.heap.size + 3 ≤ gr) ∧
      Hid (Blk wx gl 25 #[.int .i64 lv, .string lo, .string hi, .bool la, .int .i64 sd, .slice A1 n c1, .slice A2 m c2]) ∧ Hid (Blk wx gr 25 #[.int .i64 lv, .string lo, .string hi, .bool la, .int .i64 sd, .slice A3 n c3, .slice A4 m c4]) ∧
      Hid (ItO wx 0 (.slice A1 n c1) il) ∧ Hid (KdO wx 0 (.slice A2 m c2) kl) ∧ Hid (ItO wx 0 (.slice A3 n c3) il) ∧ Hid (KdO wx 0 (.slice A4 m c4) kl) ∧
      Hid (Blk wx (w.heap.size + 1) 25 #[.int .i64 0, .string ⟨#[]⟩, .string ⟨#[]⟩, .bool false, .int .i64 0, .slice none 0 0, .slice none 0 0]) ∧ Hid (Blk wx (w.heap.size + 1 + 1) 25 #[.int .i64 0, .string ⟨#[]⟩, .string ⟨#[]⟩, .bool false, .int .i64 0, .slice none 0 0, .slice none 0 0]) ∧ Hid (Kept (fun _ => True) w wx))
    case first =>
      replace KW := Kept.go KW hk
      replace HB := BlkH.go HB hk
      replace HX := BlkH.go HX hk
      replace HZ := BlkH.go HZ hk
      replace HS := SzH.go HS hk
      clear hk HK4 h7 h12 h17 h18 h23 h27
      refine wp_region_held_drew (S := (fun W => W.cell? ⟨w.heap.size, 0, none⟩ = some (.int .i64 lv) ∧ W.cell? ⟨w.heap.size, 1, none⟩ = some (.string lo) ∧ W.cell? ⟨w.heap.size, 2, none⟩ = some (.string hi) ∧ W.cell? ⟨w.heap.size, 3, none⟩ = some (.bool la) ∧ W.cell? ⟨w.heap.size, 4, none⟩ = some (.int .i64 sd) ∧ W.cell? ⟨w.heap.size, 5, none⟩ = some (.slice iA n ic) ∧ W.cell? ⟨w.heap.size, 6, none⟩ = some (.slice kA m kc))) (by kernel_rfl) ?_ (fun hHeld => ?_)
      · exact Blk.box HB.out
      refine wpAnyH_take (i := 0) (v := ?vz1) rfl (by kernel_rfl) (by kernel_rfl) (by kernel_rfl) (fun _ _ _ h => h) (Or.inl ⟨?wz1, ?yz1⟩) (by assumption) ?rz1
      case yz1 => (intro w hSw; (try dsimp only at hSw); go_simp; try with_reducible rfl)
      case wz1 => rfl
      case' rz1 => simp only [Act.put, List.getElem_toArray, List.getElem_cons_zero, List.setIfInBounds_toArray, List.set_cons_zero, List.set_cons_succ]
      refine wpAnyH_take (i := 2) (v := ?vz2) rfl (by kernel_rfl) (by kernel_rfl) (by kernel_rfl) (fun _ _ _ h => h) (Or.inl ⟨?wz2, ?yz2⟩) (by assumption) ?rz2
      case yz2 => (intro w hSw; (try dsimp only at hSw); go_simp; try with_reducible rfl)
      case wz2 => rfl
      case' rz2 => simp only [Act.put, List.getElem_toArray, List.getElem_cons_zero, List.getElem_cons_succ, List.setIfInBounds_toArray, List.set_cons_zero, List.set_cons_succ]
      refine wpAnyH_ready (rs := [1, 4, 5]) (by kernel_rfl) (by simp) ?_
      refine AllReadyH.cons rfl (fun K hK => ?_) ?_
      · skip
        try go_simp
        (go_at_call 25; refine (h25 _ KW.out).mono ?_; rintro e wn ⟨A1, c1, A2, c2, rfl, HI1, HK1, hk⟩; replace KW := Kept.go KW hk; replace HB := BlkH.go HB hk; replace HX := BlkH.go HX hk; replace HZ := BlkH.go HZ hk; replace HS := SzH.go HS hk; (try replace HL := BlkH.go HL hk); (try replace HR := BlkH.go HR hk); clear hk)
        try go_simp
        refine hK.out _ _ ?_ (fun hHeld => ?_)
        · exact Blk.box HB.out
        clear hK K
        try simp only [Act.put, List.getElem_toArray, List.getElem_cons_zero, List.getElem_cons_succ, List.setIfInBounds_toArray, List.set_cons_zero, List.set_cons_succ]
        refine wpAnyH_ready (rs := [3, 4, 5]) (by kernel_rfl) (by simp) ?_
        refine AllReadyH.cons rfl (fun K hK => ?_) ?_
        · skip
          try go_simp
          (go_at_call 25; refine (h25 _ KW.out).mono ?_; rintro e wn ⟨A3, c3, A4, c4, rfl, HI3, HK3, hk⟩; replace HI1 := RowH.go HI1 hk; replace HK1 := RowH.go HK1 hk; replace KW := Kept.go KW hk; replace HB := BlkH.go HB hk; replace HX := BlkH.go HX hk; replace HZ := BlkH.go HZ hk; replace HS := SzH.go HS hk; (try replace HL := BlkH.go HL hk); (try replace HR := BlkH.go HR hk); clear hk)
          try go_simp
          refine hK.out _ _ ?_ (fun hHeld => ?_)
          · exact Blk.box HB.out
          clear hK K
          try simp only [Act.put, List.getElem_toArray, List.getElem_cons_zero, List.getElem_cons_succ, List.setIfInBounds_toArray, List.set_cons_zero, List.set_cons_succ]
          refine wpAnyH_ready (rs := [4, 5]) (by kernel_rfl) (by simp) ?_
          refine AllReadyH.cons rfl (fun K hK => ?_) ?_
          · skip
            (go_simp; first | (obtain ⟨gl, wn, hw, hg, HGL, HL, hk, hfar⟩ := alloc_step HS zpage; simp only [zpage] at hw HL; rw [hw, hg]; clear hw hg; (try have hne := hfar gr _ _ HR.out); (try replace HI1 := RowH.go HI1 hk); (try replace HK1 := RowH.go HK1 hk); (try replace HI3 := RowH.go HI3 hk); (try replace HK3 := RowH.go HK3 hk); replace KW := Kept.go KW hk; replace HB := BlkH.go HB hk; replace HX := BlkH.go HX hk; replace HZ := BlkH.go HZ hk; replace HS := SzH.go HS hk; (try replace HR := BlkH.go HR hk); clear hk) | (obtain ⟨gl, wn, hw, hg, HGL, HL, hk, hfar⟩ := alloc_stepd HS zpage; simp only [zpage] at hw HL; rw [hw, hg]; clear hw hg; (try have hne := hfar gr _ _ HR.out); (try replace HI1 := RowH.go HI1 hk); (try replace HK1 := RowH.go HK1 hk); (try replace HI3 := RowH.go HI3 hk); (try replace HK3 := RowH.go HK3 hk); replace KW := Kept.go KW hk; replace HB := BlkH.go HB hk; replace HX := BlkH.go HX hk; replace HZ := BlkH.go HZ hk; replace HS := SzH.go HS hk; (try replace HR := BlkH.go HR hk); clear hk))
            refine hK.out _ _ ?_ (fun hHeld => ?_)
            · exact Blk.box HB.out
            clear hK K
            try simp only [Act.put, List.getElem_toArray, List.getElem_cons_zero, List.getElem_cons_succ, List.setIfInBounds_toArray, List.set_cons_zero, List.set_cons_succ]
            refine wpAnyH_ready (rs := [5]) (by kernel_rfl) (by simp) ?_
            refine AllReadyH.cons rfl (fun K hK => ?_) AllReadyH.nil
            (go_simp; first | (obtain ⟨gr, wn, hw, hg, HGR, HR, hk, hfar⟩ := alloc_step HS zpage; simp only [zpage] at hw HR; rw [hw, hg]; clear hw hg; (try have hne := (hfar gl _ _ HL.out).symm); (try replace HI1 := RowH.go HI1 hk); (try replace HK1 := RowH.go HK1 hk); (try replace HI3 := RowH.go HI3 hk); (try replace HK3 := RowH.go HK3 hk); replace KW := Kept.go KW hk; replace HB := BlkH.go HB hk; replace HX := BlkH.go HX hk; replace HZ := BlkH.go HZ hk; replace HS := SzH.go HS hk; (try replace HL := BlkH.go HL hk); clear hk) | (obtain ⟨gr, wn, hw, hg, HGR, HR, hk, hfar⟩ := alloc_stepd HS zpage; simp only [zpage] at hw HR; rw [hw, hg]; clear hw hg; (try have hne := (hfar gl _ _ HL.out).symm); (try replace HI1 := RowH.go HI1 hk); (try replace HK1 := RowH.go HK1 hk); (try replace HI3 := RowH.go HI3 hk); (try replace HK3 := RowH.go HK3 hk); replace KW := Kept.go KW hk; replace HB := BlkH.go HB hk; replace HX := BlkH.go HX hk; replace HZ := BlkH.go HZ hk; replace HS := SzH.go HS hk; (try replace HL := BlkH.go HL hk); clear hk))
            refine hK.out _ _ ?_ (fun hHeld => ?_)
            · exact Blk.box HB.out
            clear hK K
            try simp only [Act.put, List.getElem_toArray, List.getElem_cons_zero, List.getElem_cons_succ, List.setIfInBounds_toArray, List.set_cons_zero, List.set_cons_succ]
            refine wpAnyH_ready (rs := [6]) (by kernel_rfl) (by simp) ?_
            refine AllReadyH.cons rfl (fun K hK => ?_) AllReadyH.nil
            (have cc0 := HL.out.cell 0; have cc1 := HL.out.cell 1; have cc2 := HL.out.cell 2; have cc3 := HL.out.cell 3; have cc4 := HL.out.cell 4; have cc5 := HL.out.cell 5; have cc6 := HL.out.cell 6; have ff0 := HL.out.frozen 0; have ff1 := HL.out.frozen 1; have ff2 := HL.out.frozen 2; have ff3 := HL.out.frozen 3; have ff4 := HL.out.frozen 4; have ff5 := HL.out.frozen 5; have ff6 := HL.out.frozen 6; go_simp; obtain ⟨wn, hw, HL2, hk⟩ := set_step HL.out (.int .i64 lv) (.string lo) (.string hi) (.bool la) (.int .i64 sd) (.slice A1 n c1) (.slice A2 m c2); rw [hw]; clear hw cc0 cc1 cc2 cc3 cc4 cc5 cc6 ff0 ff1 ff2 ff3 ff4 ff5 ff6; replace KW := KeptH.far KW hk (Nat.le_trans (Nat.le_add_right _ 3) HGL.out); replace HB := BlkH.far HB hk (by have := HGL.out; omega); replace HX := BlkH.far HX hk (by have := HGL.out; omega); replace HZ := BlkH.far HZ hk (by have := HGL.out; omega); replace HS := SzH.go HS hk; replace HI1 := RowH.far HI1 hk HL (by decide); replace HK1 := RowH.far HK1 hk HL (by decide); replace HI3 := RowH.far HI3 hk HL (by decide); replace HK3 := RowH.far HK3 hk HL (by decide); replace HR := BlkH.far HR hk (fun e => hne e); replace HL := Lib.hid HL2; clear hk HL2)
            refine hK.out _ _ ?_ (fun hHeld => ?_)
            · exact Blk.box HB.out
            clear hK K
            try simp only [Act.put, List.getElem_toArray, List.getElem_cons_zero, List.getElem_cons_succ, List.setIfInBounds_toArray, List.set_cons_zero, List.set_cons_succ]
            refine wpAnyH_ready (rs := [7]) (by kernel_rfl) (by simp) ?_
            refine AllReadyH.cons rfl (fun K hK => ?_) AllReadyH.nil
            (have cc0 := HR.out.cell 0; have cc1 := HR.out.cell 1; have cc2 := HR.out.cell 2; have cc3 := HR.out.cell 3; have cc4 := HR.out.cell 4; have cc5 := HR.out.cell 5; have cc6 := HR.out.cell 6; have ff0 := HR.out.frozen 0; have ff1 := HR.out.frozen 1; have ff2 := HR.out.frozen 2; have ff3 := HR.out.frozen 3; have ff4 := HR.out.frozen 4; have ff5 := HR.out.frozen 5; have ff6 := HR.out.frozen 6; go_simp; obtain ⟨wn, hw, HR2, hk⟩ := set_step HR.out (.int .i64 lv) (.string lo) (.string hi) (.bool la) (.int .i64 sd) (.slice A3 n c3) (.slice A4 m c4); rw [hw]; clear hw cc0 cc1 cc2 cc3 cc4 cc5 cc6 ff0 ff1 ff2 ff3 ff4 ff5 ff6; replace KW := KeptH.far KW hk (Nat.le_trans (Nat.le_add_right _ 3) HGR.out); replace HB := BlkH.far HB hk (by have := HGR.out; omega); replace HX := BlkH.far HX hk (by have := HGR.out; omega); replace HZ := BlkH.far HZ hk (by have := HGR.out; omega); replace HS := SzH.go HS hk; replace HI1 := RowH.far HI1 hk HR (by decide); replace HK1 := RowH.far HK1 hk HR (by decide); replace HI3 := RowH.far HI3 hk HR (by decide); replace HK3 := RowH.far HK3 hk HR (by decide); replace HL := BlkH.far HL hk (fun e => hne e.symm); replace HR := Lib.hid HR2; clear hk HR2)
            refine hK.out _ _ ?_ (fun hHeld => ?_)
            · exact Blk.box HB.out
            clear hK K
            try simp only [Act.put, List.getElem_toArray, List.getElem_cons_zero, List.getElem_cons_succ, List.setIfInBounds_toArray, List.set_cons_zero, List.set_cons_succ]
            refine wpAnyH_done (by kernel_rfl) ?_ _
            go_wp2_with fail
            go_meet
            case rel => exact ⟨gl, gr, A1, c1, A2, c2, A3, c3, A4, c4, rfl, rfl, Lib.hid ⟨fun e => hne e.symm, HGL.out, HGR.out⟩, HL, HR, HI1, HK1, HI3, HK3, HX, HZ, KW⟩
          refine AllReadyH.cons rfl (fun K hK => ?_) AllReadyH.nil
          (go_simp; first | (obtain ⟨gr, wn, hw, hg, HGR, HR, hk, hfar⟩ := alloc_step HS zpage; simp only [zpage] at hw HR; rw [hw, hg]; clear hw hg; (try have hne := (hfar gl _ _ HL.out).symm); (try replace HI1 := RowH.go HI1 hk); (try replace HK1 := RowH.go HK1 hk); (try replace HI3 := RowH.go HI3 hk); (try replace HK3 := RowH.go HK3 hk); replace KW := Kept.go KW hk; replace HB := BlkH.go HB hk; replace HX := BlkH.go HX hk; replace HZ := BlkH.go HZ hk; replace HS := SzH.go HS hk; (try replace HL := BlkH.go HL hk); clear hk) | (obtain ⟨gr, wn, hw, hg, HGR, HR, hk, hfar⟩ := alloc_stepd HS zpage; simp only [zpage] at hw HR; rw [hw, hg]; clear hw hg; (try have hne := (hfar gl _ _ HL.out).symm); (try replace HI1 := RowH.go HI1 hk); (try replace HK1 := RowH.go HK1 hk); (try replace HI3 := RowH.go HI3 hk); (try replace HK3 := RowH.go HK3 hk); replace KW := Kept.go KW hk; replace HB := BlkH.go HB hk; replace HX := BlkH.go HX hk; replace HZ := BlkH.go HZ hk; replace HS := SzH.go HS hk; (try replace HL := BlkH.go HL hk); clear hk))
          refine hK.out _ _ ?_ (fun hHeld => ?_)
          · exact Blk.box HB.out
          clear hK K
          try simp only [Act.put, List.getElem_toArray, List.getElem_cons_zero, List.getElem_cons_succ, List.setIfInBounds_toArray, List.set_cons_zero, List.set_cons_succ]
          refine wpAnyH_ready (rs := [4]) (by kernel_rfl) (by simp) ?_
          refine AllReadyH.cons rfl (fun K hK => ?_) AllReadyH.nil
          (go_simp; first | (obtain ⟨gl, wn, hw, hg, HGL, HL, hk, hfar⟩ := alloc_step HS zpage; simp only [zpage] at hw HL; rw [hw, hg]; clear hw hg; (try have hne := hfar gr _ _ HR.out); (try replace HI1 := RowH.go HI1 hk); (try replace HK1 := RowH.go HK1 hk); (try replace HI3 := RowH.go HI3 hk); (try replace HK3 := RowH.go HK3 hk); replace KW := Kept.go KW hk; replace HB := BlkH.go HB hk; replace HX := BlkH.go HX hk; replace HZ := BlkH.go HZ hk; replace HS := SzH.go HS hk; (try replace HR := BlkH.go HR hk); clear hk) | (obtain ⟨gl, wn, hw, hg, HGL, HL, hk, hfar⟩ := alloc_stepd HS zpage; simp only [zpage] at hw HL; rw [hw, hg]; clear hw hg; (try have hne := hfar gr _ _ HR.out); (try replace HI1 := RowH.go HI1 hk); (try replace HK1 := RowH.go HK1 hk); (try replace HI3 := RowH.go HI3 hk); (try replace HK3 := RowH.go HK3 hk); replace KW := Kept.go KW hk; replace HB := BlkH.go HB hk; replace HX := BlkH.go HX hk; replace HZ := BlkH.go HZ hk; replace HS := SzH.go HS hk; (try replace HR := BlkH.go HR hk); clear hk))
          refine hK.out _ _ ?_ (fun hHeld => ?_)
          · exact Blk.box HB.out
          clear hK K
          try simp only [Act.put, List.getElem_toArray, List.getElem_cons_zero, List.getElem_cons_succ, List.setIfInBounds_toArray, List.set_cons_zero, List.set_cons_succ]
          refine wpAnyH_ready (rs := [6]) (by kernel_rfl) (by simp) ?_
          refine AllReadyH.cons rfl (fun K hK => ?_) AllReadyH.nil
          (have cc0 := HL.out.cell 0; have cc1 := HL.out.cell 1; have cc2 := HL.out.cell 2; have cc3 := HL.out.cell 3; have cc4 := HL.out.cell 4; have cc5 := HL.out.cell 5; have cc6 := HL.out.cell 6; have ff0 := HL.out.frozen 0; have ff1 := HL.out.frozen 1; have ff2 := HL.out.frozen 2; have ff3 := HL.out.frozen 3; have ff4 := HL.out.frozen 4; have ff5 := HL.out.frozen 5; have ff6 := HL.out.frozen 6; go_simp; obtain ⟨wn, hw, HL2, hk⟩ := set_step HL.out (.int .i64 lv) (.string lo) (.string hi) (.bool la) (.int .i64 sd) (.slice A1 n c1) (.slice A2 m c2); rw [hw]; clear hw cc0 cc1 cc2 cc3 cc4 cc5 cc6 ff0 ff1 ff2 ff3 ff4 ff5 ff6; replace KW := KeptH.far KW hk (Nat.le_trans (Nat.le_add_right _ 3) HGL.out); replace HB := BlkH.far HB hk (by have := HGL.out; omega); replace HX := BlkH.far HX hk (by have := HGL.out; omega); replace HZ := BlkH.far HZ hk (by have := HGL.out; omega); replace HS := SzH.go HS hk; replace HI1 := RowH.far HI1 hk HL (by decide); replace HK1 := RowH.far HK1 hk HL (by decide); replace HI3 := RowH.far HI3 hk HL (by decide); replace HK3 := RowH.far HK3 hk HL (by decide); replace HR := BlkH.far HR hk (fun e => hne e); replace HL := Lib.hid HL2; clear hk HL2)
          refine hK.out _ _ ?_ (fun hHeld => ?_)
          · exact Blk.box HB.out
          clear hK K
          try simp only [Act.put, List.getElem_toArray, List.getElem_cons_zero, List.getElem_cons_succ, List.setIfInBounds_toArray, List.set_cons_zero, List.set_cons_succ]
          refine wpAnyH_ready (rs := [7]) (by kernel_rfl) (by simp) ?_
          refine AllReadyH.cons rfl (fun K hK => ?_) AllReadyH.nil
          (have cc0 := HR.out.cell 0; have cc1 := HR.out.cell 1; have cc2 := HR.out.cell 2; have cc3 := HR.out.cell 3; have cc4 := HR.out.cell 4; have cc5 := HR.out.cell 5; have cc6 := HR.out.cell 6; have ff0 := HR.out.frozen 0; have ff1 := HR.out.frozen 1; have ff2 := HR.out.frozen 2; have ff3 := HR.out.frozen 3; have ff4 := HR.out.frozen 4; have ff5 := HR.out.frozen 5; have ff6 := HR.out.frozen 6; go_simp; obtain ⟨wn, hw, HR2, hk⟩ := set_step HR.out (.int .i64 lv) (.string lo) (.string hi) (.bool la) (.int .i64 sd) (.slice A3 n c3) (.slice A4 m c4); rw [hw]; clear hw cc0 cc1 cc2 cc3 cc4 cc5 cc6 ff0 ff1 ff2 ff3 ff4 ff5 ff6; replace KW := KeptH.far KW hk (Nat.le_trans (Nat.le_add_right _ 3) HGR.out); replace HB := BlkH.far HB hk (by have := HGR.out; omega); replace HX := BlkH.far HX hk (by have := HGR.out; omega); replace HZ := BlkH.far HZ hk (by have := HGR.out; omega); replace HS := SzH.go HS hk; replace HI1 := RowH.far HI1 hk HR (by decide); replace HK1 := RowH.far HK1 hk HR (by decide); replace HI3 := RowH.far HI3 hk HR (by decide); replace HK3 := RowH.far HK3 hk HR (by decide); replace HL := BlkH.far HL hk (fun e => hne e.symm); replace HR := Lib.hid HR2; clear hk HR2)
          refine hK.out _ _ ?_ (fun hHeld => ?_)
          · exact Blk.box HB.out
          clear hK K
          try simp only [Act.put, List.getElem_toArray, List.getElem_cons_zero, List.getElem_cons_succ, List.setIfInBounds_toArray, List.set_cons_zero, List.set_cons_succ]
          refine wpAnyH_done (by kernel_rfl) ?_ _
          go_wp2_with fail
          go_meet
          case rel => exact ⟨gl, gr, A1, c1, A2, c2, A3, c3, A4, c4, rfl, rfl, Lib.hid ⟨fun e => hne e.symm, HGL.out, HGR.out⟩, HL, HR, HI1, HK1, HI3, HK3, HX, HZ, KW⟩
        refine AllReadyH.cons rfl (fun K hK => ?_) ?_
        · skip
          (go_simp; first | (obtain ⟨gl, wn, hw, hg, HGL, HL, hk, hfar⟩ := alloc_step HS zpage; simp only [zpage] at hw HL; rw [hw, hg]; clear hw hg; (try have hne := hfar gr _ _ HR.out); (try replace HI1 := RowH.go HI1 hk); (try replace HK1 := RowH.go HK1 hk); (try replace HI3 := RowH.go HI3 hk); (try replace HK3 := RowH.go HK3 hk); replace KW := Kept.go KW hk; replace HB := BlkH.go HB hk; replace HX := BlkH.go HX hk; replace HZ := BlkH.go HZ hk; replace HS := SzH.go HS hk; (try replace HR := BlkH.go HR hk); clear hk) | (obtain ⟨gl, wn, hw, hg, HGL, HL, hk, hfar⟩ := alloc_stepd HS zpage; simp only [zpage] at hw HL; rw [hw, hg]; clear hw hg; (try have hne := hfar gr _ _ HR.out); (try replace HI1 := RowH.go HI1 hk); (try replace HK1 := RowH.go HK1 hk); (try replace HI3 := RowH.go HI3 hk); (try replace HK3 := RowH.go HK3 hk); replace KW := Kept.go KW hk; replace HB := BlkH.go HB hk; replace HX := BlkH.go HX hk; replace HZ := BlkH.go HZ hk; replace HS := SzH.go HS hk; (try replace HR := BlkH.go HR hk); clear hk))
          refine hK.out _ _ ?_ (fun hHeld => ?_)
          · exact Blk.box HB.out
          clear hK K
          try simp only [Act.put, List.getElem_toArray, List.getElem_cons_zero, List.getElem_cons_succ, List.setIfInBounds_toArray, List.set_cons_zero, List.set_cons_succ]
          refine wpAnyH_ready (rs := [3, 5]) (by kernel_rfl) (by simp) ?_
          refine AllReadyH.cons rfl (fun K hK => ?_) ?_
          · skip
            try go_simp
            (go_at_call 25; refine (h25 _ KW.out).mono ?_; rintro e wn ⟨A3, c3, A4, c4, rfl, HI3, HK3, hk⟩; replace HI1 := RowH.go HI1 hk; replace HK1 := RowH.go HK1 hk; replace KW := Kept.go KW hk; replace HB := BlkH.go HB hk; replace HX := BlkH.go HX hk; replace HZ := BlkH.go HZ hk; replace HS := SzH.go HS hk; (try replace HL := BlkH.go HL hk); (try replace HR := BlkH.go HR hk); clear hk)
            try go_simp
            refine hK.out _ _ ?_ (fun hHeld => ?_)
            · exact Blk.box HB.out
            clear hK K
            try simp only [Act.put, List.getElem_toArray, List.getElem_cons_zero, List.getElem_cons_succ, List.setIfInBounds_toArray, List.set_cons_zero, List.set_cons_succ]
            refine wpAnyH_ready (rs := [5]) (by kernel_rfl) (by simp) ?_
            refine AllReadyH.cons rfl (fun K hK => ?_) AllReadyH.nil
            (go_simp; first | (obtain ⟨gr, wn, hw, hg, HGR, HR, hk, hfar⟩ := alloc_step HS zpage; simp only [zpage] at hw HR; rw [hw, hg]; clear hw hg; (try have hne := (hfar gl _ _ HL.out).symm); (try replace HI1 := RowH.go HI1 hk); (try replace HK1 := RowH.go HK1 hk); (try replace HI3 := RowH.go HI3 hk); (try replace HK3 := RowH.go HK3 hk); replace KW := Kept.go KW hk; replace HB := BlkH.go HB hk; replace HX := BlkH.go HX hk; replace HZ := BlkH.go HZ hk; replace HS := SzH.go HS hk; (try replace HL := BlkH.go HL hk); clear hk) | (obtain ⟨gr, wn, hw, hg, HGR, HR, hk, hfar⟩ := alloc_stepd HS zpage; simp only [zpage] at hw HR; rw [hw, hg]; clear hw hg; (try have hne := (hfar gl _ _ HL.out).symm); (try replace HI1 := RowH.go HI1 hk); (try replace HK1 := RowH.go HK1 hk); (try replace HI3 := RowH.go HI3 hk); (try replace HK3 := RowH.go HK3 hk); replace KW := Kept.go KW hk; replace HB := BlkH.go HB hk; replace HX := BlkH.go HX hk; replace HZ := BlkH.go HZ hk; replace HS := SzH.go HS hk; (try replace HL := BlkH.go HL hk); clear hk))
            refine hK.out _ _ ?_ (fun hHeld => ?_)
            · exact Blk.box HB.out
            clear hK K
            try simp only [Act.put, List.getElem_toArray, List.getElem_cons_zero, List.getElem_cons_succ, List.setIfInBounds_toArray, List.set_cons_zero, List.set_cons_succ]
            refine wpAnyH_ready (rs := [6]) (by kernel_rfl) (by simp) ?_
            refine AllReadyH.cons rfl (fun K hK => ?_) AllReadyH.nil
            (have cc0 := HL.out.cell 0; have cc1 := HL.out.cell 1; have cc2 := HL.out.cell 2; have cc3 := HL.out.cell 3; have cc4 := HL.out.cell 4; have cc5 := HL.out.cell 5; have cc6 := HL.out.cell 6; have ff0 := HL.out.frozen 0; have ff1 := HL.out.frozen 1; have ff2 := HL.out.frozen 2; have ff3 := HL.out.frozen 3; have ff4 := HL.out.frozen 4; have ff5 := HL.out.frozen 5; have ff6 := HL.out.frozen 6; go_simp; obtain ⟨wn, hw, HL2, hk⟩ := set_step HL.out (.int .i64 lv) (.string lo) (.string hi) (.bool la) (.int .i64 sd) (.slice A1 n c1) (.slice A2 m c2); rw [hw]; clear hw cc0 cc1 cc2 cc3 cc4 cc5 cc6 ff0 ff1 ff2 ff3 ff4 ff5 ff6; replace KW := KeptH.far KW hk (Nat.le_trans (Nat.le_add_right _ 3) HGL.out); replace HB := BlkH.far HB hk (by have := HGL.out; omega); replace HX := BlkH.far HX hk (by have := HGL.out; omega); replace HZ := BlkH.far HZ hk (by have := HGL.out; omega); replace HS := SzH.go HS hk; replace HI1 := RowH.far HI1 hk HL (by decide); replace HK1 := RowH.far HK1 hk HL (by decide); replace HI3 := RowH.far HI3 hk HL (by decide); replace HK3 := RowH.far HK3 hk HL (by decide); replace HR := BlkH.far HR hk (fun e => hne e); replace HL := Lib.hid HL2; clear hk HL2)
            refine hK.out _ _ ?_ (fun hHeld => ?_)
            · exact Blk.box HB.out
            clear hK K
            try simp only [Act.put, List.getElem_toArray, List.getElem_cons_zero, List.getElem_cons_succ, List.setIfInBounds_toArray, List.set_cons_zero, List.set_cons_succ]
            refine wpAnyH_ready (rs := [7]) (by kernel_rfl) (by simp) ?_
            refine AllReadyH.cons rfl (fun K hK => ?_) AllReadyH.nil
            (have cc0 := HR.out.cell 0; have cc1 := HR.out.cell 1; have cc2 := HR.out.cell 2; have cc3 := HR.out.cell 3; have cc4 := HR.out.cell 4; have cc5 := HR.out.cell 5; have cc6 := HR.out.cell 6; have ff0 := HR.out.frozen 0; have ff1 := HR.out.frozen 1; have ff2 := HR.out.frozen 2; have ff3 := HR.out.frozen 3; have ff4 := HR.out.frozen 4; have ff5 := HR.out.frozen 5; have ff6 := HR.out.frozen 6; go_simp; obtain ⟨wn, hw, HR2, hk⟩ := set_step HR.out (.int .i64 lv) (.string lo) (.string hi) (.bool la) (.int .i64 sd) (.slice A3 n c3) (.slice A4 m c4); rw [hw]; clear hw cc0 cc1 cc2 cc3 cc4 cc5 cc6 ff0 ff1 ff2 ff3 ff4 ff5 ff6; replace KW := KeptH.far KW hk (Nat.le_trans (Nat.le_add_right _ 3) HGR.out); replace HB := BlkH.far HB hk (by have := HGR.out; omega); replace HX := BlkH.far HX hk (by have := HGR.out; omega); replace HZ := BlkH.far HZ hk (by have := HGR.out; omega); replace HS := SzH.go HS hk; replace HI1 := RowH.far HI1 hk HR (by decide); replace HK1 := RowH.far HK1 hk HR (by decide); replace HI3 := RowH.far HI3 hk HR (by decide); replace HK3 := RowH.far HK3 hk HR (by decide); replace HL := BlkH.far HL hk (fun e => hne e.symm); replace HR := Lib.hid HR2; clear hk HR2)
            refine hK.out _ _ ?_ (fun hHeld => ?_)
            · exact Blk.box HB.out
            clear hK K
            try simp only [Act.put, List.getElem_toArray, List.getElem_cons_zero, List.getElem_cons_succ, List.setIfInBounds_toArray, List.set_cons_zero, List.set_cons_succ]
            refine wpAnyH_done (by kernel_rfl) ?_ _
            go_wp2_with fail
            go_meet
            case rel => exact ⟨gl, gr, A1, c1, A2, c2, A3, c3, A4, c4, rfl, rfl, Lib.hid ⟨fun e => hne e.symm, HGL.out, HGR.out⟩, HL, HR, HI1, HK1, HI3, HK3, HX, HZ, KW⟩
          refine AllReadyH.cons rfl (fun K hK => ?_) AllReadyH.nil
          (go_simp; first | (obtain ⟨gr, wn, hw, hg, HGR, HR, hk, hfar⟩ := alloc_step HS zpage; simp only [zpage] at hw HR; rw [hw, hg]; clear hw hg; (try have hne := (hfar gl _ _ HL.out).symm); (try replace HI1 := RowH.go HI1 hk); (try replace HK1 := RowH.go HK1 hk); (try replace HI3 := RowH.go HI3 hk); (try replace HK3 := RowH.go HK3 hk); replace KW := Kept.go KW hk; replace HB := BlkH.go HB hk; replace HX := BlkH.go HX hk; replace HZ := BlkH.go HZ hk; replace HS := SzH.go HS hk; (try replace HL := BlkH.go HL hk); clear hk) | (obtain ⟨gr, wn, hw, hg, HGR, HR, hk, hfar⟩ := alloc_stepd HS zpage; simp only [zpage] at hw HR; rw [hw, hg]; clear hw hg; (try have hne := (hfar gl _ _ HL.out).symm); (try replace HI1 := RowH.go HI1 hk); (try replace HK1 := RowH.go HK1 hk); (try replace HI3 := RowH.go HI3 hk); (try replace HK3 := RowH.go HK3 hk); replace KW := Kept.go KW hk; replace HB := BlkH.go HB hk; replace HX := BlkH.go HX hk; replace HZ := BlkH.go HZ hk; replace HS := SzH.go HS hk; (try replace HL := BlkH.go HL hk); clear hk))
          refine hK.out _ _ ?_ (fun hHeld => ?_)
          · exact Blk.box HB.out
          clear hK K
          try simp only [Act.put, List.getElem_toArray, List.getElem_cons_zero, List.getElem_cons_succ, List.setIfInBounds_toArray, List.set_cons_zero, List.set_cons_succ]
          refine wpAnyH_ready (rs := [3]) (by kernel_rfl) (by simp) ?_
          refine AllReadyH.cons rfl (fun K hK => ?_) AllReadyH.nil
          try go_simp
          (go_at_call 25; refine (h25 _ KW.out).mono ?_; rintro e wn ⟨A3, c3, A4, c4, rfl, HI3, HK3, hk⟩; replace HI1 := RowH.go HI1 hk; replace HK1 := RowH.go HK1 hk; replace KW := Kept.go KW hk; replace HB := BlkH.go HB hk; replace HX := BlkH.go HX hk; replace HZ := BlkH.go HZ hk; replace HS := SzH.go HS hk; (try replace HL := BlkH.go HL hk); (try replace HR := BlkH.go HR hk); clear hk)
          try go_simp
          refine hK.out _ _ ?_ (fun hHeld => ?_)
          · exact Blk.box HB.out
          clear hK K
          try simp only [Act.put, List.getElem_toArray, List.getElem_cons_zero, List.getElem_cons_succ, List.setIfInBounds_toArray, List.set_cons_zero, List.set_cons_succ]
          refine wpAnyH_ready (rs := [6]) (by kernel_rfl) (by simp) ?_
          refine AllReadyH.cons rfl (fun K hK => ?_) AllReadyH.nil
          (have cc0 := HL.out.cell 0; have cc1 := HL.out.cell 1; have cc2 := HL.out.cell 2; have cc3 := HL.out.cell 3; have cc4 := HL.out.cell 4; have cc5 := HL.out.cell 5; have cc6 := HL.out.cell 6; have ff0 := HL.out.frozen 0; have ff1 := HL.out.frozen 1; have ff2 := HL.out.frozen 2; have ff3 := HL.out.frozen 3; have ff4 := HL.out.frozen 4; have ff5 := HL.out.frozen 5; have ff6 := HL.out.frozen 6; go_simp; obtain ⟨wn, hw, HL2, hk⟩ := set_step HL.out (.int .i64 lv) (.string lo) (.string hi) (.bool la) (.int .i64 sd) (.slice A1 n c1) (.slice A2 m c2); rw [hw]; clear hw cc0 cc1 cc2 cc3 cc4 cc5 cc6 ff0 ff1 ff2 ff3 ff4 ff5 ff6; replace KW := KeptH.far KW hk (Nat.le_trans (Nat.le_add_right _ 3) HGL.out); replace HB := BlkH.far HB hk (by have := HGL.out; omega); replace HX := BlkH.far HX hk (by have := HGL.out; omega); replace HZ := BlkH.far HZ hk (by have := HGL.out; omega); replace HS := SzH.go HS hk; replace HI1 := RowH.far HI1 hk HL (by decide); replace HK1 := RowH.far HK1 hk HL (by decide); replace HI3 := RowH.far HI3 hk HL (by decide); replace HK3 := RowH.far HK3 hk HL (by decide); replace HR := BlkH.far HR hk (fun e => hne e); replace HL := Lib.hid HL2; clear hk HL2)
          refine hK.out _ _ ?_ (fun hHeld => ?_)
          · exact Blk.box HB.out
          clear hK K
          try simp only [Act.put, List.getElem_toArray, List.getElem_cons_zero, List.getElem_cons_succ, List.setIfInBounds_toArray, List.set_cons_zero, List.set_cons_succ]
          refine wpAnyH_ready (rs := [7]) (by kernel_rfl) (by simp) ?_
          refine AllReadyH.cons rfl (fun K hK => ?_) AllReadyH.nil
          (have cc0 := HR.out.cell 0; have cc1 := HR.out.cell 1; have cc2 := HR.out.cell 2; have cc3 := HR.out.cell 3; have cc4 := HR.out.cell 4; have cc5 := HR.out.cell 5; have cc6 := HR.out.cell 6; have ff0 := HR.out.frozen 0; have ff1 := HR.out.frozen 1; have ff2 := HR.out.frozen 2; have ff3 := HR.out.frozen 3; have ff4 := HR.out.frozen 4; have ff5 := HR.out.frozen 5; have ff6 := HR.out.frozen 6; go_simp; obtain ⟨wn, hw, HR2, hk⟩ := set_step HR.out (.int .i64 lv) (.string lo) (.string hi) (.bool la) (.int .i64 sd) (.slice A3 n c3) (.slice A4 m c4); rw [hw]; clear hw cc0 cc1 cc2 cc3 cc4 cc5 cc6 ff0 ff1 ff2 ff3 ff4 ff5 ff6; replace KW := KeptH.far KW hk (Nat.le_trans (Nat.le_add_right _ 3) HGR.out); replace HB := BlkH.far HB hk (by have := HGR.out; omega); replace HX := BlkH.far HX hk (by have := HGR.out; omega); replace HZ := BlkH.far HZ hk (by have := HGR.out; omega); replace HS := SzH.go HS hk; replace HI1 := RowH.far HI1 hk HR (by decide); replace HK1 := RowH.far HK1 hk HR (by decide); replace HI3 := RowH.far HI3 hk HR (by decide); replace HK3 := RowH.far HK3 hk HR (by decide); replace HL := BlkH.far HL hk (fun e => hne e.symm); replace HR := Lib.hid HR2; clear hk HR2)
          refine hK.out _ _ ?_ (fun hHeld => ?_)
          · exact Blk.box HB.out
          clear hK K
          try simp only [Act.put, List.getElem_toArray, List.getElem_cons_zero, List.getElem_cons_succ, List.setIfInBounds_toArray, List.set_cons_zero, List.set_cons_succ]
          refine wpAnyH_done (by kernel_rfl) ?_ _
          go_wp2_with fail
          go_meet
          case rel => exact ⟨gl, gr, A1, c1, A2, c2, A3, c3, A4, c4, rfl, rfl, Lib.hid ⟨fun e => hne e.symm, HGL.out, HGR.out⟩, HL, HR, HI1, HK1, HI3, HK3, HX, HZ, KW⟩
        refine AllReadyH.cons rfl (fun K hK => ?_) AllReadyH.nil
        (go_simp; first | (obtain ⟨gr, wn, hw, hg, HGR, HR, hk, hfar⟩ := alloc_step HS zpage; simp only [zpage] at hw HR; rw [hw, hg]; clear hw hg; (try have hne := (hfar gl _ _ HL.out).symm); (try replace HI1 := RowH.go HI1 hk); (try replace HK1 := RowH.go HK1 hk); (try replace HI3 := RowH.go HI3 hk); (try replace HK3 := RowH.go HK3 hk); replace KW := Kept.go KW hk; replace HB := BlkH.go HB hk; replace HX := BlkH.go HX hk; replace HZ := BlkH.go HZ hk; replace HS := SzH.go HS hk; (try replace HL := BlkH.go HL hk); clear hk) | (obtain ⟨gr, wn, hw, hg, HGR, HR, hk, hfar⟩ := alloc_stepd HS zpage; simp only [zpage] at hw HR; rw [hw, hg]; clear hw hg; (try have hne := (hfar gl _ _ HL.out).symm); (try replace HI1 := RowH.go HI1 hk); (try replace HK1 := RowH.go HK1 hk); (try replace HI3 := RowH.go HI3 hk); (try replace HK3 := RowH.go HK3 hk); replace KW := Kept.go KW hk; replace HB := BlkH.go HB hk; replace HX := BlkH.go HX hk; replace HZ := BlkH.go HZ hk; replace HS := SzH.go HS hk; (try replace HL := BlkH.go HL hk); clear hk))
        refine hK.out _ _ ?_ (fun hHeld => ?_)
        · exact Blk.box HB.out
        clear hK K
        try simp only [Act.put, List.getElem_toArray, List.getElem_cons_zero, List.getElem_cons_succ, List.setIfInBounds_toArray, List.set_cons_zero, List.set_cons_succ]
        refine wpAnyH_ready (rs := [3, 4]) (by kernel_rfl) (by simp) ?_
        refine AllReadyH.cons rfl (fun K hK => ?_) ?_
        · skip
          try go_simp
          (go_at_call 25; refine (h25 _ KW.out).mono ?_; rintro e wn ⟨A3, c3, A4, c4, rfl, HI3, HK3, hk⟩; replace HI1 := RowH.go HI1 hk; replace HK1 := RowH.go HK1 hk; replace KW := Kept.go KW hk; replace HB := BlkH.go HB hk; replace HX := BlkH.go HX hk; replace HZ := BlkH.go HZ hk; replace HS := SzH.go HS hk; (try replace HL := BlkH.go HL hk); (try replace HR := BlkH.go HR hk); clear hk)
          try go_simp
          refine hK.out _ _ ?_ (fun hHeld => ?_)
          · exact Blk.box HB.out
          clear hK K
          try simp only [Act.put, List.getElem_toArray, List.getElem_cons_zero, List.getElem_cons_succ, List.setIfInBounds_toArray, List.set_cons_zero, List.set_cons_succ]
          refine wpAnyH_ready (rs := [4]) (by kernel_rfl) (by simp) ?_
          refine AllReadyH.cons rfl (fun K hK => ?_) AllReadyH.nil
          (go_simp; first | (obtain ⟨gl, wn, hw, hg, HGL, HL, hk, hfar⟩ := alloc_step HS zpage; simp only [zpage] at hw HL; rw [hw, hg]; clear hw hg; (try have hne := hfar gr _ _ HR.out); (try replace HI1 := RowH.go HI1 hk); (try replace HK1 := RowH.go HK1 hk); (try replace HI3 := RowH.go HI3 hk); (try replace HK3 := RowH.go HK3 hk); replace KW := Kept.go KW hk; replace HB := BlkH.go HB hk; replace HX := BlkH.go HX hk; replace HZ := BlkH.go HZ hk; replace HS := SzH.go HS hk; (try replace HR := BlkH.go HR hk); clear hk) | (obtain ⟨gl, wn, hw, hg, HGL, HL, hk, hfar⟩ := alloc_stepd HS zpage; simp only [zpage] at hw HL; rw [hw, hg]; clear hw hg; (try have hne := hfar gr _ _ HR.out); (try replace HI1 := RowH.go HI1 hk); (try replace HK1 := RowH.go HK1 hk); (try replace HI3 := RowH.go HI3 hk); (try replace HK3 := RowH.go HK3 hk); replace KW := Kept.go KW hk; replace HB := BlkH.go HB hk; replace HX := BlkH.go HX hk; replace HZ := BlkH.go HZ hk; replace HS := SzH.go HS hk; (try replace HR := BlkH.go HR hk); clear hk))
          refine hK.out _ _ ?_ (fun hHeld => ?_)
          · exact Blk.box HB.out
          clear hK K
          try simp only [Act.put, List.getElem_toArray, List.getElem_cons_zero, List.getElem_cons_succ, List.setIfInBounds_toArray, List.set_cons_zero, List.set_cons_succ]
          refine wpAnyH_ready (rs := [6]) (by kernel_rfl) (by simp) ?_
          refine AllReadyH.cons rfl (fun K hK => ?_) AllReadyH.nil
          (have cc0 := HL.out.cell 0; have cc1 := HL.out.cell 1; have cc2 := HL.out.cell 2; have cc3 := HL.out.cell 3; have cc4 := HL.out.cell 4; have cc5 := HL.out.cell 5; have cc6 := HL.out.cell 6; have ff0 := HL.out.frozen 0; have ff1 := HL.out.frozen 1; have ff2 := HL.out.frozen 2; have ff3 := HL.out.frozen 3; have ff4 := HL.out.frozen 4; have ff5 := HL.out.frozen 5; have ff6 := HL.out.frozen 6; go_simp; obtain ⟨wn, hw, HL2, hk⟩ := set_step HL.out (.int .i64 lv) (.string lo) (.string hi) (.bool la) (.int .i64 sd) (.slice A1 n c1) (.slice A2 m c2); rw [hw]; clear hw cc0 cc1 cc2 cc3 cc4 cc5 cc6 ff0 ff1 ff2 ff3 ff4 ff5 ff6; replace KW := KeptH.far KW hk (Nat.le_trans (Nat.le_add_right _ 3) HGL.out); replace HB := BlkH.far HB hk (by have := HGL.out; omega); replace HX := BlkH.far HX hk (by have := HGL.out; omega); replace HZ := BlkH.far HZ hk (by have := HGL.out; omega); replace HS := SzH.go HS hk; replace HI1 := RowH.far HI1 hk HL (by decide); replace HK1 := RowH.far HK1 hk HL (by decide); replace HI3 := RowH.far HI3 hk HL (by decide); replace HK3 := RowH.far HK3 hk HL (by decide); replace HR := BlkH.far HR hk (fun e => hne e); replace HL := Lib.hid HL2; clear hk HL2)
          refine hK.out _ _ ?_ (fun hHeld => ?_)
          · exact Blk.box HB.out
          clear hK K
          try simp only [Act.put, List.getElem_toArray, List.getElem_cons_zero, List.getElem_cons_succ, List.setIfInBounds_toArray, List.set_cons_zero, List.set_cons_succ]
          refine wpAnyH_ready (rs := [7]) (by kernel_rfl) (by simp) ?_
          refine AllReadyH.cons rfl (fun K hK => ?_) AllReadyH.nil
          (have cc0 := HR.out.cell 0; have cc1 := HR.out.cell 1; have cc2 := HR.out.cell 2; have cc3 := HR.out.cell 3; have cc4 := HR.out.cell 4; have cc5 := HR.out.cell 5; have cc6 := HR.out.cell 6; have ff0 := HR.out.frozen 0; have ff1 := HR.out.frozen 1; have ff2 := HR.out.frozen 2; have ff3 := HR.out.frozen 3; have ff4 := HR.out.frozen 4; have ff5 := HR.out.frozen 5; have ff6 := HR.out.frozen 6; go_simp; obtain ⟨wn, hw, HR2, hk⟩ := set_step HR.out (.int .i64 lv) (.string lo) (.string hi) (.bool la) (.int .i64 sd) (.slice A3 n c3) (.slice A4 m c4); rw [hw]; clear hw cc0 cc1 cc2 cc3 cc4 cc5 cc6 ff0 ff1 ff2 ff3 ff4 ff5 ff6; replace KW := KeptH.far KW hk (Nat.le_trans (Nat.le_add_right _ 3) HGR.out); replace HB := BlkH.far HB hk (by have := HGR.out; omega); replace HX := BlkH.far HX hk (by have := HGR.out; omega); replace HZ := BlkH.far HZ hk (by have := HGR.out; omega); replace HS := SzH.go HS hk; replace HI1 := RowH.far HI1 hk HR (by decide); replace HK1 := RowH.far HK1 hk HR (by decide); replace HI3 := RowH.far HI3 hk HR (by decide); replace HK3 := RowH.far HK3 hk HR (by decide); replace HL := BlkH.far HL hk (fun e => hne e.symm); replace HR := Lib.hid HR2; clear hk HR2)
          refine hK.out _ _ ?_ (fun hHeld => ?_)
          · exact Blk.box HB.out
          clear hK K
          try simp only [Act.put, List.getElem_toArray, List.getElem_cons_zero, List.getElem_cons_succ, List.setIfInBounds_toArray, List.set_cons_zero, List.set_cons_succ]
          refine wpAnyH_done (by kernel_rfl) ?_ _
          go_wp2_with fail
          go_meet
          case rel => exact ⟨gl, gr, A1, c1, A2, c2, A3, c3, A4, c4, rfl, rfl, Lib.hid ⟨fun e => hne e.symm, HGL.out, HGR.out⟩, HL, HR, HI1, HK1, HI3, HK3, HX, HZ, KW⟩
        refine AllReadyH.cons rfl (fun K hK => ?_) AllReadyH.nil
        (go_simp; first | (obtain ⟨gl, wn, hw, hg, HGL, HL, hk, hfar⟩ := alloc_step HS zpage; simp only [zpage] at hw HL; rw [hw, hg]; clear hw hg; (try have hne := hfar gr _ _ HR.out); (try replace HI1 := RowH.go HI1 hk); (try replace HK1 := RowH.go HK1 hk); (try replace HI3 := RowH.go HI3 hk); (try replace HK3 := RowH.go HK3 hk); replace KW := Kept.go KW hk; replace HB := BlkH.go HB hk; replace HX := BlkH.go HX hk; replace HZ := BlkH.go HZ hk; replace HS := SzH.go HS hk; (try replace HR := BlkH.go HR hk); clear hk) | (obtain ⟨gl, wn, hw, hg, HGL, HL, hk, hfar⟩ := alloc_stepd HS zpage; simp only [zpage] at hw HL; rw [hw, hg]; clear hw hg; (try have hne := hfar gr _ _ HR.out); (try replace HI1 := RowH.go HI1 hk); (try replace HK1 := RowH.go HK1 hk); (try replace HI3 := RowH.go HI3 hk); (try replace HK3 := RowH.go HK3 hk); replace KW := Kept.go KW hk; replace HB := BlkH.go HB hk; replace HX := BlkH.go HX hk; replace HZ := BlkH.go HZ hk; replace HS := SzH.go HS hk; (try replace HR := BlkH.go HR hk); clear hk))
        refine hK.out _ _ ?_ (fun hHeld => ?_)
        · exact Blk.box HB.out
        clear hK K
        try simp only [Act.put, List.getElem_toArray, List.getElem_cons_zero, List.getElem_cons_succ, List.setIfInBounds_toArray, List.set_cons_zero, List.set_cons_succ]
        refine wpAnyH_ready (rs := [3]) (by kernel_rfl) (by simp) ?_
        refine AllReadyH.cons rfl (fun K hK => ?_) AllReadyH.nil
        try go_simp
        (go_at_call 25; refine (h25 _ KW.out).mono ?_; rintro e wn ⟨A3, c3, A4, c4, rfl, HI3, HK3, hk⟩; replace HI1 := RowH.go HI1 hk; replace HK1 := RowH.go HK1 hk; replace KW := Kept.go KW hk; replace HB := BlkH.go HB hk; replace HX := BlkH.go HX hk; replace HZ := BlkH.go HZ hk; replace HS := SzH.go HS hk; (try replace HL := BlkH.go HL hk); (try replace HR := BlkH.go HR hk); clear hk)
        try go_simp
        refine hK.out _ _ ?_ (fun hHeld => ?_)
        · exact Blk.box HB.out
        clear hK K
        try simp only [Act.put, List.getElem_toArray, List.getElem_cons_zero, List.getElem_cons_succ, List.setIfInBounds_toArray, List.set_cons_zero, List.set_cons_succ]
        refine wpAnyH_ready (rs := [6]) (by kernel_rfl) (by simp) ?_
        refine AllReadyH.cons rfl (fun K hK => ?_) AllReadyH.nil
        (have cc0 := HL.out.cell 0; have cc1 := HL.out.cell 1; have cc2 := HL.out.cell 2; have cc3 := HL.out.cell 3; have cc4 := HL.out.cell 4; have cc5 := HL.out.cell 5; have cc6 := HL.out.cell 6; have ff0 := HL.out.frozen 0; have ff1 := HL.out.frozen 1; have ff2 := HL.out.frozen 2; have ff3 := HL.out.frozen 3; have ff4 := HL.out.frozen 4; have ff5 := HL.out.frozen 5; have ff6 := HL.out.frozen 6; go_simp; obtain ⟨wn, hw, HL2, hk⟩ := set_step HL.out (.int .i64 lv) (.string lo) (.string hi) (.bool la) (.int .i64 sd) (.slice A1 n c1) (.slice A2 m c2); rw [hw]; clear hw cc0 cc1 cc2 cc3 cc4 cc5 cc6 ff0 ff1 ff2 ff3 ff4 ff5 ff6; replace KW := KeptH.far KW hk (Nat.le_trans (Nat.le_add_right _ 3) HGL.out); replace HB := BlkH.far HB hk (by have := HGL.out; omega); replace HX := BlkH.far HX hk (by have := HGL.out; omega); replace HZ := BlkH.far HZ hk (by have := HGL.out; omega); replace HS := SzH.go HS hk; replace HI1 := RowH.far HI1 hk HL (by decide); replace HK1 := RowH.far HK1 hk HL (by decide); replace HI3 := RowH.far HI3 hk HL (by decide); replace HK3 := RowH.far HK3 hk HL (by decide); replace HR := BlkH.far HR hk (fun e => hne e); replace HL := Lib.hid HL2; clear hk HL2)
        refine hK.out _ _ ?_ (fun hHeld => ?_)
        · exact Blk.box HB.out
        clear hK K
        try simp only [Act.put, List.getElem_toArray, List.getElem_cons_zero, List.getElem_cons_succ, List.setIfInBounds_toArray, List.set_cons_zero, List.set_cons_succ]
        refine wpAnyH_ready (rs := [7]) (by kernel_rfl) (by simp) ?_
        refine AllReadyH.cons rfl (fun K hK => ?_) AllReadyH.nil
        (have cc0 := HR.out.cell 0; have cc1 := HR.out.cell 1; have cc2 := HR.out.cell 2; have cc3 := HR.out.cell 3; have cc4 := HR.out.cell 4; have cc5 := HR.out.cell 5; have cc6 := HR.out.cell 6; have ff0 := HR.out.frozen 0; have ff1 := HR.out.frozen 1; have ff2 := HR.out.frozen 2; have ff3 := HR.out.frozen 3; have ff4 := HR.out.frozen 4; have ff5 := HR.out.frozen 5; have ff6 := HR.out.frozen 6; go_simp; obtain ⟨wn, hw, HR2, hk⟩ := set_step HR.out (.int .i64 lv) (.string lo) (.string hi) (.bool la) (.int .i64 sd) (.slice A3 n c3) (.slice A4 m c4); rw [hw]; clear hw cc0 cc1 cc2 cc3 cc4 cc5 cc6 ff0 ff1 ff2 ff3 ff4 ff5 ff6; replace KW := KeptH.far KW hk (Nat.le_trans (Nat.le_add_right _ 3) HGR.out); replace HB := BlkH.far HB hk (by have := HGR.out; omega); replace HX := BlkH.far HX hk (by have := HGR.out; omega); replace HZ := BlkH.far HZ hk (by have := HGR.out; omega); replace HS := SzH.go HS hk; replace HI1 := RowH.far HI1 hk HR (by decide); replace HK1 := RowH.far HK1 hk HR (by decide); replace HI3 := RowH.far HI3 hk HR (by decide); replace HK3 := RowH.far HK3 hk HR (by decide); replace HL := BlkH.far HL hk (fun e => hne e.symm); replace HR := Lib.hid HR2; clear hk HR2)
        refine hK.out _ _ ?_ (fun hHeld => ?_)
        · exact Blk.box HB.out
        clear hK K
        try simp only [Act.put, List.getElem_toArray, List.getElem_cons_zero, List.getElem_cons_succ, List.setIfInBounds_toArray, List.set_cons_zero, List.set_cons_succ]
        refine wpAnyH_done (by kernel_rfl) ?_ _
        go_wp2_with fail
        go_meet
        case rel => exact ⟨gl, gr, A1, c1, A2, c2, A3, c3, A4, c4, rfl, rfl, Lib.hid ⟨fun e => hne e.symm, HGL.out, HGR.out⟩, HL, HR, HI1, HK1, HI3, HK3, HX, HZ, KW⟩
      refine AllReadyH.cons rfl (fun K hK => ?_) ?_
      · skip
        (go_simp; first | (obtain ⟨gl, wn, hw, hg, HGL, HL, hk, hfar⟩ := alloc_step HS zpage; simp only [zpage] at hw HL; rw [hw, hg]; clear hw hg; (try have hne := hfar gr _ _ HR.out); (try replace HI1 := RowH.go HI1 hk); (try replace HK1 := RowH.go HK1 hk); (try replace HI3 := RowH.go HI3 hk); (try replace HK3 := RowH.go HK3 hk); replace KW := Kept.go KW hk; replace HB := BlkH.go HB hk; replace HX := BlkH.go HX hk; replace HZ := BlkH.go HZ hk; replace HS := SzH.go HS hk; (try replace HR := BlkH.go HR hk); clear hk) | (obtain ⟨gl, wn, hw, hg, HGL, HL, hk, hfar⟩ := alloc_stepd HS zpage; simp only [zpage] at hw HL; rw [hw, hg]; clear hw hg; (try have hne := hfar gr _ _ HR.out); (try replace HI1 := RowH.go HI1 hk); (try replace HK1 := RowH.go HK1 hk); (try replace HI3 := RowH.go HI3 hk); (try replace HK3 := RowH.go HK3 hk); replace KW := Kept.go KW hk; replace HB := BlkH.go HB hk; replace HX := BlkH.go HX hk; replace HZ := BlkH.go HZ hk; replace HS := SzH.go HS hk; (try replace HR := BlkH.go HR hk); clear hk))
        refine hK.out _ _ ?_ (fun hHeld => ?_)
        · exact Blk.box HB.out
        clear hK K
        try simp only [Act.put, List.getElem_toArray, List.getElem_cons_zero, List.getElem_cons_succ, List.setIfInBounds_toArray, List.set_cons_zero, List.set_cons_succ]
        refine wpAnyH_ready (rs := [1, 5]) (by kernel_rfl) (by simp) ?_
        refine AllReadyH.cons rfl (fun K hK => ?_) ?_
        · skip
          try go_simp
          (go_at_call 25; refine (h25 _ KW.out).mono ?_; rintro e wn ⟨A1, c1, A2, c2, rfl, HI1, HK1, hk⟩; replace KW := Kept.go KW hk; replace HB := BlkH.go HB hk; replace HX := BlkH.go HX hk; replace HZ := BlkH.go HZ hk; replace HS := SzH.go HS hk; (try replace HL := BlkH.go HL hk); (try replace HR := BlkH.go HR hk); clear hk)
          try go_simp
          refine hK.out _ _ ?_ (fun hHeld => ?_)
          · exact Blk.box HB.out
          clear hK K
          try simp only [Act.put, List.getElem_toArray, List.getElem_cons_zero, List.getElem_cons_succ, List.setIfInBounds_toArray, List.set_cons_zero, List.set_cons_succ]
          refine wpAnyH_ready (rs := [3, 5]) (by kernel_rfl) (by simp) ?_
          refine AllReadyH.cons rfl (fun K hK => ?_) ?_
          · skip
            try go_simp
            (go_at_call 25; refine (h25 _ KW.out).mono ?_; rintro e wn ⟨A3, c3, A4, c4, rfl, HI3, HK3, hk⟩; replace HI1 := RowH.go HI1 hk; replace HK1 := RowH.go HK1 hk; replace KW := Kept.go KW hk; replace HB := BlkH.go HB hk; replace HX := BlkH.go HX hk; replace HZ := BlkH.go HZ hk; replace HS := SzH.go HS hk; (try replace HL := BlkH.go HL hk); (try replace HR := BlkH.go HR hk); clear hk)
            try go_simp
            refine hK.out _ _ ?_ (fun hHeld => ?_)
            · exact Blk.box HB.out
            clear hK K
            try simp only [Act.put, List.getElem_toArray, List.getElem_cons_zero, List.getElem_cons_succ, List.setIfInBounds_toArray, List.set_cons_zero, List.set_cons_succ]
            refine wpAnyH_ready (rs := [5]) (by kernel_rfl) (by simp) ?_
            refine AllReadyH.cons rfl (fun K hK => ?_) AllReadyH.nil
            (go_simp; first | (obtain ⟨gr, wn, hw, hg, HGR, HR, hk, hfar⟩ := alloc_step HS zpage; simp only [zpage] at hw HR; rw [hw, hg]; clear hw hg; (try have hne := (hfar gl _ _ HL.out).symm); (try replace HI1 := RowH.go HI1 hk); (try replace HK1 := RowH.go HK1 hk); (try replace HI3 := RowH.go HI3 hk); (try replace HK3 := RowH.go HK3 hk); replace KW := Kept.go KW hk; replace HB := BlkH.go HB hk; replace HX := BlkH.go HX hk; replace HZ := BlkH.go HZ hk; replace HS := SzH.go HS hk; (try replace HL := BlkH.go HL hk); clear hk) | (obtain ⟨gr, wn, hw, hg, HGR, HR, hk, hfar⟩ := alloc_stepd HS zpage; simp only [zpage] at hw HR; rw [hw, hg]; clear hw hg; (try have hne := (hfar gl _ _ HL.out).symm); (try replace HI1 := RowH.go HI1 hk); (try replace HK1 := RowH.go HK1 hk); (try replace HI3 := RowH.go HI3 hk); (try replace HK3 := RowH.go HK3 hk); replace KW := Kept.go KW hk; replace HB := BlkH.go HB hk; replace HX := BlkH.go HX hk; replace HZ := BlkH.go HZ hk; replace HS := SzH.go HS hk; (try replace HL := BlkH.go HL hk); clear hk))
            refine hK.out _ _ ?_ (fun hHeld => ?_)
            · exact Blk.box HB.out
            clear hK K
            try simp only [Act.put, List.getElem_toArray, List.getElem_cons_zero, List.getElem_cons_succ, List.setIfInBounds_toArray, List.set_cons_zero, List.set_cons_succ]
            refine wpAnyH_ready (rs := [6]) (by kernel_rfl) (by simp) ?_
            refine AllReadyH.cons rfl (fun K hK => ?_) AllReadyH.nil
            (have cc0 := HL.out.cell 0; have cc1 := HL.out.cell 1; have cc2 := HL.out.cell 2; have cc3 := HL.out.cell 3; have cc4 := HL.out.cell 4; have cc5 := HL.out.cell 5; have cc6 := HL.out.cell 6; have ff0 := HL.out.frozen 0; have ff1 := HL.out.frozen 1; have ff2 := HL.out.frozen 2; have ff3 := HL.out.frozen 3; have ff4 := HL.out.frozen 4; have ff5 := HL.out.frozen 5; have ff6 := HL.out.frozen 6; go_simp; obtain ⟨wn, hw, HL2, hk⟩ := set_step HL.out (.int .i64 lv) (.string lo) (.string hi) (.bool la) (.int .i64 sd) (.slice A1 n c1) (.slice A2 m c2); rw [hw]; clear hw cc0 cc1 cc2 cc3 cc4 cc5 cc6 ff0 ff1 ff2 ff3 ff4 ff5 ff6; replace KW := KeptH.far KW hk (Nat.le_trans (Nat.le_add_right _ 3) HGL.out); replace HB := BlkH.far HB hk (by have := HGL.out; omega); replace HX := BlkH.far HX hk (by have := HGL.out; omega); replace HZ := BlkH.far HZ hk (by have := HGL.out; omega); replace HS := SzH.go HS hk; replace HI1 := RowH.far HI1 hk HL (by decide); replace HK1 := RowH.far HK1 hk HL (by decide); replace HI3 := RowH.far HI3 hk HL (by decide); replace HK3 := RowH.far HK3 hk HL (by decide); replace HR := BlkH.far HR hk (fun e => hne e); replace HL := Lib.hid HL2; clear hk HL2)
            refine hK.out _ _ ?_ (fun hHeld => ?_)
            · exact Blk.box HB.out
            clear hK K
            try simp only [Act.put, List.getElem_toArray, List.getElem_cons_zero, List.getElem_cons_succ, List.setIfInBounds_toArray, List.set_cons_zero, List.set_cons_succ]
            refine wpAnyH_ready (rs := [7]) (by kernel_rfl) (by simp) ?_
            refine AllReadyH.cons rfl (fun K hK => ?_) AllReadyH.nil
            (have cc0 := HR.out.cell 0; have cc1 := HR.out.cell 1; have cc2 := HR.out.cell 2; have cc3 := HR.out.cell 3; have cc4 := HR.out.cell 4; have cc5 := HR.out.cell 5; have cc6 := HR.out.cell 6; have ff0 := HR.out.frozen 0; have ff1 := HR.out.frozen 1; have ff2 := HR.out.frozen 2; have ff3 := HR.out.frozen 3; have ff4 := HR.out.frozen 4; have ff5 := HR.out.frozen 5; have ff6 := HR.out.frozen 6; go_simp; obtain ⟨wn, hw, HR2, hk⟩ := set_step HR.out (.int .i64 lv) (.string lo) (.string hi) (.bool la) (.int .i64 sd) (.slice A3 n c3) (.slice A4 m c4); rw [hw]; clear hw cc0 cc1 cc2 cc3 cc4 cc5 cc6 ff0 ff1 ff2 ff3 ff4 ff5 ff6; replace KW := KeptH.far KW hk (Nat.le_trans (Nat.le_add_right _ 3) HGR.out); replace HB := BlkH.far HB hk (by have := HGR.out; omega); replace HX := BlkH.far HX hk (by have := HGR.out; omega); replace HZ := BlkH.far HZ hk (by have := HGR.out; omega); replace HS := SzH.go HS hk; replace HI1 := RowH.far HI1 hk HR (by decide); replace HK1 := RowH.far HK1 hk HR (by decide); replace HI3 := RowH.far HI3 hk HR (by decide); replace HK3 := RowH.far HK3 hk HR (by decide); replace HL := BlkH.far HL hk (fun e => hne e.symm); replace HR := Lib.hid HR2; clear hk HR2)
            refine hK.out _ _ ?_ (fun hHeld => ?_)
            · exact Blk.box HB.out
            clear hK K
            try simp only [Act.put, List.getElem_toArray, List.getElem_cons_zero, List.getElem_cons_succ, List.setIfInBounds_toArray, List.set_cons_zero, List.set_cons_succ]
            refine wpAnyH_done (by kernel_rfl) ?_ _
            go_wp2_with fail
            go_meet
            case rel => exact ⟨gl, gr, A1, c1, A2, c2, A3, c3, A4, c4, rfl, rfl, Lib.hid ⟨fun e => hne e.symm, HGL.out, HGR.out⟩, HL, HR, HI1, HK1, HI3, HK3, HX, HZ, KW⟩
          refine AllReadyH.cons rfl (fun K hK => ?_) AllReadyH.nil
          (go_simp; first | (obtain ⟨gr, wn, hw, hg, HGR, HR, hk, hfar⟩ := alloc_step HS zpage; simp only [zpage] at hw HR; rw [hw, hg]; clear hw hg; (try have hne := (hfar gl _ _ HL.out).symm); (try replace HI1 := RowH.go HI1 hk); (try replace HK1 := RowH.go HK1 hk); (try replace HI3 := RowH.go HI3 hk); (try replace HK3 := RowH.go HK3 hk); replace KW := Kept.go KW hk; replace HB := BlkH.go HB hk; replace HX := BlkH.go HX hk; replace HZ := BlkH.go HZ hk; replace HS := SzH.go HS hk; (try replace HL := BlkH.go HL hk); clear hk) | (obtain ⟨gr, wn, hw, hg, HGR, HR, hk, hfar⟩ := alloc_stepd HS zpage; simp only [zpage] at hw HR; rw [hw, hg]; clear hw hg; (try have hne := (hfar gl _ _ HL.out).symm); (try replace HI1 := RowH.go HI1 hk); (try replace HK1 := RowH.go HK1 hk); (try replace HI3 := RowH.go HI3 hk); (try replace HK3 := RowH.go HK3 hk); replace KW := Kept.go KW hk; replace HB := BlkH.go HB hk; replace HX := BlkH.go HX hk; replace HZ := BlkH.go HZ hk; replace HS := SzH.go HS hk; (try replace HL := BlkH.go HL hk); clear hk))
          refine hK.out _ _ ?_ (fun hHeld => ?_)
          · exact Blk.box HB.out
          clear hK K
          try simp only [Act.put, List.getElem_toArray, List.getElem_cons_zero, List.getElem_cons_succ, List.setIfInBounds_toArray, List.set_cons_zero, List.set_cons_succ]
          refine wpAnyH_ready (rs := [3]) (by kernel_rfl) (by simp) ?_
          refine AllReadyH.cons rfl (fun K hK => ?_) AllReadyH.nil
          try go_simp
          (go_at_call 25; refine (h25 _ KW.out).mono ?_; rintro e wn ⟨A3, c3, A4, c4, rfl, HI3, HK3, hk⟩; replace HI1 := RowH.go HI1 hk; replace HK1 := RowH.go HK1 hk; replace KW := Kept.go KW hk; replace HB := BlkH.go HB hk; replace HX := BlkH.go HX hk; replace HZ := BlkH.go HZ hk; replace HS := SzH.go HS hk; (try replace HL := BlkH.go HL hk); (try replace HR := BlkH.go HR hk); clear hk)
          try go_simp
          refine hK.out _ _ ?_ (fun hHeld => ?_)
          · exact Blk.box HB.out
          clear hK K
          try simp only [Act.put, List.getElem_toArray, List.getElem_cons_zero, List.getElem_cons_succ, List.setIfInBounds_toArray, List.set_cons_zero, List.set_cons_succ]
          refine wpAnyH_ready (rs := [6]) (by kernel_rfl) (by simp) ?_
          refine AllReadyH.cons rfl (fun K hK => ?_) AllReadyH.nil
          (have cc0 := HL.out.cell 0; have cc1 := HL.out.cell 1; have cc2 := HL.out.cell 2; have cc3 := HL.out.cell 3; have cc4 := HL.out.cell 4; have cc5 := HL.out.cell 5; have cc6 := HL.out.cell 6; have ff0 := HL.out.frozen 0; have ff1 := HL.out.frozen 1; have ff2 := HL.out.frozen 2; have ff3 := HL.out.frozen 3; have ff4 := HL.out.frozen 4; have ff5 := HL.out.frozen 5; have ff6 := HL.out.frozen 6; go_simp; obtain ⟨wn, hw, HL2, hk⟩ := set_step HL.out (.int .i64 lv) (.string lo) (.string hi) (.bool la) (.int .i64 sd) (.slice A1 n c1) (.slice A2 m c2); rw [hw]; clear hw cc0 cc1 cc2 cc3 cc4 cc5 cc6 ff0 ff1 ff2 ff3 ff4 ff5 ff6; replace KW := KeptH.far KW hk (Nat.le_trans (Nat.le_add_right _ 3) HGL.out); replace HB := BlkH.far HB hk (by have := HGL.out; omega); replace HX := BlkH.far HX hk (by have := HGL.out; omega); replace HZ := BlkH.far HZ hk (by have := HGL.out; omega); replace HS := SzH.go HS hk; replace HI1 := RowH.far HI1 hk HL (by decide); replace HK1 := RowH.far HK1 hk HL (by decide); replace HI3 := RowH.far HI3 hk HL (by decide); replace HK3 := RowH.far HK3 hk HL (by decide); replace HR := BlkH.far HR hk (fun e => hne e); replace HL := Lib.hid HL2; clear hk HL2)
          refine hK.out _ _ ?_ (fun hHeld => ?_)
          · exact Blk.box HB.out
          clear hK K
          try simp only [Act.put, List.getElem_toArray, List.getElem_cons_zero, List.getElem_cons_succ, List.setIfInBounds_toArray, List.set_cons_zero, List.set_cons_succ]
          refine wpAnyH_ready (rs := [7]) (by kernel_rfl) (by simp) ?_
          refine AllReadyH.cons rfl (fun K hK => ?_) AllReadyH.nil
          (have cc0 := HR.out.cell 0; have cc1 := HR.out.cell 1; have cc2 := HR.out.cell 2; have cc3 := HR.out.cell 3; have cc4 := HR.out.cell 4; have cc5 := HR.out.cell 5; have cc6 := HR.out.cell 6; have ff0 := HR.out.frozen 0; have ff1 := HR.out.frozen 1; have ff2 := HR.out.frozen 2; have ff3 := HR.out.frozen 3; have ff4 := HR.out.frozen 4; have ff5 := HR.out.frozen 5; have ff6 := HR.out.frozen 6; go_simp; obtain ⟨wn, hw, HR2, hk⟩ := set_step HR.out (.int .i64 lv) (.string lo) (.string hi) (.bool la) (.int .i64 sd) (.slice A3 n c3) (.slice A4 m c4); rw [hw]; clear hw cc0 cc1 cc2 cc3 cc4 cc5 cc6 ff0 ff1 ff2 ff3 ff4 ff5 ff6; replace KW := KeptH.far KW hk (Nat.le_trans (Nat.le_add_right _ 3) HGR.out); replace HB := BlkH.far HB hk (by have := HGR.out; omega); replace HX := BlkH.far HX hk (by have := HGR.out; omega); replace HZ := BlkH.far HZ hk (by have := HGR.out; omega); replace HS := SzH.go HS hk; replace HI1 := RowH.far HI1 hk HR (by decide); replace HK1 := RowH.far HK1 hk HR (by decide); replace HI3 := RowH.far HI3 hk HR (by decide); replace HK3 := RowH.far HK3 hk HR (by decide); replace HL := BlkH.far HL hk (fun e => hne e.symm); replace HR := Lib.hid HR2; clear hk HR2)
          refine hK.out _ _ ?_ (fun hHeld => ?_)
          · exact Blk.box HB.out
          clear hK K
          try simp only [Act.put, List.getElem_toArray, List.getElem_cons_zero, List.getElem_cons_succ, List.setIfInBounds_toArray, List.set_cons_zero, List.set_cons_succ]
          refine wpAnyH_done (by kernel_rfl) ?_ _
          go_wp2_with fail
          go_meet
          case rel => exact ⟨gl, gr, A1, c1, A2, c2, A3, c3, A4, c4, rfl, rfl, Lib.hid ⟨fun e => hne e.symm, HGL.out, HGR.out⟩, HL, HR, HI1, HK1, HI3, HK3, HX, HZ, KW⟩
        refine AllReadyH.cons rfl (fun K hK => ?_) AllReadyH.nil
        (go_simp; first | (obtain ⟨gr, wn, hw, hg, HGR, HR, hk, hfar⟩ := alloc_step HS zpage; simp only [zpage] at hw HR; rw [hw, hg]; clear hw hg; (try have hne := (hfar gl _ _ HL.out).symm); (try replace HI1 := RowH.go HI1 hk); (try replace HK1 := RowH.go HK1 hk); (try replace HI3 := RowH.go HI3 hk); (try replace HK3 := RowH.go HK3 hk); replace KW := Kept.go KW hk; replace HB := BlkH.go HB hk; replace HX := BlkH.go HX hk; replace HZ := BlkH.go HZ hk; replace HS := SzH.go HS hk; (try replace HL := BlkH.go HL hk); clear hk) | (obtain ⟨gr, wn, hw, hg, HGR, HR, hk, hfar⟩ := alloc_stepd HS zpage; simp only [zpage] at hw HR; rw [hw, hg]; clear hw hg; (try have hne := (hfar gl _ _ HL.out).symm); (try replace HI1 := RowH.go HI1 hk); (try replace HK1 := RowH.go HK1 hk); (try replace HI3 := RowH.go HI3 hk); (try replace HK3 := RowH.go HK3 hk); replace KW := Kept.go KW hk; replace HB := BlkH.go HB hk; replace HX := BlkH.go HX hk; replace HZ := BlkH.go HZ hk; replace HS := SzH.go HS hk; (try replace HL := BlkH.go HL hk); clear hk))
        refine hK.out _ _ ?_ (fun hHeld => ?_)
        · exact Blk.box HB.out
        clear hK K
        try simp only [Act.put, List.getElem_toArray, List.getElem_cons_zero, List.getElem_cons_succ, List.setIfInBounds_toArray, List.set_cons_zero, List.set_cons_succ]
        refine wpAnyH_ready (rs := [1]) (by kernel_rfl) (by simp) ?_
        refine AllReadyH.cons rfl (fun K hK => ?_) AllReadyH.nil
        try go_simp
        (go_at_call 25; refine (h25 _ KW.out).mono ?_; rintro e wn ⟨A1, c1, A2, c2, rfl, HI1, HK1, hk⟩; replace KW := Kept.go KW hk; replace HB := BlkH.go HB hk; replace HX := BlkH.go HX hk; replace HZ := BlkH.go HZ hk; replace HS := SzH.go HS hk; (try replace HL := BlkH.go HL hk); (try replace HR := BlkH.go HR hk); clear hk)
        try go_simp
        refine hK.out _ _ ?_ (fun hHeld => ?_)
        · exact Blk.box HB.out
        clear hK K
        try simp only [Act.put, List.getElem_toArray, List.getElem_cons_zero, List.getElem_cons_succ, List.setIfInBounds_toArray, List.set_cons_zero, List.set_cons_succ]
        refine wpAnyH_ready (rs := [3]) (by kernel_rfl) (by simp) ?_
        refine AllReadyH.cons rfl (fun K hK => ?_) AllReadyH.nil
        try go_simp
        (go_at_call 25; refine (h25 _ KW.out).mono ?_; rintro e wn ⟨A3, c3, A4, c4, rfl, HI3, HK3, hk⟩; replace HI1 := RowH.go HI1 hk; replace HK1 := RowH.go HK1 hk; replace KW := Kept.go KW hk; replace HB := BlkH.go HB hk; replace HX := BlkH.go HX hk; replace HZ := BlkH.go HZ hk; replace HS := SzH.go HS hk; (try replace HL := BlkH.go HL hk); (try replace HR := BlkH.go HR hk); clear hk)
        try go_simp
        refine hK.out _ _ ?_ (fun hHeld => ?_)
        · exact Blk.box HB.out
        clear hK K
        try simp only [Act.put, List.getElem_toArray, List.getElem_cons_zero, List.getElem_cons_succ, List.setIfInBounds_toArray, List.set_cons_zero, List.set_cons_succ]
        refine wpAnyH_ready (rs := [6]) (by kernel_rfl) (by simp) ?_
        refine AllReadyH.cons rfl (fun K hK => ?_) AllReadyH.nil
        (have cc0 := HL.out.cell 0; have cc1 := HL.out.cell 1; have cc2 := HL.out.cell 2; have cc3 := HL.out.cell 3; have cc4 := HL.out.cell 4; have cc5 := HL.out.cell 5; have cc6 := HL.out.cell 6; have ff0 := HL.out.frozen 0; have ff1 := HL.out.frozen 1; have ff2 := HL.out.frozen 2; have ff3 := HL.out.frozen 3; have ff4 := HL.out.frozen 4; have ff5 := HL.out.frozen 5; have ff6 := HL.out.frozen 6; go_simp; obtain ⟨wn, hw, HL2, hk⟩ := set_step HL.out (.int .i64 lv) (.string lo) (.string hi) (.bool la) (.int .i64 sd) (.slice A1 n c1) (.slice A2 m c2); rw [hw]; clear hw cc0 cc1 cc2 cc3 cc4 cc5 cc6 ff0 ff1 ff2 ff3 ff4 ff5 ff6; replace KW := KeptH.far KW hk (Nat.le_trans (Nat.le_add_right _ 3) HGL.out); replace HB := BlkH.far HB hk (by have := HGL.out; omega); replace HX := BlkH.far HX hk (by have := HGL.out; omega); replace HZ := BlkH.far HZ hk (by have := HGL.out; omega); replace HS := SzH.go HS hk; replace HI1 := RowH.far HI1 hk HL (by decide); replace HK1 := RowH.far HK1 hk HL (by decide); replace HI3 := RowH.far HI3 hk HL (by decide); replace HK3 := RowH.far HK3 hk HL (by decide); replace HR := BlkH.far HR hk (fun e => hne e); replace HL := Lib.hid HL2; clear hk HL2)
        refine hK.out _ _ ?_ (fun hHeld => ?_)
        · exact Blk.box HB.out
        clear hK K
        try simp only [Act.put, List.getElem_toArray, List.getElem_cons_zero, List.getElem_cons_succ, List.setIfInBounds_toArray, List.set_cons_zero, List.set_cons_succ]
        refine wpAnyH_ready (rs := [7]) (by kernel_rfl) (by simp) ?_
        refine AllReadyH.cons rfl (fun K hK => ?_) AllReadyH.nil
        (have cc0 := HR.out.cell 0; have cc1 := HR.out.cell 1; have cc2 := HR.out.cell 2; have cc3 := HR.out.cell 3; have cc4 := HR.out.cell 4; have cc5 := HR.out.cell 5; have cc6 := HR.out.cell 6; have ff0 := HR.out.frozen 0; have ff1 := HR.out.frozen 1; have ff2 := HR.out.frozen 2; have ff3 := HR.out.frozen 3; have ff4 := HR.out.frozen 4; have ff5 := HR.out.frozen 5; have ff6 := HR.out.frozen 6; go_simp; obtain ⟨wn, hw, HR2, hk⟩ := set_step HR.out (.int .i64 lv) (.string lo) (.string hi) (.bool la) (.int .i64 sd) (.slice A3 n c3) (.slice A4 m c4); rw [hw]; clear hw cc0 cc1 cc2 cc3 cc4 cc5 cc6 ff0 ff1 ff2 ff3 ff4 ff5 ff6; replace KW := KeptH.far KW hk (Nat.le_trans (Nat.le_add_right _ 3) HGR.out); replace HB := BlkH.far HB hk (by have := HGR.out; omega); replace HX := BlkH.far HX hk (by have := HGR.out; omega); replace HZ := BlkH.far HZ hk (by have := HGR.out; omega); replace HS := SzH.go HS hk; replace HI1 := RowH.far HI1 hk HR (by decide); replace HK1 := RowH.far HK1 hk HR (by decide); replace HI3 := RowH.far HI3 hk HR (by decide); replace HK3 := RowH.far HK3 hk HR (by decide); replace HL := BlkH.far HL hk (fun e => hne e.symm); replace HR := Lib.hid HR2; clear hk HR2)
        refine hK.out _ _ ?_ (fun hHeld => ?_)
        · exact Blk.box HB.out
        clear hK K
        try simp only [Act.put, List.getElem_toArray, List.getElem_cons_zero, List.getElem_cons_succ, List.setIfInBounds_toArray, List.set_cons_zero, List.set_cons_succ]
        refine wpAnyH_done (by kernel_rfl) ?_ _
        go_wp2_with fail
        go_meet
        case rel => exact ⟨gl, gr, A1, c1, A2, c2, A3, c3, A4, c4, rfl, rfl, Lib.hid ⟨fun e => hne e.symm, HGL.out, HGR.out⟩, HL, HR, HI1, HK1, HI3, HK3, HX, HZ, KW⟩
      refine AllReadyH.cons rfl (fun K hK => ?_) AllReadyH.nil
      (go_simp; first | (obtain ⟨gr, wn, hw, hg, HGR, HR, hk, hfar⟩ := alloc_step HS zpage; simp only [zpage] at hw HR; rw [hw, hg]; clear hw hg; (try have hne := (hfar gl _ _ HL.out).symm); (try replace HI1 := RowH.go HI1 hk); (try replace HK1 := RowH.go HK1 hk); (try replace HI3 := RowH.go HI3 hk); (try replace HK3 := RowH.go HK3 hk); replace KW := Kept.go KW hk; replace HB := BlkH.go HB hk; replace HX := BlkH.go HX hk; replace HZ := BlkH.go HZ hk; replace HS := SzH.go HS hk; (try replace HL := BlkH.go HL hk); clear hk) | (obtain ⟨gr, wn, hw, hg, HGR, HR, hk, hfar⟩ := alloc_stepd HS zpage; simp only [zpage] at hw HR; rw [hw, hg]; clear hw hg; (try have hne := (hfar gl _ _ HL.out).symm); (try replace HI1 := RowH.go HI1 hk); (try replace HK1 := RowH.go HK1 hk); (try replace HI3 := RowH.go HI3 hk); (try replace HK3 := RowH.go HK3 hk); replace KW := Kept.go KW hk; replace HB := BlkH.go HB hk; replace HX := BlkH.go HX hk; replace HZ := BlkH.go HZ hk; replace HS := SzH.go HS hk; (try replace HL := BlkH.go HL hk); clear hk))
      refine hK.out _ _ ?_ (fun hHeld => ?_)
      · exact Blk.box HB.out
      clear hK K
      try simp only [Act.put, List.getElem_toArray, List.getElem_cons_zero, List.getElem_cons_succ, List.setIfInBounds_toArray, List.set_cons_zero, List.set_cons_succ]
      refine wpAnyH_ready (rs := [1, 4]) (by kernel_rfl) (by simp) ?_
      refine AllReadyH.cons rfl (fun K hK => ?_) ?_
      · skip
        try go_simp
        (go_at_call 25; refine (h25 _ KW.out).mono ?_; rintro e wn ⟨A1, c1, A2, c2, rfl, HI1, HK1, hk⟩; replace KW := Kept.go KW hk; replace HB := BlkH.go HB hk; replace HX := BlkH.go HX hk; replace HZ := BlkH.go HZ hk; replace HS := SzH.go HS hk; (try replace HL := BlkH.go HL hk); (try replace HR := BlkH.go HR hk); clear hk)
        try go_simp
        refine hK.out _ _ ?_ (fun hHeld => ?_)
        · exact Blk.box HB.out
        clear hK K
        try simp only [Act.put, List.getElem_toArray, List.getElem_cons_zero, List.getElem_cons_succ, List.setIfInBounds_toArray, List.set_cons_zero, List.set_cons_succ]
        refine wpAnyH_ready (rs := [3, 4]) (by kernel_rfl) (by simp) ?_
        refine AllReadyH.cons rfl (fun K hK => ?_) ?_
        · skip
          try go_simp
          (go_at_call 25; refine (h25 _ KW.out).mono ?_; rintro e wn ⟨A3, c3, A4, c4, rfl, HI3, HK3, hk⟩; replace HI1 := RowH.go HI1 hk; replace HK1 := RowH.go HK1 hk; replace KW := Kept.go KW hk; replace HB := BlkH.go HB hk; replace HX := BlkH.go HX hk; replace HZ := BlkH.go HZ hk; replace HS := SzH.go HS hk; (try replace HL := BlkH.go HL hk); (try replace HR := BlkH.go HR hk); clear hk)
          try go_simp
          refine hK.out _ _ ?_ (fun hHeld => ?_)
          · exact Blk.box HB.out
          clear hK K
          try simp only [Act.put, List.getElem_toArray, List.getElem_cons_zero, List.getElem_cons_succ, List.setIfInBounds_toArray, List.set_cons_zero, List.set_cons_succ]
          refine wpAnyH_ready (rs := [4]) (by kernel_rfl) (by simp) ?_
          refine AllReadyH.cons rfl (fun K hK => ?_) AllReadyH.nil
          (go_simp; first | (obtain ⟨gl, wn, hw, hg, HGL, HL, hk, hfar⟩ := alloc_step HS zpage; simp only [zpage] at hw HL; rw [hw, hg]; clear hw hg; (try have hne := hfar gr _ _ HR.out); (try replace HI1 := RowH.go HI1 hk); (try replace HK1 := RowH.go HK1 hk); (try replace HI3 := RowH.go HI3 hk); (try replace HK3 := RowH.go HK3 hk); replace KW := Kept.go KW hk; replace HB := BlkH.go HB hk; replace HX := BlkH.go HX hk; replace HZ := BlkH.go HZ hk; replace HS := SzH.go HS hk; (try replace HR := BlkH.go HR hk); clear hk) | (obtain ⟨gl, wn, hw, hg, HGL, HL, hk, hfar⟩ := alloc_stepd HS zpage; simp only [zpage] at hw HL; rw [hw, hg]; clear hw hg; (try have hne := hfar gr _ _ HR.out); (try replace HI1 := RowH.go HI1 hk); (try replace HK1 := RowH.go HK1 hk); (try replace HI3 := RowH.go HI3 hk); (try replace HK3 := RowH.go HK3 hk); replace KW := Kept.go KW hk; replace HB := BlkH.go HB hk; replace HX := BlkH.go HX hk; replace HZ := BlkH.go HZ hk; replace HS := SzH.go HS hk; (try replace HR := BlkH.go HR hk); clear hk))
          refine hK.out _ _ ?_ (fun hHeld => ?_)
          · exact Blk.box HB.out
          clear hK K
          try simp only [Act.put, List.getElem_toArray, List.getElem_cons_zero, List.getElem_cons_succ, List.setIfInBounds_toArray, List.set_cons_zero, List.set_cons_succ]
          refine wpAnyH_ready (rs := [6]) (by kernel_rfl) (by simp) ?_
          refine AllReadyH.cons rfl (fun K hK => ?_) AllReadyH.nil
          (have cc0 := HL.out.cell 0; have cc1 := HL.out.cell 1; have cc2 := HL.out.cell 2; have cc3 := HL.out.cell 3; have cc4 := HL.out.cell 4; have cc5 := HL.out.cell 5; have cc6 := HL.out.cell 6; have ff0 := HL.out.frozen 0; have ff1 := HL.out.frozen 1; have ff2 := HL.out.frozen 2; have ff3 := HL.out.frozen 3; have ff4 := HL.out.frozen 4; have ff5 := HL.out.frozen 5; have ff6 := HL.out.frozen 6; go_simp; obtain ⟨wn, hw, HL2, hk⟩ := set_step HL.out (.int .i64 lv) (.string lo) (.string hi) (.bool la) (.int .i64 sd) (.slice A1 n c1) (.slice A2 m c2); rw [hw]; clear hw cc0 cc1 cc2 cc3 cc4 cc5 cc6 ff0 ff1 ff2 ff3 ff4 ff5 ff6; replace KW := KeptH.far KW hk (Nat.le_trans (Nat.le_add_right _ 3) HGL.out); replace HB := BlkH.far HB hk (by have := HGL.out; omega); replace HX := BlkH.far HX hk (by have := HGL.out; omega); replace HZ := BlkH.far HZ hk (by have := HGL.out; omega); replace HS := SzH.go HS hk; replace HI1 := RowH.far HI1 hk HL (by decide); replace HK1 := RowH.far HK1 hk HL (by decide); replace HI3 := RowH.far HI3 hk HL (by decide); replace HK3 := RowH.far HK3 hk HL (by decide); replace HR := BlkH.far HR hk (fun e => hne e); replace HL := Lib.hid HL2; clear hk HL2)
          refine hK.out _ _ ?_ (fun hHeld => ?_)
          · exact Blk.box HB.out
          clear hK K
          try simp only [Act.put, List.getElem_toArray, List.getElem_cons_zero, List.getElem_cons_succ, List.setIfInBounds_toArray, List.set_cons_zero, List.set_cons_succ]
          refine wpAnyH_ready (rs := [7]) (by kernel_rfl) (by simp) ?_
          refine AllReadyH.cons rfl (fun K hK => ?_) AllReadyH.nil
          (have cc0 := HR.out.cell 0; have cc1 := HR.out.cell 1; have cc2 := HR.out.cell 2; have cc3 := HR.out.cell 3; have cc4 := HR.out.cell 4; have cc5 := HR.out.cell 5; have cc6 := HR.out.cell 6; have ff0 := HR.out.frozen 0; have ff1 := HR.out.frozen 1; have ff2 := HR.out.frozen 2; have ff3 := HR.out.frozen 3; have ff4 := HR.out.frozen 4; have ff5 := HR.out.frozen 5; have ff6 := HR.out.frozen 6; go_simp; obtain ⟨wn, hw, HR2, hk⟩ := set_step HR.out (.int .i64 lv) (.string lo) (.string hi) (.bool la) (.int .i64 sd) (.slice A3 n c3) (.slice A4 m c4); rw [hw]; clear hw cc0 cc1 cc2 cc3 cc4 cc5 cc6 ff0 ff1 ff2 ff3 ff4 ff5 ff6; replace KW := KeptH.far KW hk (Nat.le_trans (Nat.le_add_right _ 3) HGR.out); replace HB := BlkH.far HB hk (by have := HGR.out; omega); replace HX := BlkH.far HX hk (by have := HGR.out; omega); replace HZ := BlkH.far HZ hk (by have := HGR.out; omega); replace HS := SzH.go HS hk; replace HI1 := RowH.far HI1 hk HR (by decide); replace HK1 := RowH.far HK1 hk HR (by decide); replace HI3 := RowH.far HI3 hk HR (by decide); replace HK3 := RowH.far HK3 hk HR (by decide); replace HL := BlkH.far HL hk (fun e => hne e.symm); replace HR := Lib.hid HR2; clear hk HR2)
          refine hK.out _ _ ?_ (fun hHeld => ?_)
          · exact Blk.box HB.out
          clear hK K
          try simp only [Act.put, List.getElem_toArray, List.getElem_cons_zero, List.getElem_cons_succ, List.setIfInBounds_toArray, List.set_cons_zero, List.set_cons_succ]
          refine wpAnyH_done (by kernel_rfl) ?_ _
          go_wp2_with fail
          go_meet
          case rel => exact ⟨gl, gr, A1, c1, A2, c2, A3, c3, A4, c4, rfl, rfl, Lib.hid ⟨fun e => hne e.symm, HGL.out, HGR.out⟩, HL, HR, HI1, HK1, HI3, HK3, HX, HZ, KW⟩
        refine AllReadyH.cons rfl (fun K hK => ?_) AllReadyH.nil
        (go_simp; first | (obtain ⟨gl, wn, hw, hg, HGL, HL, hk, hfar⟩ := alloc_step HS zpage; simp only [zpage] at hw HL; rw [hw, hg]; clear hw hg; (try have hne := hfar gr _ _ HR.out); (try replace HI1 := RowH.go HI1 hk); (try replace HK1 := RowH.go HK1 hk); (try replace HI3 := RowH.go HI3 hk); (try replace HK3 := RowH.go HK3 hk); replace KW := Kept.go KW hk; replace HB := BlkH.go HB hk; replace HX := BlkH.go HX hk; replace HZ := BlkH.go HZ hk; replace HS := SzH.go HS hk; (try replace HR := BlkH.go HR hk); clear hk) | (obtain ⟨gl, wn, hw, hg, HGL, HL, hk, hfar⟩ := alloc_stepd HS zpage; simp only [zpage] at hw HL; rw [hw, hg]; clear hw hg; (try have hne := hfar gr _ _ HR.out); (try replace HI1 := RowH.go HI1 hk); (try replace HK1 := RowH.go HK1 hk); (try replace HI3 := RowH.go HI3 hk); (try replace HK3 := RowH.go HK3 hk); replace KW := Kept.go KW hk; replace HB := BlkH.go HB hk; replace HX := BlkH.go HX hk; replace HZ := BlkH.go HZ hk; replace HS := SzH.go HS hk; (try replace HR := BlkH.go HR hk); clear hk))
        refine hK.out _ _ ?_ (fun hHeld => ?_)
        · exact Blk.box HB.out
        clear hK K
        try simp only [Act.put, List.getElem_toArray, List.getElem_cons_zero, List.getElem_cons_succ, List.setIfInBounds_toArray, List.set_cons_zero, List.set_cons_succ]
        refine wpAnyH_ready (rs := [3]) (by kernel_rfl) (by simp) ?_
        refine AllReadyH.cons rfl (fun K hK => ?_) AllReadyH.nil
        try go_simp
        (go_at_call 25; refine (h25 _ KW.out).mono ?_; rintro e wn ⟨A3, c3, A4, c4, rfl, HI3, HK3, hk⟩; replace HI1 := RowH.go HI1 hk; replace HK1 := RowH.go HK1 hk; replace KW := Kept.go KW hk; replace HB := BlkH.go HB hk; replace HX := BlkH.go HX hk; replace HZ := BlkH.go HZ hk; replace HS := SzH.go HS hk; (try replace HL := BlkH.go HL hk); (try replace HR := BlkH.go HR hk); clear hk)
        try go_simp
        refine hK.out _ _ ?_ (fun hHeld => ?_)
        · exact Blk.box HB.out
        clear hK K
        try simp only [Act.put, List.getElem_toArray, List.getElem_cons_zero, List.getElem_cons_succ, List.setIfInBounds_toArray, List.set_cons_zero, List.set_cons_succ]
        refine wpAnyH_ready (rs := [6]) (by kernel_rfl) (by simp) ?_
        refine AllReadyH.cons rfl (fun K hK => ?_) AllReadyH.nil
        (have cc0 := HL.out.cell 0; have cc1 := HL.out.cell 1; have cc2 := HL.out.cell 2; have cc3 := HL.out.cell 3; have cc4 := HL.out.cell 4; have cc5 := HL.out.cell 5; have cc6 := HL.out.cell 6; have ff0 := HL.out.frozen 0; have ff1 := HL.out.frozen 1; have ff2 := HL.out.frozen 2; have ff3 := HL.out.frozen 3; have ff4 := HL.out.frozen 4; have ff5 := HL.out.frozen 5; have ff6 := HL.out.frozen 6; go_simp; obtain ⟨wn, hw, HL2, hk⟩ := set_step HL.out (.int .i64 lv) (.string lo) (.string hi) (.bool la) (.int .i64 sd) (.slice A1 n c1) (.slice A2 m c2); rw [hw]; clear hw cc0 cc1 cc2 cc3 cc4 cc5 cc6 ff0 ff1 ff2 ff3 ff4 ff5 ff6; replace KW := KeptH.far KW hk (Nat.le_trans (Nat.le_add_right _ 3) HGL.out); replace HB := BlkH.far HB hk (by have := HGL.out; omega); replace HX := BlkH.far HX hk (by have := HGL.out; omega); replace HZ := BlkH.far HZ hk (by have := HGL.out; omega); replace HS := SzH.go HS hk; replace HI1 := RowH.far HI1 hk HL (by decide); replace HK1 := RowH.far HK1 hk HL (by decide); replace HI3 := RowH.far HI3 hk HL (by decide); replace HK3 := RowH.far HK3 hk HL (by decide); replace HR := BlkH.far HR hk (fun e => hne e); replace HL := Lib.hid HL2; clear hk HL2)
        refine hK.out _ _ ?_ (fun hHeld => ?_)
        · exact Blk.box HB.out
        clear hK K
        try simp only [Act.put, List.getElem_toArray, List.getElem_cons_zero, List.getElem_cons_succ, List.setIfInBounds_toArray, List.set_cons_zero, List.set_cons_succ]
        refine wpAnyH_ready (rs := [7]) (by kernel_rfl) (by simp) ?_
        refine AllReadyH.cons rfl (fun K hK => ?_) AllReadyH.nil
        (have cc0 := HR.out.cell 0; have cc1 := HR.out.cell 1; have cc2 := HR.out.cell 2; have cc3 := HR.out.cell 3; have cc4 := HR.out.cell 4; have cc5 := HR.out.cell 5; have cc6 := HR.out.cell 6; have ff0 := HR.out.frozen 0; have ff1 := HR.out.frozen 1; have ff2 := HR.out.frozen 2; have ff3 := HR.out.frozen 3; have ff4 := HR.out.frozen 4; have ff5 := HR.out.frozen 5; have ff6 := HR.out.frozen 6; go_simp; obtain ⟨wn, hw, HR2, hk⟩ := set_step HR.out (.int .i64 lv) (.string lo) (.string hi) (.bool la) (.int .i64 sd) (.slice A3 n c3) (.slice A4 m c4); rw [hw]; clear hw cc0 cc1 cc2 cc3 cc4 cc5 cc6 ff0 ff1 ff2 ff3 ff4 ff5 ff6; replace KW := KeptH.far KW hk (Nat.le_trans (Nat.le_add_right _ 3) HGR.out); replace HB := BlkH.far HB hk (by have := HGR.out; omega); replace HX := BlkH.far HX hk (by have := HGR.out; omega); replace HZ := BlkH.far HZ hk (by have := HGR.out; omega); replace HS := SzH.go HS hk; replace HI1 := RowH.far HI1 hk HR (by decide); replace HK1 := RowH.far HK1 hk HR (by decide); replace HI3 := RowH.far HI3 hk HR (by decide); replace HK3 := RowH.far HK3 hk HR (by decide); replace HL := BlkH.far HL hk (fun e => hne e.symm); replace HR := Lib.hid HR2; clear hk HR2)
        refine hK.out _ _ ?_ (fun hHeld => ?_)
        · exact Blk.box HB.out
        clear hK K
        try simp only [Act.put, List.getElem_toArray, List.getElem_cons_zero, List.getElem_cons_succ, List.setIfInBounds_toArray, List.set_cons_zero, List.set_cons_succ]
        refine wpAnyH_done (by kernel_rfl) ?_ _
        go_wp2_with fail
        go_meet
        case rel => exact ⟨gl, gr, A1, c1, A2, c2, A3, c3, A4, c4, rfl, rfl, Lib.hid ⟨fun e => hne e.symm, HGL.out, HGR.out⟩, HL, HR, HI1, HK1, HI3, HK3, HX, HZ, KW⟩
      refine AllReadyH.cons rfl (fun K hK => ?_) AllReadyH.nil
      (go_simp; first | (obtain ⟨gl, wn, hw, hg, HGL, HL, hk, hfar⟩ := alloc_step HS zpage; simp only [zpage] at hw HL; rw [hw, hg]; clear hw hg; (try have hne := hfar gr _ _ HR.out); (try replace HI1 := RowH.go HI1 hk); (try replace HK1 := RowH.go HK1 hk); (try replace HI3 := RowH.go HI3 hk); (try replace HK3 := RowH.go HK3 hk); replace KW := Kept.go KW hk; replace HB := BlkH.go HB hk; replace HX := BlkH.go HX hk; replace HZ := BlkH.go HZ hk; replace HS := SzH.go HS hk; (try replace HR := BlkH.go HR hk); clear hk) | (obtain ⟨gl, wn, hw, hg, HGL, HL, hk, hfar⟩ := alloc_stepd HS zpage; simp only [zpage] at hw HL; rw [hw, hg]; clear hw hg; (try have hne := hfar gr _ _ HR.out); (try replace HI1 := RowH.go HI1 hk); (try replace HK1 := RowH.go HK1 hk); (try replace HI3 := RowH.go HI3 hk); (try replace HK3 := RowH.go HK3 hk); replace KW := Kept.go KW hk; replace HB := BlkH.go HB hk; replace HX := BlkH.go HX hk; replace HZ := BlkH.go HZ hk; replace HS := SzH.go HS hk; (try replace HR := BlkH.go HR hk); clear hk))
      refine hK.out _ _ ?_ (fun hHeld => ?_)
      · exact Blk.box HB.out
      clear hK K
      try simp only [Act.put, List.getElem_toArray, List.getElem_cons_zero, List.getElem_cons_succ, List.setIfInBounds_toArray, List.set_cons_zero, List.set_cons_succ]
      refine wpAnyH_ready (rs := [1]) (by kernel_rfl) (by simp) ?_
      refine AllReadyH.cons rfl (fun K hK => ?_) AllReadyH.nil
      try go_simp
      (go_at_call 25; refine (h25 _ KW.out).mono ?_; rintro e wn ⟨A1, c1, A2, c2, rfl, HI1, HK1, hk⟩; replace KW := Kept.go KW hk; replace HB := BlkH.go HB hk; replace HX := BlkH.go HX hk; replace HZ := BlkH.go HZ hk; replace HS := SzH.go HS hk; (try replace HL := BlkH.go HL hk); (try replace HR := BlkH.go HR hk); clear hk)
      try go_simp
      refine hK.out _ _ ?_ (fun hHeld => ?_)
      · exact Blk.box HB.out
      clear hK K
      try simp only [Act.put, List.getElem_toArray, List.getElem_cons_zero, List.getElem_cons_succ, List.setIfInBounds_toArray, List.set_cons_zero, List.set_cons_succ]
      refine wpAnyH_ready (rs := [3]) (by kernel_rfl) (by simp) ?_
      refine AllReadyH.cons rfl (fun K hK => ?_) AllReadyH.nil
      try go_simp
      (go_at_call 25; refine (h25 _ KW.out).mono ?_; rintro e wn ⟨A3, c3, A4, c4, rfl, HI3, HK3, hk⟩; replace HI1 := RowH.go HI1 hk; replace HK1 := RowH.go HK1 hk; replace KW := Kept.go KW hk; replace HB := BlkH.go HB hk; replace HX := BlkH.go HX hk; replace HZ := BlkH.go HZ hk; replace HS := SzH.go HS hk; (try replace HL := BlkH.go HL hk); (try replace HR := BlkH.go HR hk); clear hk)
      try go_simp
      refine hK.out _ _ ?_ (fun hHeld => ?_)
      · exact Blk.box HB.out
      clear hK K
      try simp only [Act.put, List.getElem_toArray, List.getElem_cons_zero, List.getElem_cons_succ, List.setIfInBounds_toArray, List.set_cons_zero, List.set_cons_succ]
      refine wpAnyH_ready (rs := [6]) (by kernel_rfl) (by simp) ?_
      refine AllReadyH.cons rfl (fun K hK => ?_) AllReadyH.nil
      (have cc0 := HL.out.cell 0; have cc1 := HL.out.cell 1; have cc2 := HL.out.cell 2; have cc3 := HL.out.cell 3; have cc4 := HL.out.cell 4; have cc5 := HL.out.cell 5; have cc6 := HL.out.cell 6; have ff0 := HL.out.frozen 0; have ff1 := HL.out.frozen 1; have ff2 := HL.out.frozen 2; have ff3 := HL.out.frozen 3; have ff4 := HL.out.frozen 4; have ff5 := HL.out.frozen 5; have ff6 := HL.out.frozen 6; go_simp; obtain ⟨wn, hw, HL2, hk⟩ := set_step HL.out (.int .i64 lv) (.string lo) (.string hi) (.bool la) (.int .i64 sd) (.slice A1 n c1) (.slice A2 m c2); rw [hw]; clear hw cc0 cc1 cc2 cc3 cc4 cc5 cc6 ff0 ff1 ff2 ff3 ff4 ff5 ff6; replace KW := KeptH.far KW hk (Nat.le_trans (Nat.le_add_right _ 3) HGL.out); replace HB := BlkH.far HB hk (by have := HGL.out; omega); replace HX := BlkH.far HX hk (by have := HGL.out; omega); replace HZ := BlkH.far HZ hk (by have := HGL.out; omega); replace HS := SzH.go HS hk; replace HI1 := RowH.far HI1 hk HL (by decide); replace HK1 := RowH.far HK1 hk HL (by decide); replace HI3 := RowH.far HI3 hk HL (by decide); replace HK3 := RowH.far HK3 hk HL (by decide); replace HR := BlkH.far HR hk (fun e => hne e); replace HL := Lib.hid HL2; clear hk HL2)
      refine hK.out _ _ ?_ (fun hHeld => ?_)
      · exact Blk.box HB.out
      clear hK K
      try simp only [Act.put, List.getElem_toArray, List.getElem_cons_zero, List.getElem_cons_succ, List.setIfInBounds_toArray, List.set_cons_zero, List.set_cons_succ]
      refine wpAnyH_ready (rs := [7]) (by kernel_rfl) (by simp) ?_
      refine AllReadyH.cons rfl (fun K hK => ?_) AllReadyH.nil
      (have cc0 := HR.out.cell 0; have cc1 := HR.out.cell 1; have cc2 := HR.out.cell 2; have cc3 := HR.out.cell 3; have cc4 := HR.out.cell 4; have cc5 := HR.out.cell 5; have cc6 := HR.out.cell 6; have ff0 := HR.out.frozen 0; have ff1 := HR.out.frozen 1; have ff2 := HR.out.frozen 2; have ff3 := HR.out.frozen 3; have ff4 := HR.out.frozen 4; have ff5 := HR.out.frozen 5; have ff6 := HR.out.frozen 6; go_simp; obtain ⟨wn, hw, HR2, hk⟩ := set_step HR.out (.int .i64 lv) (.string lo) (.string hi) (.bool la) (.int .i64 sd) (.slice A3 n c3) (.slice A4 m c4); rw [hw]; clear hw cc0 cc1 cc2 cc3 cc4 cc5 cc6 ff0 ff1 ff2 ff3 ff4 ff5 ff6; replace KW := KeptH.far KW hk (Nat.le_trans (Nat.le_add_right _ 3) HGR.out); replace HB := BlkH.far HB hk (by have := HGR.out; omega); replace HX := BlkH.far HX hk (by have := HGR.out; omega); replace HZ := BlkH.far HZ hk (by have := HGR.out; omega); replace HS := SzH.go HS hk; replace HI1 := RowH.far HI1 hk HR (by decide); replace HK1 := RowH.far HK1 hk HR (by decide); replace HI3 := RowH.far HI3 hk HR (by decide); replace HK3 := RowH.far HK3 hk HR (by decide); replace HL := BlkH.far HL hk (fun e => hne e.symm); replace HR := Lib.hid HR2; clear hk HR2)
      refine hK.out _ _ ?_ (fun hHeld => ?_)
      · exact Blk.box HB.out
      clear hK K
      try simp only [Act.put, List.getElem_toArray, List.getElem_cons_zero, List.getElem_cons_succ, List.setIfInBounds_toArray, List.set_cons_zero, List.set_cons_succ]
      refine wpAnyH_done (by kernel_rfl) ?_ _
      go_wp2_with fail
      go_meet
      case rel => exact ⟨gl, gr, A1, c1, A2, c2, A3, c3, A4, c4, rfl, rfl, Lib.hid ⟨fun e => hne e.symm, HGL.out, HGR.out⟩, HL, HR, HI1, HK1, HI3, HK3, HX, HZ, KW⟩
    case rest =>
      obtain ⟨gl, gr, A1, c1, A2, c2, A3, c3, A4, c4, rfl, rfl, NE, HL, HR, HI1, HK1, HI3, HK3, HX, HZ, KW⟩ := hcut
      have n1 : n ≤ c1 := cap_of HI1.out
      have m1 : m ≤ c2 := cap_of HK1.out
      have n3 : n ≤ c3 := cap_of HI3.out
      have m3 : m ≤ c4 := cap_of HK3.out
      have hL9 := ((HL.out.set_ 2 (.string key)).set_ 4 (.int .i64 at_)).set_ 3 (.bool false)
      have hR9 := ((HR.out.far (p := ⟨gl, 2, none⟩) (fun e => NE.out.1 e.symm) (.string key)).far (p := ⟨gl, 4, none⟩) (fun e => NE.out.1 e.symm) (.int .i64 at_)).far (p := ⟨gl, 3, none⟩) (fun e => NE.out.1 e.symm) (.bool false)
      have l2 := HL.out.cell 2
      have l3 := HL.out.cell 3
      have l4 := HL.out.cell 4
      have e2 := HL.out.frozen 2
      have e3 := HL.out.frozen 3
      have e4 := HL.out.frozen 4
      have r1 := HR.out.cell 1
      have q1 := HR.out.frozen 1
      have hL9' := hL9.far (p := ⟨gr, 1, none⟩) NE.out.1 (.string key)
      have hR9' := hR9.set_ 1 (.string key)
      have hk := kept4 (gr := gr) HL (.string key) (.int .i64 at_) (.bool false) (.string key)
      have hne : gl ≠ gr := NE.out.1
      go_upto_region 10 with fail
      replace HI1 := RowH.far2 HI1 hk HL HR (by decide)
      replace HK1 := RowH.far2 HK1 hk HL HR (by decide)
      replace HI3 := RowH.far2 HI3 hk HL HR (by decide)
      replace HK3 := RowH.far2 HK3 hk HL HR (by decide)
      replace HX := BlkH.far2 HX hk (by have := NE.out; omega) (by have := NE.out; omega)
      replace HZ := BlkH.far2 HZ hk (by have := NE.out; omega) (by have := NE.out; omega)
      replace KW := KeptH.far2 KW hk (by have := NE.out; omega) (by have := NE.out; omega)
      have HL := Lib.hid hL9'
      have HR := Lib.hid hR9'
      clear hk hL9 hR9 hL9' hR9' l2 l3 l4 e2 e3 e4 r1 q1
      generalize (((World.setCell _ ⟨gl, 2, none⟩ (.string key)).setCell ⟨gl, 4, none⟩ (.int .i64 at_)).setCell ⟨gl, 3, none⟩ (.bool false)).setCell ⟨gr, 1, none⟩ (.string key) = w9 at HI1 HK1 HI3 HK3 HX HZ KW HL HR ⊢
      obtain ⟨B3, hb3⟩ : ∃ B, (if c3 = i0 then A3 else A3.map (fun x => x.add (i0 * 4))) = B := ⟨_, rfl⟩
      obtain ⟨B4, hb4⟩ : ∃ B, (if c4 = k0 then A4 else A4.map (fun x => x.add (k0 * 2))) = B := ⟨_, rfl⟩
      have HB3 := Lib.hid hb3
      have HB4 := Lib.hid hb4
      clear hb3 hb4
      have hne' : gr ≠ gl := fun e => hne e.symm
      have g1 : i0 ≤ c1 := Nat.le_trans hle1 n1
      have g2 : k0 ≤ c2 := Nat.le_trans hle2 m1
      have l5 : w9.cell? ⟨gl, 5, none⟩ = some (.slice A1 n c1) := HL.out.cell 5
      have e5 : w9.frozen? ⟨gl, 5, none⟩ = false := HL.out.frozen 5
      have r5 : w9.cell? ⟨gr, 5, none⟩ = some (.slice A3 n c3) := HR.out.cell 5
      have q5 : w9.frozen? ⟨gr, 5, none⟩ = false := HR.out.frozen 5
      go_upto_region 10 with fail
      go_cut [] (fun wx => wx = ((w9.setCell ⟨gl, 5, none⟩ (.slice A1 i0 i0)).setCell ⟨gr, 5, none⟩ (.slice B3 (n - i0) (c3 - i0))).drew)
      case first =>
        refine wp_region_held_drew (S := (fun _ => True)) (by kernel_rfl) ?_ (fun hHeld => ?_)
        · trivial
        refine wpAnyH_take (i := 0) (v := ?vz3) rfl (by kernel_rfl) (by kernel_rfl) (by kernel_rfl) (fun _ _ _ h => h) (Or.inl ⟨?wz3, ?yz3⟩) (by assumption) ?rz3
        case yz3 => (intro w hSw; (try dsimp only at hSw); go_simp; try with_reducible rfl)
        case wz3 => rfl
        case' rz3 => simp only [Act.put, List.getElem_toArray, List.getElem_cons_zero, List.setIfInBounds_toArray, List.set_cons_zero, List.set_cons_succ]
        refine wpAnyH_take (i := 2) (v := ?vz4) rfl (by kernel_rfl) (by kernel_rfl) (by kernel_rfl) (fun _ _ _ h => h) (Or.inl ⟨?wz4, ?yz4⟩) (by assumption) ?rz4
        case yz4 => (intro w hSw; (try dsimp only at hSw); go_simp; try with_reducible rfl)
        case wz4 => rfl
        case' rz4 => simp only [Act.put, List.getElem_toArray, List.getElem_cons_zero, List.getElem_cons_succ, List.setIfInBounds_toArray, List.set_cons_zero, List.set_cons_succ]
        refine wpAnyH_take (i := 3) (v := ?vz5) rfl (by kernel_rfl) (by kernel_rfl) (by kernel_rfl) (fun _ _ _ h => h) (Or.inl ⟨?wz5, ?yz5⟩) (by assumption) ?rz5
        case yz5 => (intro w hSw; (try dsimp only at hSw); go_simp; try with_reducible rfl)
        case wz5 => rfl
        case' rz5 => simp only [Act.put, List.getElem_toArray, List.getElem_cons_zero, List.getElem_cons_succ, List.setIfInBounds_toArray, List.set_cons_zero, List.set_cons_succ]
        refine wpAnyH_take (i := 5) (v := ?vz6) rfl (by kernel_rfl) (by kernel_rfl) (by kernel_rfl) (fun _ _ _ h => h) (Or.inl ⟨?wz6, ?yz6⟩) (by assumption) ?rz6
        case yz6 => (intro w hSw; (try dsimp only at hSw); go_simp; try with_reducible rfl)
        case wz6 => rfl
        case' rz6 => simp only [Act.put, List.getElem_toArray, List.getElem_cons_zero, List.getElem_cons_succ, List.setIfInBounds_toArray, List.set_cons_zero, List.set_cons_succ]
        refine wpAnyH_take (i := 7) (v := ?vz7) rfl (by kernel_rfl) (by kernel_rfl) (by kernel_rfl) (fun _ _ _ h => h) (Or.inl ⟨?wz7, ?yz7⟩) (by assumption) ?rz7
        case yz7 => (intro w hSw; (try dsimp only at hSw); go_simp; try with_reducible rfl)
        case wz7 => rfl
        case' rz7 => simp only [Act.put, List.getElem_toArray, List.getElem_cons_zero, List.getElem_cons_succ, List.setIfInBounds_toArray, List.set_cons_zero, List.set_cons_succ]
        refine wpAnyH_ready (rs := [1, 6]) (by kernel_rfl) (by simp) ?_
        refine AllReadyH.cons rfl (fun K hK => ?_) ?_
        · skip
          go_simp
          refine hK.out _ _ ?_ (fun hHeld => ?_)
          · trivial
          clear hK K
          try simp only [Act.put, List.getElem_toArray, List.getElem_cons_zero, List.getElem_cons_succ, List.setIfInBounds_toArray, List.set_cons_zero, List.set_cons_succ]
          refine wpAnyH_take (i := 4) (v := (.slice A1 i0 i0)) rfl (by kernel_rfl) (by kernel_rfl) (by kernel_rfl) (fun _ _ _ h => h) (Or.inl ⟨rfl, fun w hSw => ?_⟩) (by assumption) ?_
          · (clear hSw; go_simp)
          simp only [Act.put, List.getElem_toArray, List.getElem_cons_zero, List.getElem_cons_succ, List.setIfInBounds_toArray, List.set_cons_zero, List.set_cons_succ]
          refine wpAnyH_take (i := 9) (v := ?vz9) rfl (by kernel_rfl) (by kernel_rfl) (by kernel_rfl) (fun _ _ _ h => h) (Or.inl ⟨?wz9, ?yz9⟩) (by assumption) ?rz9
          case yz9 => (intro w hSw; (try dsimp only at hSw); go_simp; try with_reducible rfl)
          case wz9 => rfl
          case' rz9 => simp only [Act.put, List.getElem_toArray, List.getElem_cons_zero, List.getElem_cons_succ, List.setIfInBounds_toArray, List.set_cons_zero, List.set_cons_succ]
          refine wpAnyH_ready (rs := [6, 10]) (by kernel_rfl) (by simp) ?_
          refine AllReadyH.cons rfl (fun K hK => ?_) ?_
          · skip
            go_simp
            refine hK.out _ _ ?_ (fun hHeld => ?_)
            · trivial
            clear hK K
            try simp only [Act.put, List.getElem_toArray, List.getElem_cons_zero, List.getElem_cons_succ, List.setIfInBounds_toArray, List.set_cons_zero, List.set_cons_succ]
            refine wpAnyH_take (i := 8) (v := (.slice B3 (n - i0) (c3 - i0))) rfl (by kernel_rfl) (by kernel_rfl) (by kernel_rfl) (fun _ _ _ h => h) (Or.inl ⟨rfl, fun w hSw => ?_⟩) (by assumption) ?_
            · (clear hSw; go_simp; exact HB3.out)
            simp only [Act.put, List.getElem_toArray, List.getElem_cons_zero, List.getElem_cons_succ, List.setIfInBounds_toArray, List.set_cons_zero, List.set_cons_succ]
            refine wpAnyH_ready (rs := [10]) (by kernel_rfl) (by simp) ?_
            refine AllReadyH.cons rfl (fun K hK => ?_) AllReadyH.nil
            go_simp
            refine hK.out _ _ ?_ (fun hHeld => ?_)
            · trivial
            clear hK K
            try simp only [Act.put, List.getElem_toArray, List.getElem_cons_zero, List.getElem_cons_succ, List.setIfInBounds_toArray, List.set_cons_zero, List.set_cons_succ]
            refine wpAnyH_take (i := 11) (v := ?vz11) rfl (by kernel_rfl) (by kernel_rfl) (by kernel_rfl) (fun _ _ _ h => h) (Or.inl ⟨?wz11, ?yz11⟩) (by assumption) ?rz11
            case yz11 => (intro w hSw; (try dsimp only at hSw); go_simp; try with_reducible rfl)
            case wz11 => rfl
            case' rz11 => simp only [Act.put, List.getElem_toArray, List.getElem_cons_zero, List.getElem_cons_succ, List.setIfInBounds_toArray, List.set_cons_zero, List.set_cons_succ]
            refine wpAnyH_ready (rs := [12]) (by kernel_rfl) (by simp) ?_
            refine AllReadyH.cons rfl (fun K hK => ?_) AllReadyH.nil
            go_simp
            refine hK.out _ _ ?_ (fun hHeld => ?_)
            · trivial
            clear hK K
            try simp only [Act.put, List.getElem_toArray, List.getElem_cons_zero, List.getElem_cons_succ, List.setIfInBounds_toArray, List.set_cons_zero, List.set_cons_succ]
            refine wpAnyH_done (by kernel_rfl) ?_ _
            go_wp2_with fail
            go_meet
            case rel => rfl
          refine AllReadyH.cons rfl (fun K hK => ?_) AllReadyH.nil
          go_simp
          refine hK.out _ _ ?_ (fun hHeld => ?_)
          · trivial
          clear hK K
          try simp only [Act.put, List.getElem_toArray, List.getElem_cons_zero, List.getElem_cons_succ, List.setIfInBounds_toArray, List.set_cons_zero, List.set_cons_succ]
          refine wpAnyH_ready (rs := [6]) (by kernel_rfl) (by simp) ?_
          refine AllReadyH.cons rfl (fun K hK => ?_) AllReadyH.nil
          go_simp
          refine hK.out _ _ ?_ (fun hHeld => ?_)
          · trivial
          clear hK K
          try simp only [Act.put, List.getElem_toArray, List.getElem_cons_zero, List.getElem_cons_succ, List.setIfInBounds_toArray, List.set_cons_zero, List.set_cons_succ]
          refine wpAnyH_take (i := 8) (v := (.slice B3 (n - i0) (c3 - i0))) rfl (by kernel_rfl) (by kernel_rfl) (by kernel_rfl) (fun _ _ _ h => h) (Or.inl ⟨rfl, fun w hSw => ?_⟩) (by assumption) ?_
          · (clear hSw; go_simp; exact HB3.out)
          simp only [Act.put, List.getElem_toArray, List.getElem_cons_zero, List.getElem_cons_succ, List.setIfInBounds_toArray, List.set_cons_zero, List.set_cons_succ]
          refine wpAnyH_take (i := 11) (v := ?vz13) rfl (by kernel_rfl) (by kernel_rfl) (by kernel_rfl) (fun _ _ _ h => h) (Or.inl ⟨?wz13, ?yz13⟩) (by assumption) ?rz13
          case yz13 => (intro w hSw; (try dsimp only at hSw); go_simp; try with_reducible rfl)
          case wz13 => rfl
          case' rz13 => simp only [Act.put, List.getElem_toArray, List.getElem_cons_zero, List.getElem_cons_succ, List.setIfInBounds_toArray, List.set_cons_zero, List.set_cons_succ]
          refine wpAnyH_ready (rs := [12]) (by kernel_rfl) (by simp) ?_
          refine AllReadyH.cons rfl (fun K hK => ?_) AllReadyH.nil
          go_simp
          refine hK.out _ _ ?_ (fun hHeld => ?_)
          · trivial
          clear hK K
          try simp only [Act.put, List.getElem_toArray, List.getElem_cons_zero, List.getElem_cons_succ, List.setIfInBounds_toArray, List.set_cons_zero, List.set_cons_succ]
          refine wpAnyH_done (by kernel_rfl) ?_ _
          go_wp2_with fail
          go_meet
          case rel => rfl
        refine AllReadyH.cons rfl (fun K hK => ?_) AllReadyH.nil
        go_simp
        refine hK.out _ _ ?_ (fun hHeld => ?_)
        · trivial
        clear hK K
        try simp only [Act.put, List.getElem_toArray, List.getElem_cons_zero, List.getElem_cons_succ, List.setIfInBounds_toArray, List.set_cons_zero, List.set_cons_succ]
        refine wpAnyH_take (i := 8) (v := (.slice B3 (n - i0) (c3 - i0))) rfl (by kernel_rfl) (by kernel_rfl) (by kernel_rfl) (fun _ _ _ h => h) (Or.inl ⟨rfl, fun w hSw => ?_⟩) (by assumption) ?_
        · (clear hSw; go_simp; exact HB3.out)
        simp only [Act.put, List.getElem_toArray, List.getElem_cons_zero, List.getElem_cons_succ, List.setIfInBounds_toArray, List.set_cons_zero, List.set_cons_succ]
        refine wpAnyH_ready (rs := [1]) (by kernel_rfl) (by simp) ?_
        refine AllReadyH.cons rfl (fun K hK => ?_) AllReadyH.nil
        go_simp
        refine hK.out _ _ ?_ (fun hHeld => ?_)
        · trivial
        clear hK K
        try simp only [Act.put, List.getElem_toArray, List.getElem_cons_zero, List.getElem_cons_succ, List.setIfInBounds_toArray, List.set_cons_zero, List.set_cons_succ]
        refine wpAnyH_take (i := 4) (v := (.slice A1 i0 i0)) rfl (by kernel_rfl) (by kernel_rfl) (by kernel_rfl) (fun _ _ _ h => h) (Or.inl ⟨rfl, fun w hSw => ?_⟩) (by assumption) ?_
        · (clear hSw; go_simp)
        simp only [Act.put, List.getElem_toArray, List.getElem_cons_zero, List.getElem_cons_succ, List.setIfInBounds_toArray, List.set_cons_zero, List.set_cons_succ]
        refine wpAnyH_take (i := 9) (v := ?vz16) rfl (by kernel_rfl) (by kernel_rfl) (by kernel_rfl) (fun _ _ _ h => h) (Or.inl ⟨?wz16, ?yz16⟩) (by assumption) ?rz16
        case yz16 => (intro w hSw; (try dsimp only at hSw); go_simp; try with_reducible rfl)
        case wz16 => rfl
        case' rz16 => simp only [Act.put, List.getElem_toArray, List.getElem_cons_zero, List.getElem_cons_succ, List.setIfInBounds_toArray, List.set_cons_zero, List.set_cons_succ]
        refine wpAnyH_ready (rs := [10]) (by kernel_rfl) (by simp) ?_
        refine AllReadyH.cons rfl (fun K hK => ?_) AllReadyH.nil
        go_simp
        refine hK.out _ _ ?_ (fun hHeld => ?_)
        · trivial
        clear hK K
        try simp only [Act.put, List.getElem_toArray, List.getElem_cons_zero, List.getElem_cons_succ, List.setIfInBounds_toArray, List.set_cons_zero, List.set_cons_succ]
        refine wpAnyH_take (i := 11) (v := ?vz17) rfl (by kernel_rfl) (by kernel_rfl) (by kernel_rfl) (fun _ _ _ h => h) (Or.inl ⟨?wz17, ?yz17⟩) (by assumption) ?rz17
        case yz17 => (intro w hSw; (try dsimp only at hSw); go_simp; try with_reducible rfl)
        case wz17 => rfl
        case' rz17 => simp only [Act.put, List.getElem_toArray, List.getElem_cons_zero, List.getElem_cons_succ, List.setIfInBounds_toArray, List.set_cons_zero, List.set_cons_succ]
        refine wpAnyH_ready (rs := [12]) (by kernel_rfl) (by simp) ?_
        refine AllReadyH.cons rfl (fun K hK => ?_) AllReadyH.nil
        go_simp
        refine hK.out _ _ ?_ (fun hHeld => ?_)
        · trivial
        clear hK K
        try simp only [Act.put, List.getElem_toArray, List.getElem_cons_zero, List.getElem_cons_succ, List.setIfInBounds_toArray, List.set_cons_zero, List.set_cons_succ]
        refine wpAnyH_done (by kernel_rfl) ?_ _
        go_wp2_with fail
        go_meet
        case rel => rfl
      case rest =>
        obtain ⟨w10, hww10⟩ : ∃ x, x = ((w9.setCell ⟨gl, 5, none⟩ (.slice A1 i0 i0)).setCell ⟨gr, 5, none⟩ (.slice B3 (n - i0) (c3 - i0))).drew := ⟨_, rfl⟩
        rw [← hww10] at hcut
        have hcut' := hcut.symm
        subst hcut'
        have hk := (kept2 (gr := gr) HL 5 (.slice A1 i0 i0) (.slice B3 (n - i0) (c3 - i0))).drew
        have hL := ((HL.out.set_ 5 (.slice A1 i0 i0)).far (p := ⟨gr, 5, none⟩) NE.out.1 (.slice B3 (n - i0) (c3 - i0))).drew
        have hR := ((HR.out.far (p := ⟨gl, 5, none⟩) (fun e => NE.out.1 e.symm) (.slice A1 i0 i0)).set_ 5 (.slice B3 (n - i0) (c3 - i0))).drew
        rw [← hww10] at hk hL hR
        replace HI1 := RowH.far2 HI1 hk HL HR (by decide)
        replace HK1 := RowH.far2 HK1 hk HL HR (by decide)
        replace HI3 := RowH.far2 HI3 hk HL HR (by decide)
        replace HK3 := RowH.far2 HK3 hk HL HR (by decide)
        replace HX := BlkH.far2 HX hk (by have := NE.out; omega) (by have := NE.out; omega)
        replace HZ := BlkH.far2 HZ hk (by have := NE.out; omega) (by have := NE.out; omega)
        replace KW := KeptH.far2 KW hk (by have := NE.out; omega) (by have := NE.out; omega)
        replace HL := Lib.hid hL
        replace HR := Lib.hid hR
        clear hk hL hR hww10 l5 e5 r5 q5
        have l6 : w10.cell? ⟨gl, 6, none⟩ = some (.slice A2 m c2) := HL.out.cell 6
        have e6 : w10.frozen? ⟨gl, 6, none⟩ = false := HL.out.frozen 6
        have r6 : w10.cell? ⟨gr, 6, none⟩ = some (.slice A4 m c4) := HR.out.cell 6
        have q6 : w10.frozen? ⟨gr, 6, none⟩ = false := HR.out.frozen 6
        go_upto_region 11 with fail
        go_cut [] (fun wx => wx = ((w10.setCell ⟨gl, 6, none⟩ (.slice A2 k0 k0)).setCell ⟨gr, 6, none⟩ (.slice B4 (m - k0) (c4 - k0))).drew)
        case first =>
          refine wp_region_held_drew (S := (fun _ => True)) (by kernel_rfl) ?_ (fun hHeld => ?_)
          · trivial
          refine wpAnyH_take (i := 0) (v := ?vz18) rfl (by kernel_rfl) (by kernel_rfl) (by kernel_rfl) (fun _ _ _ h => h) (Or.inl ⟨?wz18, ?yz18⟩) (by assumption) ?rz18
          case yz18 => (intro w hSw; (try dsimp only at hSw); go_simp; try with_reducible rfl)
          case wz18 => rfl
          case' rz18 => simp only [Act.put, List.getElem_toArray, List.getElem_cons_zero, List.setIfInBounds_toArray, List.set_cons_zero, List.set_cons_succ]
          refine wpAnyH_take (i := 2) (v := ?vz19) rfl (by kernel_rfl) (by kernel_rfl) (by kernel_rfl) (fun _ _ _ h => h) (Or.inl ⟨?wz19, ?yz19⟩) (by assumption) ?rz19
          case yz19 => (intro w hSw; (try dsimp only at hSw); go_simp; try with_reducible rfl)
          case wz19 => rfl
          case' rz19 => simp only [Act.put, List.getElem_toArray, List.getElem_cons_zero, List.getElem_cons_succ, List.setIfInBounds_toArray, List.set_cons_zero, List.set_cons_succ]
          refine wpAnyH_take (i := 3) (v := ?vz20) rfl (by kernel_rfl) (by kernel_rfl) (by kernel_rfl) (fun _ _ _ h => h) (Or.inl ⟨?wz20, ?yz20⟩) (by assumption) ?rz20
          case yz20 => (intro w hSw; (try dsimp only at hSw); go_simp; try with_reducible rfl)
          case wz20 => rfl
          case' rz20 => simp only [Act.put, List.getElem_toArray, List.getElem_cons_zero, List.getElem_cons_succ, List.setIfInBounds_toArray, List.set_cons_zero, List.set_cons_succ]
          refine wpAnyH_take (i := 5) (v := ?vz21) rfl (by kernel_rfl) (by kernel_rfl) (by kernel_rfl) (fun _ _ _ h => h) (Or.inl ⟨?wz21, ?yz21⟩) (by assumption) ?rz21
          case yz21 => (intro w hSw; (try dsimp only at hSw); go_simp; try with_reducible rfl)
          case wz21 => rfl
          case' rz21 => simp only [Act.put, List.getElem_toArray, List.getElem_cons_zero, List.getElem_cons_succ, List.setIfInBounds_toArray, List.set_cons_zero, List.set_cons_succ]
          refine wpAnyH_take (i := 7) (v := ?vz22) rfl (by kernel_rfl) (by kernel_rfl) (by kernel_rfl) (fun _ _ _ h => h) (Or.inl ⟨?wz22, ?yz22⟩) (by assumption) ?rz22
          case yz22 => (intro w hSw; (try dsimp only at hSw); go_simp; try with_reducible rfl)
          case wz22 => rfl
          case' rz22 => simp only [Act.put, List.getElem_toArray, List.getElem_cons_zero, List.getElem_cons_succ, List.setIfInBounds_toArray, List.set_cons_zero, List.set_cons_succ]
          refine wpAnyH_ready (rs := [1, 6]) (by kernel_rfl) (by simp) ?_
          refine AllReadyH.cons rfl (fun K hK => ?_) ?_
          · skip
            go_simp
            refine hK.out _ _ ?_ (fun hHeld => ?_)
            · trivial
            clear hK K
            try simp only [Act.put, List.getElem_toArray, List.getElem_cons_zero, List.getElem_cons_succ, List.setIfInBounds_toArray, List.set_cons_zero, List.set_cons_succ]
            refine wpAnyH_take (i := 4) (v := (.slice A2 k0 k0)) rfl (by kernel_rfl) (by kernel_rfl) (by kernel_rfl) (fun _ _ _ h => h) (Or.inl ⟨rfl, fun w hSw => ?_⟩) (by assumption) ?_
            · (clear hSw; go_simp)
            simp only [Act.put, List.getElem_toArray, List.getElem_cons_zero, List.getElem_cons_succ, List.setIfInBounds_toArray, List.set_cons_zero, List.set_cons_succ]
            refine wpAnyH_take (i := 9) (v := ?vz24) rfl (by kernel_rfl) (by kernel_rfl) (by kernel_rfl) (fun _ _ _ h => h) (Or.inl ⟨?wz24, ?yz24⟩) (by assumption) ?rz24
            case yz24 => (intro w hSw; (try dsimp only at hSw); go_simp; try with_reducible rfl)
            case wz24 => rfl
            case' rz24 => simp only [Act.put, List.getElem_toArray, List.getElem_cons_zero, List.getElem_cons_succ, List.setIfInBounds_toArray, List.set_cons_zero, List.set_cons_succ]
            refine wpAnyH_ready (rs := [6, 10]) (by kernel_rfl) (by simp) ?_
            refine AllReadyH.cons rfl (fun K hK => ?_) ?_
            · skip
              go_simp
              refine hK.out _ _ ?_ (fun hHeld => ?_)
              · trivial
              clear hK K
              try simp only [Act.put, List.getElem_toArray, List.getElem_cons_zero, List.getElem_cons_succ, List.setIfInBounds_toArray, List.set_cons_zero, List.set_cons_succ]
              refine wpAnyH_take (i := 8) (v := (.slice B4 (m - k0) (c4 - k0))) rfl (by kernel_rfl) (by kernel_rfl) (by kernel_rfl) (fun _ _ _ h => h) (Or.inl ⟨rfl, fun w hSw => ?_⟩) (by assumption) ?_
              · (clear hSw; go_simp; exact HB4.out)
              simp only [Act.put, List.getElem_toArray, List.getElem_cons_zero, List.getElem_cons_succ, List.setIfInBounds_toArray, List.set_cons_zero, List.set_cons_succ]
              refine wpAnyH_ready (rs := [10]) (by kernel_rfl) (by simp) ?_
              refine AllReadyH.cons rfl (fun K hK => ?_) AllReadyH.nil
              go_simp
              refine hK.out _ _ ?_ (fun hHeld => ?_)
              · trivial
              clear hK K
              try simp only [Act.put, List.getElem_toArray, List.getElem_cons_zero, List.getElem_cons_succ, List.setIfInBounds_toArray, List.set_cons_zero, List.set_cons_succ]
              refine wpAnyH_take (i := 11) (v := ?vz26) rfl (by kernel_rfl) (by kernel_rfl) (by kernel_rfl) (fun _ _ _ h => h) (Or.inl ⟨?wz26, ?yz26⟩) (by assumption) ?rz26
              case yz26 => (intro w hSw; (try dsimp only at hSw); go_simp; try with_reducible rfl)
              case wz26 => rfl
              case' rz26 => simp only [Act.put, List.getElem_toArray, List.getElem_cons_zero, List.getElem_cons_succ, List.setIfInBounds_toArray, List.set_cons_zero, List.set_cons_succ]
              refine wpAnyH_ready (rs := [12]) (by kernel_rfl) (by simp) ?_
              refine AllReadyH.cons rfl (fun K hK => ?_) AllReadyH.nil
              go_simp
              refine hK.out _ _ ?_ (fun hHeld => ?_)
              · trivial
              clear hK K
              try simp only [Act.put, List.getElem_toArray, List.getElem_cons_zero, List.getElem_cons_succ, List.setIfInBounds_toArray, List.set_cons_zero, List.set_cons_succ]
              refine wpAnyH_done (by kernel_rfl) ?_ _
              go_wp2_with fail
              go_meet
              case rel => rfl
            refine AllReadyH.cons rfl (fun K hK => ?_) AllReadyH.nil
            go_simp
            refine hK.out _ _ ?_ (fun hHeld => ?_)
            · trivial
            clear hK K
            try simp only [Act.put, List.getElem_toArray, List.getElem_cons_zero, List.getElem_cons_succ, List.setIfInBounds_toArray, List.set_cons_zero, List.set_cons_succ]
            refine wpAnyH_ready (rs := [6]) (by kernel_rfl) (by simp) ?_
            refine AllReadyH.cons rfl (fun K hK => ?_) AllReadyH.nil
            go_simp
            refine hK.out _ _ ?_ (fun hHeld => ?_)
            · trivial
            clear hK K
            try simp only [Act.put, List.getElem_toArray, List.getElem_cons_zero, List.getElem_cons_succ, List.setIfInBounds_toArray, List.set_cons_zero, List.set_cons_succ]
            refine wpAnyH_take (i := 8) (v := (.slice B4 (m - k0) (c4 - k0))) rfl (by kernel_rfl) (by kernel_rfl) (by kernel_rfl) (fun _ _ _ h => h) (Or.inl ⟨rfl, fun w hSw => ?_⟩) (by assumption) ?_
            · (clear hSw; go_simp; exact HB4.out)
            simp only [Act.put, List.getElem_toArray, List.getElem_cons_zero, List.getElem_cons_succ, List.setIfInBounds_toArray, List.set_cons_zero, List.set_cons_succ]
            refine wpAnyH_take (i := 11) (v := ?vz28) rfl (by kernel_rfl) (by kernel_rfl) (by kernel_rfl) (fun _ _ _ h => h) (Or.inl ⟨?wz28, ?yz28⟩) (by assumption) ?rz28
            case yz28 => (intro w hSw; (try dsimp only at hSw); go_simp; try with_reducible rfl)
            case wz28 => rfl
            case' rz28 => simp only [Act.put, List.getElem_toArray, List.getElem_cons_zero, List.getElem_cons_succ, List.setIfInBounds_toArray, List.set_cons_zero, List.set_cons_succ]
            refine wpAnyH_ready (rs := [12]) (by kernel_rfl) (by simp) ?_
            refine AllReadyH.cons rfl (fun K hK => ?_) AllReadyH.nil
            go_simp
            refine hK.out _ _ ?_ (fun hHeld => ?_)
            · trivial
            clear hK K
            try simp only [Act.put, List.getElem_toArray, List.getElem_cons_zero, List.getElem_cons_succ, List.setIfInBounds_toArray, List.set_cons_zero, List.set_cons_succ]
            refine wpAnyH_done (by kernel_rfl) ?_ _
            go_wp2_with fail
            go_meet
            case rel => rfl
          refine AllReadyH.cons rfl (fun K hK => ?_) AllReadyH.nil
          go_simp
          refine hK.out _ _ ?_ (fun hHeld => ?_)
          · trivial
          clear hK K
          try simp only [Act.put, List.getElem_toArray, List.getElem_cons_zero, List.getElem_cons_succ, List.setIfInBounds_toArray, List.set_cons_zero, List.set_cons_succ]
          refine wpAnyH_take (i := 8) (v := (.slice B4 (m - k0) (c4 - k0))) rfl (by kernel_rfl) (by kernel_rfl) (by kernel_rfl) (fun _ _ _ h => h) (Or.inl ⟨rfl, fun w hSw => ?_⟩) (by assumption) ?_
          · (clear hSw; go_simp; exact HB4.out)
          simp only [Act.put, List.getElem_toArray, List.getElem_cons_zero, List.getElem_cons_succ, List.setIfInBounds_toArray, List.set_cons_zero, List.set_cons_succ]
          refine wpAnyH_ready (rs := [1]) (by kernel_rfl) (by simp) ?_
          refine AllReadyH.cons rfl (fun K hK => ?_) AllReadyH.nil
          go_simp
          refine hK.out _ _ ?_ (fun hHeld => ?_)
          · trivial
          clear hK K
          try simp only [Act.put, List.getElem_toArray, List.getElem_cons_zero, List.getElem_cons_succ, List.setIfInBounds_toArray, List.set_cons_zero, List.set_cons_succ]
          refine wpAnyH_take (i := 4) (v := (.slice A2 k0 k0)) rfl (by kernel_rfl) (by kernel_rfl) (by kernel_rfl) (fun _ _ _ h => h) (Or.inl ⟨rfl, fun w hSw => ?_⟩) (by assumption) ?_
          · (clear hSw; go_simp)
          simp only [Act.put, List.getElem_toArray, List.getElem_cons_zero, List.getElem_cons_succ, List.setIfInBounds_toArray, List.set_cons_zero, List.set_cons_succ]
          refine wpAnyH_take (i := 9) (v := ?vz31) rfl (by kernel_rfl) (by kernel_rfl) (by kernel_rfl) (fun _ _ _ h => h) (Or.inl ⟨?wz31, ?yz31⟩) (by assumption) ?rz31
          case yz31 => (intro w hSw; (try dsimp only at hSw); go_simp; try with_reducible rfl)
          case wz31 => rfl
          case' rz31 => simp only [Act.put, List.getElem_toArray, List.getElem_cons_zero, List.getElem_cons_succ, List.setIfInBounds_toArray, List.set_cons_zero, List.set_cons_succ]
          refine wpAnyH_ready (rs := [10]) (by kernel_rfl) (by simp) ?_
          refine AllReadyH.cons rfl (fun K hK => ?_) AllReadyH.nil
          go_simp
          refine hK.out _ _ ?_ (fun hHeld => ?_)
          · trivial
          clear hK K
          try simp only [Act.put, List.getElem_toArray, List.getElem_cons_zero, List.getElem_cons_succ, List.setIfInBounds_toArray, List.set_cons_zero, List.set_cons_succ]
          refine wpAnyH_take (i := 11) (v := ?vz32) rfl (by kernel_rfl) (by kernel_rfl) (by kernel_rfl) (fun _ _ _ h => h) (Or.inl ⟨?wz32, ?yz32⟩) (by assumption) ?rz32
          case yz32 => (intro w hSw; (try dsimp only at hSw); go_simp; try with_reducible rfl)
          case wz32 => rfl
          case' rz32 => simp only [Act.put, List.getElem_toArray, List.getElem_cons_zero, List.getElem_cons_succ, List.setIfInBounds_toArray, List.set_cons_zero, List.set_cons_succ]
          refine wpAnyH_ready (rs := [12]) (by kernel_rfl) (by simp) ?_
          refine AllReadyH.cons rfl (fun K hK => ?_) AllReadyH.nil
          go_simp
          refine hK.out _ _ ?_ (fun hHeld => ?_)
          · trivial
          clear hK K
          try simp only [Act.put, List.getElem_toArray, List.getElem_cons_zero, List.getElem_cons_succ, List.setIfInBounds_toArray, List.set_cons_zero, List.set_cons_succ]
          refine wpAnyH_done (by kernel_rfl) ?_ _
          go_wp2_with fail
          go_meet
          case rel => rfl
        case rest =>
          obtain ⟨w11, hww11⟩ : ∃ x, x = ((w10.setCell ⟨gl, 6, none⟩ (.slice A2 k0 k0)).setCell ⟨gr, 6, none⟩ (.slice B4 (m - k0) (c4 - k0))).drew := ⟨_, rfl⟩
          rw [← hww11] at hcut
          have hcut' := hcut.symm
          subst hcut'
          have hk := (kept2 (gr := gr) HL 6 (.slice A2 k0 k0) (.slice B4 (m - k0) (c4 - k0))).drew
          have hL := ((HL.out.set_ 6 (.slice A2 k0 k0)).far (p := ⟨gr, 6, none⟩) NE.out.1 (.slice B4 (m - k0) (c4 - k0))).drew
          have hR := ((HR.out.far (p := ⟨gl, 6, none⟩) (fun e => NE.out.1 e.symm) (.slice A2 k0 k0)).set_ 6 (.slice B4 (m - k0) (c4 - k0))).drew
          rw [← hww11] at hk hL hR
          replace HI1 := RowH.far2 HI1 hk HL HR (by decide)
          replace HK1 := RowH.far2 HK1 hk HL HR (by decide)
          replace HI3 := RowH.far2 HI3 hk HL HR (by decide)
          replace HK3 := RowH.far2 HK3 hk HL HR (by decide)
          replace HX := BlkH.far2 HX hk (by have := NE.out; omega) (by have := NE.out; omega)
          replace HZ := BlkH.far2 HZ hk (by have := NE.out; omega) (by have := NE.out; omega)
          replace KW := KeptH.far2 KW hk (by have := NE.out; omega) (by have := NE.out; omega)
          replace HL := Lib.hid hL
          replace HR := Lib.hid hR
          clear hk hL hR hww11 l6 e6 r6 q6
          have HL' : Hid (Blk w11 gl 25 #[.int .i64 lv, .string lo, .string key, .bool false, .int .i64 at_, .slice A1 i0 i0, .slice A2 k0 k0]) := HL
          have HR' : Hid (Blk w11 gr 25 #[.int .i64 lv, .string key, .string hi, .bool la, .int .i64 sd, .slice B3 (n - i0) (c3 - i0), .slice B4 (m - k0) (c4 - k0)]) := HR
          replace HL := HL'
          replace HR := HR'
          clear HL' HR'
          go_upto_region 12 with fail
          refine wp_region_held_drew (S := (fun W => (W.cell? ⟨gl, 0, none⟩ = some (.int .i64 lv) ∧ W.cell? ⟨gl, 1, none⟩ = some (.string lo) ∧ W.cell? ⟨gl, 2, none⟩ = some (.string key) ∧ W.cell? ⟨gl, 3, none⟩ = some (.bool false) ∧ W.cell? ⟨gl, 4, none⟩ = some (.int .i64 at_) ∧ W.cell? ⟨gl, 5, none⟩ = some (.slice A1 i0 i0) ∧ W.cell? ⟨gl, 6, none⟩ = some (.slice A2 k0 k0)) ∧ (W.cell? ⟨gr, 0, none⟩ = some (.int .i64 lv) ∧ W.cell? ⟨gr, 1, none⟩ = some (.string key) ∧ W.cell? ⟨gr, 2, none⟩ = some (.string hi) ∧ W.cell? ⟨gr, 3, none⟩ = some (.bool la) ∧ W.cell? ⟨gr, 4, none⟩ = some (.int .i64 sd) ∧ W.cell? ⟨gr, 5, none⟩ = some (.slice B3 (n - i0) (c3 - i0)) ∧ W.cell? ⟨gr, 6, none⟩ = some (.slice B4 (m - k0) (c4 - k0))))) (by kernel_rfl) ?_ (fun hHeld => ?_)
          · exact ⟨Blk.box HL.out, Blk.box HR.out⟩
          refine wpAnyH_take (i := 0) (v := ?vz33) rfl (by kernel_rfl) (by kernel_rfl) (by kernel_rfl) (fun _ _ _ h => h) (Or.inl ⟨?wz33, ?yz33⟩) (by assumption) ?rz33
          case yz33 => (intro w hSw; (try dsimp only at hSw); go_simp; try with_reducible rfl)
          case wz33 => rfl
          case' rz33 => simp only [Act.put, List.getElem_toArray, List.getElem_cons_zero, List.setIfInBounds_toArray, List.set_cons_zero, List.set_cons_succ]
          refine wpAnyH_take (i := 1) (v := ?vz34) rfl (by kernel_rfl) (by kernel_rfl) (by kernel_rfl) (fun _ _ _ h => h) (Or.inl ⟨?wz34, ?yz34⟩) (by assumption) ?rz34
          case yz34 => (intro w hSw; (try dsimp only at hSw); go_simp; try with_reducible rfl)
          case wz34 => rfl
          case' rz34 => simp only [Act.put, List.getElem_toArray, List.getElem_cons_zero, List.getElem_cons_succ, List.setIfInBounds_toArray, List.set_cons_zero, List.set_cons_succ]
          refine wpAnyH_ready (rs := [2]) (by kernel_rfl) (by simp) ?_
          refine AllReadyH.cons rfl (fun K hK => ?_) AllReadyH.nil
          (have cc0 := HX.out.cell 0; have cc1 := HX.out.cell 1; have cc2 := HX.out.cell 2; have cc3 := HX.out.cell 3; have cc4 := HX.out.cell 4; have cc5 := HX.out.cell 5; have cc6 := HX.out.cell 6; have ff0 := HX.out.frozen 0; have ff1 := HX.out.frozen 1; have ff2 := HX.out.frozen 2; have ff3 := HX.out.frozen 3; have ff4 := HX.out.frozen 4; have ff5 := HX.out.frozen 5; have ff6 := HX.out.frozen 6; go_simp; obtain ⟨wn, hw, HX2, hk⟩ := set_step HX.out (.int .i64 lv) (.string lo) (.string key) (.bool false) (.int .i64 at_) (.slice A1 i0 i0) (.slice A2 k0 k0); rw [hw]; clear hw cc0 cc1 cc2 cc3 cc4 cc5 cc6 ff0 ff1 ff2 ff3 ff4 ff5 ff6; replace HI1 := RowH.far HI1 hk HX (by decide); replace HK1 := RowH.far HK1 hk HX (by decide); replace HI3 := RowH.far HI3 hk HX (by decide); replace HK3 := RowH.far HK3 hk HX (by decide); replace HL := BlkH.far HL hk (by have := NE.out; omega); replace HR := BlkH.far HR hk (by have := NE.out; omega); replace HZ := BlkH.far HZ hk (by omega); replace KW := KeptH.far KW hk (by omega); replace HX := Lib.hid HX2; clear hk HX2)
          refine hK.out _ _ ?_ (fun hHeld => ?_)
          · exact ⟨Blk.box HL.out, Blk.box HR.out⟩
          clear hK K
          try simp only [Act.put, List.getElem_toArray, List.getElem_cons_zero, List.getElem_cons_succ, List.setIfInBounds_toArray, List.set_cons_zero, List.set_cons_succ]
          refine wpAnyH_ready (rs := [3]) (by kernel_rfl) (by simp) ?_
          refine AllReadyH.cons rfl (fun K hK => ?_) AllReadyH.nil
          (have cc0 := HZ.out.cell 0; have cc1 := HZ.out.cell 1; have cc2 := HZ.out.cell 2; have cc3 := HZ.out.cell 3; have cc4 := HZ.out.cell 4; have cc5 := HZ.out.cell 5; have cc6 := HZ.out.cell 6; have ff0 := HZ.out.frozen 0; have ff1 := HZ.out.frozen 1; have ff2 := HZ.out.frozen 2; have ff3 := HZ.out.frozen 3; have ff4 := HZ.out.frozen 4; have ff5 := HZ.out.frozen 5; have ff6 := HZ.out.frozen 6; go_simp; obtain ⟨wn, hw, HZ2, hk⟩ := set_step HZ.out (.int .i64 lv) (.string key) (.string hi) (.bool la) (.int .i64 sd) (.slice B3 (n - i0) (c3 - i0)) (.slice B4 (m - k0) (c4 - k0)); rw [hw]; clear hw cc0 cc1 cc2 cc3 cc4 cc5 cc6 ff0 ff1 ff2 ff3 ff4 ff5 ff6; replace HI1 := RowH.far HI1 hk HZ (by decide); replace HK1 := RowH.far HK1 hk HZ (by decide); replace HI3 := RowH.far HI3 hk HZ (by decide); replace HK3 := RowH.far HK3 hk HZ (by decide); replace HL := BlkH.far HL hk (by have := NE.out; omega); replace HR := BlkH.far HR hk (by have := NE.out; omega); replace HX := BlkH.far HX hk (by omega); replace KW := KeptH.far KW hk (by omega); replace HZ := Lib.hid HZ2; clear hk HZ2)
          refine hK.out _ _ ?_ (fun hHeld => ?_)
          · exact ⟨Blk.box HL.out, Blk.box HR.out⟩
          clear hK K
          try simp only [Act.put, List.getElem_toArray, List.getElem_cons_zero, List.getElem_cons_succ, List.setIfInBounds_toArray, List.set_cons_zero, List.set_cons_succ]
          refine wpAnyH_take (i := 4) (v := ?vz35) rfl (by kernel_rfl) (by kernel_rfl) (by kernel_rfl) (fun _ _ _ h => h) (Or.inl ⟨?wz35, ?yz35⟩) (by assumption) ?rz35
          case yz35 => (intro w hSw; (try dsimp only at hSw); go_simp; try with_reducible rfl)
          case wz35 => rfl
          case' rz35 => simp only [Act.put, List.getElem_toArray, List.getElem_cons_zero, List.getElem_cons_succ, List.setIfInBounds_toArray, List.set_cons_zero, List.set_cons_succ]
          refine wpAnyH_done (by kernel_rfl) ?_ _
          go_wp2_with fail
          have x0 := HX.out.cell 0
          have x1 := HX.out.cell 1
          have x2 := HX.out.cell 2
          have x3 := HX.out.cell 3
          have x4 := HX.out.cell 4
          have x5 := HX.out.cell 5
          have x6 := HX.out.cell 6
          have z0 := HZ.out.cell 0
          have z1 := HZ.out.cell 1
          have z2 := HZ.out.cell 2
          have z3 := HZ.out.cell 3
          have z4 := HZ.out.cell 4
          have z5 := HZ.out.cell 5
          have z6 := HZ.out.cell 6
          have hI1 := RdK.cut (HI1.out.rd encI) i0 (by rw [HN.out]; exact hle1)
          have hK1 := RdK.cut (HK1.out.rd encK) k0 (by rw [HM.out]; exact hle2)
          have hI3 := RdK.from_ (n := n) HN.out.symm (HI3.out.rd encI) hle1
          have hK3 := RdK.from_ (n := m) HM.out.symm (HK3.out.rd encK) hle2
          unfold sliced at hI3 hK3
          rw [HB3.out] at hI3
          rw [HB4.out] at hK3
          refine bodyPost_ret (v := .tuple #[.agg #[.int .i64 lv, .string lo, .string key, .bool false, .int .i64 at_, .slice A1 i0 i0, .slice A2 k0 k0], .agg #[.int .i64 lv, .string key, .string hi, .bool la, .int .i64 sd, .slice B3 (n - i0) (c3 - i0), .slice B4 (m - k0) (c4 - k0)], .int .i64 0]) ?_ rfl ⟨A1, i0, A2, k0, B3, c3 - i0, B4, c4 - k0, rfl, Lib.hid (hI1.all (Kept.refl _ _).drew), Lib.hid (hK1.all (Kept.refl _ _).drew), Lib.hid (hI3.all (Kept.refl _ _).drew), Lib.hid (hK3.all (Kept.refl _ _).drew), KW.out.drew⟩
          have hres : Try.f13.results = #[.cell 6 25, .cell 7 25, .tmp 8] := rfl
          unfold results
          rw [hres]
          go_simp
          try rfl
end Ytfoolgojcmkdbaa
end Go.Proofs
