/-
  A key's item behind a number.
-/
import Derived.Test.YthmijlchonbjnaaUpd
set_option maxHeartbeats 4000000
set_option maxRecDepth 100000
namespace Go.Proofs
open Go.RowKit
namespace Ythmijlchonbjnaa
attribute [local go_sem ↓] Go.wp_at_zero Go.wp_at_succ
def keyIs (q : ByteArray) (x : Item) : Bool := x.key.toList == q.toList
/-- Is the item taken in the place of the one at hand? -/
def takes (q : ByteArray) (no : Int) (acc : Option Item) (x : Item) : Bool := keyIs q x && (decide (x.no ≤ no) && (!acc.isSome || decide ((acc.getD default).no ≤ x.no)))
def pick (q : ByteArray) (no : Int) (acc : Option Item) (x : Item) : Option Item := if takes q no acc x = true then some x else acc
def lastF (l : List Item) (q : ByteArray) (no : Int) : Option Item := l.foldl (pick q no) none
/-- A key's item behind a number, and whether it is there. -/
def behindF (l : List Item) (q : ByteArray) (no : Int) : Item × Bool := match lastF l q no with
  | some x => if x.gone = true then (default, false) else (x, true)
  | none => (default, false)
theorem lastF_snoc {l : List Item} {k : Nat} {x : Item} (hx : l[k]? = some x) (q : ByteArray) (no : Int) : lastF (l.take (k + 1)) q no = pick q no (lastF (l.take k) q no) x := by
  unfold lastF
  rw [List.take_add_one, hx, List.foldl_append]
  rfl
def set4 (W : World) (g : Nat) (a0 a1 a2 a3 : Value) : World := (((W.setCell ⟨g, 0, none⟩ a0).setCell ⟨g, 1, none⟩ a1).setCell ⟨g, 2, none⟩ a2).setCell ⟨g, 3, none⟩ a3
theorem set4_blk {W : World} {g : Nat} {t : TypeId} {b0 b1 b2 b3 : Value} (h : Blk W g t #[b0, b1, b2, b3]) (a0 a1 a2 a3 : Value) : Blk (set4 W g a0 a1 a2 a3) g t #[a0, a1, a2, a3] :=
  (((h.set_ 0 a0).set_ 1 a1).set_ 2 a2).set_ 3 a3
theorem set4_kept (W : World) (g : Nat) (a0 a1 a2 a3 : Value) : Kept (fun b => b ≠ g) W (set4 W g a0 a1 a2 a3) :=
  ((((Kept.refl _ W).setCell (fun _ h => h rfl) _).setCell (fun _ h => h rfl) _).setCell (fun _ h => h rfl) _).setCell (fun _ h => h rfl) _
theorem set4_step {W : World} {g : Nat} {t : TypeId} {b0 b1 b2 b3 : Value} (h : Blk W g t #[b0, b1, b2, b3]) (a0 a1 a2 a3 : Value) : ∃ W', (((W.setCell ⟨g, 0, none⟩ a0).setCell ⟨g, 1, none⟩ a1).setCell ⟨g, 2, none⟩ a2).setCell ⟨g, 3, none⟩ a3 = W' ∧
    Blk W' g t #[a0, a1, a2, a3] ∧ Kept (fun b => b ≠ g) W W' := ⟨_, rfl, set4_blk h a0 a1 a2 a3, set4_kept W g a0 a1 a2 a3⟩
theorem behind_any (l : List Item) (q : ByteArray) (no : Int) {A : Option Addr} {n c : Nat} (w : World) (h : ItR w (.slice A n c) l) (hn : n ≤ 1000) :
    Calls Try.prog 22 #[.slice A n c, .string q, .int .i64 no] w fun e w' => e = .returned (.tuple #[.agg (ics (behindF l q no).1).toArray, .bool (behindF l q no).2]) ∧ Kept (fun _ => True) w w' := by
  have hlen := h.len
  have HH := Lib.hid h
  clear h
  obtain ⟨r, hr⟩ : ∃ r, behindF l q no = r := ⟨_, rfl⟩
  rw [hr]
  have HR := Lib.hid hr
  clear hr
  obtain ⟨w0, hw0⟩ : ∃ w0, (w.alloc (.cells #[.string ⟨#[]⟩, .string ⟨#[]⟩, .int .i64 0, .bool false] 33)).alloc (.cells #[.string ⟨#[]⟩, .string ⟨#[]⟩, .int .i64 0, .bool false] 33) = w0 := ⟨_, rfl⟩
  have k0 : Kept (fun _ => True) w w0 := hw0 ▸ ((Kept.refl _ w).alloc _).alloc _
  have bR : Blk w0 w.heap.size 33 #[.string ⟨#[]⟩, .string ⟨#[]⟩, .int .i64 0, .bool false] := hw0 ▸ (Blk.new w 33 _).alloc _
  have bO : Blk w0 (w.heap.size + 1) 33 #[.string ⟨#[]⟩, .string ⟨#[]⟩, .int .i64 0, .bool false] := by
    have := Blk.new (w.alloc (.cells #[.string ⟨#[]⟩, .string ⟨#[]⟩, .int .i64 0, .bool false] 33)) 33 #[.string ⟨#[]⟩, .string ⟨#[]⟩, .int .i64 0, .bool false]
    rw [hw0] at this
    simpa using this
  have K0 := Lib.hid k0
  have BR := Lib.hid bR
  have BO := Lib.hid bO
  clear k0 bR bO
  go_enter Try.func22, Try.ntmps22
  go_wp2_with fail
  clear hw0
  go_loopw [9, 11, 14] (fun s9 _ s14 wr => ∃ (k : Nat) (acc : Option Item) (is : Bool) (y : Item), k ≤ n ∧ s14 = .int .i64 k ∧ s9 = .bool is ∧ Hid (acc = lastF (l.take k) q no) ∧ Hid (is = acc.isSome) ∧ Hid (y = acc.getD default) ∧
    Hid (Kept (fun _ => True) w wr) ∧ Hid (Blk wr w.heap.size 33 #[.string ⟨#[]⟩, .string ⟨#[]⟩, .int .i64 0, .bool false]) ∧ Hid (Blk wr (w.heap.size + 1) 33 #[.string y.key, .string y.val, .int .i64 y.no, .bool y.gone])) (fun _ _ s14 _ => n - (intOf s14).toNat)
  case atStart => exact ⟨0, none, false, default, Nat.zero_le _, rfl, rfl, Lib.hid rfl, Lib.hid rfl, Lib.hid rfl, K0, BR, BO⟩
  case round =>
    clear K0 BR BO
    obtain ⟨k, acc, is, y, hk, rfl, rfl, AC, IS, EY, KW, BR, BO⟩ := hrel
    by_cases hlt : k < n
    · have hltz : (k : Int) < (n : Int) := by omega
      obtain ⟨x, hx⟩ : ∃ x, l[k]? = some x := ⟨_, List.getElem?_eq_getElem (by omega)⟩
      obtain ⟨b, off, rfl, _, _, hcell⟩ := (HH.out.all KW.out).at_ hx
      have r0 : wr.cell? ⟨b, off + k * 4, none⟩ = _ := hcell 0 _ rfl
      have r1 := hcell 1 _ rfl
      have r2 := hcell 2 _ rfl
      have r3 := hcell 3 _ rfl
      have ACn : Hid (lastF (l.take (k + 1)) q no = if keyIs q x && (decide (x.no ≤ no) && (!is || decide (y.no ≤ x.no))) then some x else acc) := Lib.hid (by
        rw [lastF_snoc hx, ← AC.out, IS.out, EY.out]
        rfl)
      clear hcell hx
      obtain ⟨xk, xv, xn, xg⟩ := x
      simp only at r0 r1 r2 r3
      unfold keyIs at ACn
      simp only at ACn
      have k1 : Kept (fun _ => True) wr (wr.alloc (.cells #[.string xk, .string xv, .int .i64 xn, .bool xg] 33)) := (Kept.refl _ wr).alloc _
      have KW1 := Lib.hid (KW.out.trans k1)
      have BR1 := BlkH.go BR k1
      have BO1 := BlkH.go BO k1
      have o2 : (wr.alloc (.cells #[.string xk, .string xv, .int .i64 xn, .bool xg] 33)).cell? ⟨w.heap.size + 1, 2, none⟩ = some (.int .i64 y.no) := BO1.out.cell 2
      have f0 := BO1.out.frozen 0
      have f1 := BO1.out.frozen 1
      have f2 := BO1.out.frozen 2
      have f3 := BO1.out.frozen 3
      have z0 := BO1.out.cell 0
      have z1 := BO1.out.cell 1
      have z3 := BO1.out.cell 3
      obtain ⟨wn, hw, bn, kn⟩ := set4_step BO1.out (.string xk) (.string xv) (.int .i64 xn) (.bool xg)
      have BN := Lib.hid bn
      have KN := Lib.hid kn
      clear bn kn k1
      cases h1 : xk.toList == q.toList with
      | false =>
        rw [h1] at ACn
        go_wp2_with fail
        go_roundw
        case measure => simp [intOf]; omega
        case rel => exact ⟨k + 1, acc, is, y, by omega, by simp, rfl, Lib.hid (by simpa using ACn.out.symm), IS, EY, KW1, BR1, BO1⟩
      | true =>
        rw [h1] at ACn
        by_cases h2 : xn ≤ no
        · have h2' : decide (xn ≤ no) = true := by simpa using h2
          rw [h2'] at ACn
          have yes : ∀ b : Bool, b = true → Hid (lastF (l.take (k + 1)) q no = if (true && (true && b)) = true then some (⟨xk, xv, xn, xg⟩ : Item) else acc) → Hid (some (⟨xk, xv, xn, xg⟩ : Item) = lastF (l.take (k + 1)) q no) := fun b hb h => Lib.hid (by
            rw [h.out, hb]
            rfl)
          have BRN := BlkH.far BR1 KN.out (by omega)
          have KWN := Lib.hid (KW1.out.trans' KN.out fun b hb _ e => by
            have : b = w.heap.size + 1 := e
            omega)
          cases is with
          | false =>
            have ACy := yes _ rfl ACn
            go_wp2_with fail
            go_roundw
            case measure => simp [intOf]; omega
            case rel => exact ⟨k + 1, some ⟨xk, xv, xn, xg⟩, true, ⟨xk, xv, xn, xg⟩, by omega, by simp, rfl, ACy, Lib.hid rfl, Lib.hid rfl, KWN, BRN, BN⟩
          | true =>
            by_cases h3 : y.no ≤ xn
            · have h3' : decide (y.no ≤ xn) = true := by simpa using h3
              rw [h3'] at ACn
              have ACy := yes _ rfl ACn
              go_wp2_with fail
              go_roundw
              case measure => simp [intOf]; omega
              case rel => exact ⟨k + 1, some ⟨xk, xv, xn, xg⟩, true, ⟨xk, xv, xn, xg⟩, by omega, by simp, rfl, ACy, Lib.hid rfl, Lib.hid rfl, KWN, BRN, BN⟩
            · have h3' : decide (y.no ≤ xn) = false := by simpa using h3
              rw [h3'] at ACn
              go_wp2_with fail
              go_roundw
              case measure => simp [intOf]; omega
              case rel => exact ⟨k + 1, acc, true, y, by omega, by simp, rfl, Lib.hid (by simpa using ACn.out.symm), IS, EY, KW1, BR1, BO1⟩
        · have h2' : decide (xn ≤ no) = false := by simpa using h2
          rw [h2'] at ACn
          go_wp2_with fail
          go_roundw
          case measure => simp [intOf]; omega
          case rel => exact ⟨k + 1, acc, is, y, by omega, by simp, rfl, Lib.hid (by simpa using ACn.out.symm), IS, EY, KW1, BR1, BO1⟩
    · have hkn : k = n := by omega
      have hltn : ¬ (k : Int) < (n : Int) := by omega
      have ht : l.take k = l := List.take_of_length_le (by omega)
      rw [ht] at AC
      have HKN := Lib.hid hkn
      clear ht hkn hlt
      have f0 := BR.out.frozen 0
      have f1 := BR.out.frozen 1
      have f2 := BR.out.frozen 2
      have f3 := BR.out.frozen 3
      have z0 := BR.out.cell 0
      have z1 := BR.out.cell 1
      have z2 := BR.out.cell 2
      have z3 := BR.out.cell 3
      have o0 := BO.out.cell 0
      have o1 := BO.out.cell 1
      have o2 := BO.out.cell 2
      have o3 := BO.out.cell 3
      have fin : ∀ (x : Item) (wn : World), Kept (fun b => b ≠ w.heap.size) wr wn → Kept (fun _ => True) w wn := fun x wn hk => KW.out.trans' hk fun b hb _ e => by
        have : b = w.heap.size := e
        omega
      have wr4 : ∀ (x : Item), Hid (x = r.1) → (hb : Hid (Blk wr w.heap.size 33 #[.string ⟨#[]⟩, .string ⟨#[]⟩, .int .i64 0, .bool false])) → ∃ wn, (((wr.setCell ⟨w.heap.size, 0, none⟩ (.string x.key)).setCell ⟨w.heap.size, 1, none⟩ (.string x.val)).setCell ⟨w.heap.size, 2, none⟩ (.int .i64 x.no)).setCell ⟨w.heap.size, 3, none⟩ (.bool x.gone) = wn ∧
          Blk wn w.heap.size 33 #[.string x.key, .string x.val, .int .i64 x.no, .bool x.gone] ∧ Hid (Kept (fun _ => True) w wn) := fun x _ hb => by
        obtain ⟨wn, hw, b, kk⟩ := set4_step hb.out (.string x.key) (.string x.val) (.int .i64 x.no) (.bool x.gone)
        exact ⟨wn, hw, b, Lib.hid (fin x wn kk)⟩
      obtain ⟨r1, r2⟩ := r
      have hres : Try.f22.results = #[.cell 6 33, .tmp 7] := rfl
      have yes : acc.isSome = true → y.gone = false → Hid ((y, true) = (r1, r2)) := fun h1 h2 => Lib.hid (by
        rw [← HR.out]
        unfold behindF
        rw [← AC.out]
        obtain ⟨z, hz⟩ := Option.isSome_iff_exists.1 h1
        have := EY.out
        rw [hz] at this
        have hyz : y = z := this
        rw [hz]
        simp only
        rw [← hyz, if_neg (by rw [h2]; decide)])
      have nope : (acc.isSome = false ∨ y.gone = true) → Hid ((default, false) = (r1, r2)) := fun h1 => Lib.hid (by
        rw [← HR.out]
        unfold behindF
        rw [← AC.out]
        cases ha : acc with
        | none => rfl
        | some z =>
          have := EY.out
          rw [ha] at this
          have hyz : y = z := this
          simp only
          rcases h1 with h1 | h1
          · rw [ha] at h1; cases h1
          · rw [← hyz, if_pos h1])
      cases is with
      | false =>
        have e := nope (.inl IS.out.symm)
        obtain ⟨rfl, rfl⟩ := Prod.mk.inj e.out
        obtain ⟨wn, hw, bn, KN⟩ := wr4 default (Lib.hid rfl) BR
        have hw' : (((wr.setCell ⟨w.heap.size, 0, none⟩ (.string ⟨#[]⟩)).setCell ⟨w.heap.size, 1, none⟩ (.string ⟨#[]⟩)).setCell ⟨w.heap.size, 2, none⟩ (.int .i64 0)).setCell ⟨w.heap.size, 3, none⟩ (.bool false) = wn := hw
        have v0 : wn.cell? ⟨w.heap.size, 0, none⟩ = some (.string ⟨#[]⟩) := bn.cell 0
        have v1 : wn.cell? ⟨w.heap.size, 1, none⟩ = some (.string ⟨#[]⟩) := bn.cell 1
        have v2 : wn.cell? ⟨w.heap.size, 2, none⟩ = some (.int .i64 0) := bn.cell 2
        have v3 : wn.cell? ⟨w.heap.size, 3, none⟩ = some (.bool false) := bn.cell 3
        clear hw wr4 fin yes nope
        go_wp2_with fail
        refine bodyPost_ret (v := .tuple #[.agg #[.string ⟨#[]⟩, .string ⟨#[]⟩, .int .i64 0, .bool false], .bool false]) ?_ rfl ⟨rfl, KN.out⟩
        unfold results
        rw [hres]
        go_simp
        try rfl
      | true =>
        cases hg : y.gone with
        | true =>
          have e := nope (.inr hg)
          obtain ⟨rfl, rfl⟩ := Prod.mk.inj e.out
          obtain ⟨wn, hw, bn, KN⟩ := wr4 default (Lib.hid rfl) BR
          have hw' : (((wr.setCell ⟨w.heap.size, 0, none⟩ (.string ⟨#[]⟩)).setCell ⟨w.heap.size, 1, none⟩ (.string ⟨#[]⟩)).setCell ⟨w.heap.size, 2, none⟩ (.int .i64 0)).setCell ⟨w.heap.size, 3, none⟩ (.bool false) = wn := hw
          have v0 : wn.cell? ⟨w.heap.size, 0, none⟩ = some (.string ⟨#[]⟩) := bn.cell 0
          have v1 : wn.cell? ⟨w.heap.size, 1, none⟩ = some (.string ⟨#[]⟩) := bn.cell 1
          have v2 : wn.cell? ⟨w.heap.size, 2, none⟩ = some (.int .i64 0) := bn.cell 2
          have v3 : wn.cell? ⟨w.heap.size, 3, none⟩ = some (.bool false) := bn.cell 3
          rw [hg] at o3
          clear hw wr4 fin yes nope
          go_wp2_with fail
          refine bodyPost_ret (v := .tuple #[.agg #[.string ⟨#[]⟩, .string ⟨#[]⟩, .int .i64 0, .bool false], .bool false]) ?_ rfl ⟨rfl, KN.out⟩
          unfold results
          rw [hres]
          go_simp
          try rfl
        | false =>
          have e := yes IS.out.symm hg
          obtain ⟨rfl, rfl⟩ := Prod.mk.inj e.out
          obtain ⟨wn, hw, bn, KN⟩ := wr4 y (Lib.hid rfl) BR
          obtain ⟨yk, yv, yn, yg⟩ := y
          simp only at hg o0 o1 o2 o3 hw bn
          subst hg
          have v0 : wn.cell? ⟨w.heap.size, 0, none⟩ = some (.string yk) := bn.cell 0
          have v1 : wn.cell? ⟨w.heap.size, 1, none⟩ = some (.string yv) := bn.cell 1
          have v2 : wn.cell? ⟨w.heap.size, 2, none⟩ = some (.int .i64 yn) := bn.cell 2
          have v3 : wn.cell? ⟨w.heap.size, 3, none⟩ = some (.bool false) := bn.cell 3
          clear wr4 fin yes nope e HR EY AC
          go_wp2_with fail
          refine bodyPost_ret (v := .tuple #[.agg #[.string yk, .string yv, .int .i64 yn, .bool false], .bool true]) ?_ rfl ⟨rfl, KN.out⟩
          unfold results
          rw [hres]
          go_simp
          try rfl
end Ythmijlchonbjnaa
end Go.Proofs
