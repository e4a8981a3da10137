/-
  The keys of updates, rising.
-/
import Derived.Test.YthmijlchonbjnaaBehind
import Derived.Test.YthmijlchonbjnaaShelf
import Derived.Sort.OwnSorted
import Derived.Lib.RowBridge
set_option maxHeartbeats 4000000
set_option maxRecDepth 100000
namespace Go.Proofs
open Go.RowKit Go.Sort
theorem Try.info9 : (Try.prog.info? 9).map (fun i => (i.zero, i.size, i.bytes)) = some (some (.string ⟨#[]⟩), 1, 16) := by kernel_rfl
namespace Ythmijlchonbjnaa
attribute [local go_sem ↓] Go.wp_at_zero Go.wp_at_succ
def sks (s : List UInt8) : List Value := [.string ⟨s.toArray⟩]
theorem encK : Enc 1 sks := ⟨fun _ => rfl, fun x u hu => by
  simp only [sks, List.mem_cons, List.not_mem_nil, or_false] at hu
  subst hu
  rfl⟩
abbrev KyO (w : World) (base : Nat) (v : Value) (ss : List (List UInt8)) : Prop := RowN 1 sks w base 9 v ss
theorem sks_flat (ss : List (List UInt8)) : ss.flatMap sks = ss.map encStr := by
  induction ss with
  | nil => rfl
  | cons s ss ih => rw [List.flatMap_cons, ih]; rfl
def keyOf (x : Item) : List UInt8 := x.key.data.toList
/-- The keys of items, rising, each once. -/
def keysF (l : List Item) : List (List UInt8) := Lib.compact ((l.map keyOf).mergeSort fun x y => decide (x ≤ y))
theorem keysF_nil : keysF [] = [] := by simp [keysF, Lib.compact, Lib.compactUpTo]
theorem kept_put {w : World} {g q : Nat} {os : Array Obj} (d : Array (List UInt8)) : Kept (fun b => b ≠ g) w (grow (putRow encStr (Sort.ahead w q) g 0 d) os) := by
  have h := grownBy_sorted (w := w) (g := g) (n := q) (os := os) d
  exact ⟨h.os, h.tape, h.output, h.size, fun k hk hne => h.block k hk (fun e => hne (by injection e))⟩
theorem blk_put {w : World} {g q : Nat} {e : TypeId} {cur : Array Value} {os : Array Obj} (d : Array (List UInt8)) (h : Blk w g e cur) : Blk (grow (putRow encStr (Sort.ahead w q) g 0 d) os) g e (putCells encStr 0 d cur) := heap_sorted d h
theorem put_size (d : Array (List UInt8)) (cur : Array Value) : (putCells encStr 0 d cur).size = cur.size := by simp [putCells]
theorem keys_any (l : List Item) {A : Option Addr} {n c : Nat} (w : World) (h : ItR w (.slice A n c) l) (hn : n ≤ 1000) :
    Calls Try.prog 21 #[.slice A n c] w fun e w' => ∃ B d, e = .returned (.slice B (keysF l).length d) ∧ Hid (RdK 1 sks w' (.slice B (keysF l).length d) (keysF l)) ∧ Kept (fun _ => True) w w' := by
  have HL := Lib.hid h.len
  have HH := Lib.hid h
  clear h
  go_enter Try.func21, Try.ntmps21
  go_wp2_with fail
  go_loopw [3, 5, 8] (fun s3 _ s8 wr => ∃ (k m : Nat) (B : Option Addr) (d : Nat), k ≤ n ∧ Hid (m = k) ∧ s8 = .int .i64 k ∧ s3 = .slice B m d ∧ Hid (KyO wr w.heap.size (.slice B m d) ((l.take k).map keyOf)) ∧ Hid (Kept (fun _ => True) w wr)) (fun _ _ s8 _ => n - (intOf s8).toNat)
  case atStart => exact ⟨0, 0, none, 0, Nat.zero_le _, Lib.hid rfl, rfl, rfl, Lib.hid (RowN.nil _ _ _), Lib.hid (Kept.refl _ _)⟩
  case round =>
    obtain ⟨k, m, B, d, hk, HMK, rfl, rfl, RO, KW⟩ := hrel
    have hmk := HMK.out
    by_cases hlt : k < n
    · have hltz : (k : Int) < (n : Int) := by omega
      obtain ⟨x, hx⟩ : ∃ x, l[k]? = some x := ⟨_, List.getElem?_eq_getElem (by have := HL.out; omega)⟩
      obtain ⟨b, off, rfl, _, _, hcell⟩ := (HH.out.all KW.out).at_ hx
      have r0 : wr.cell? ⟨b, off + k * 4, none⟩ = _ := hcell 0 _ rfl
      have r1 := hcell 1 _ rfl
      have r2 := hcell 2 _ rfl
      have r3 := hcell 3 _ rfl
      obtain ⟨w1, hw1⟩ : ∃ w1, (wr.alloc (.cells #[.string x.key, .string x.val, .int .i64 x.no, .bool x.gone] 33)).alloc (.cells #[.string x.key] 9) = w1 := ⟨_, rfl⟩
      have k1 : Kept (fun _ => True) wr w1 := hw1 ▸ ((Kept.refl _ wr).alloc _).alloc _
      have b1 : Blk w1 (wr.heap.size + 1) 9 #[.string x.key] := by
        have := Blk.new (wr.alloc (.cells #[.string x.key, .string x.val, .int .i64 x.no, .bool x.gone] 33)) 9 #[.string x.key]
        rw [hw1] at this
        simpa using this
      have hml : ((l.take k).map keyOf).length = m := by rw [List.length_map, List.length_take]; have := HL.out; omega
      have hro0 : KyO w1 w.heap.size (.slice B m d) ((l.take k).map keyOf) := RO.out.all k1
      obtain ⟨v', w2, hr, hro, hkk, _, _⟩ := run_append_rowN (P := Try.prog) (t := 58) (ty := 58) (w := w1) encK (by omega) Try.underlying58 Try.info9 rfl hro0 (RdK.one b1 (keyOf x) (by simp [sks, keyOf])) (by rw [hml]; simp [maxLen]; omega) (by rw [hml]; simp; omega) (by have := k1.size; have := KW.out.size; omega)
      have hnx : (l.take k).map keyOf ++ [keyOf x] = (l.take (k + 1)).map keyOf := by rw [List.take_add_one, hx]; simp
      rw [hnx] at hro
      obtain ⟨B', d', rfl⟩ := hro.form
      have hm2 : ((l.take (k + 1)).map keyOf).length = m + 1 := by rw [List.length_map, List.length_take]; have := HL.out; omega
      rw [hm2] at hro hr
      have K2 := Lib.hid ((KW.out.trans k1).trans' hkk fun b hb _ e => by
        have := (RO.out.lt e).2
        omega)
      have HR := Lib.hid hr
      have HRO := Lib.hid hro
      rw [← hw1] at HR
      clear hr hro hkk hro0 b1 k1 hw1 hcell hx hml hnx hm2 hmk
      go_wp2_with (at_builtin; refine wpList_append_run rfl (.tmp 12) (.tmp 15) 58 rfl rfl rfl HR.out ?_)
      go_roundw
      case measure => simp [intOf]; omega
      case rel => exact ⟨k + 1, m + 1, B', d', by omega, Lib.hid (by have := HMK.out; omega), by simp, rfl, HRO, K2⟩
    · have hkn : k = n := by omega
      have hltn : ¬ (k : Int) < (n : Int) := by omega
      have ht : l.take k = l := List.take_of_length_le (by have := HL.out; omega)
      rw [ht] at RO
      have HK := Lib.hid (And.intro hkn hmk)
      clear ht hkn hmk
      go_wp2_with fail
      rcases RO.out with ⟨h0, hnil⟩ | ⟨g, cap, cur, h0, hbase, hb, h1, h2, h3, h4⟩
      · injection h0 with e1 e2 e3
        subst e1 e2 e3
        have hl0 : l = [] := by simpa using hnil
        refine (Try.slices_Sort_string_none none 0 _).mono ?_
        rintro e w' ⟨rfl, rfl⟩
        go_wp2_with fail
        refine (Try.slices_Compact_string_empty none 0 _).mono ?_
        rintro e w' ⟨rfl, rfl⟩
        go_wp2_with fail
        go_ret
        rw [hl0, keysF_nil]
        exact ⟨none, 0, rfl, Lib.hid (RdK.nil _), KW.out⟩
      · have hml : (l.map keyOf).length = m := by rw [List.length_map]; have := HK.out; have := HL.out; omega
        rw [hml] at h0 h1 h4
        injection h0 with e1 _ e3
        subst e1 e3
        rw [Nat.mul_one] at h2 h4
        rw [sks_flat] at h4
        obtain ⟨ss, hss⟩ : ∃ ss, l.map keyOf = ss := ⟨_, rfl⟩
        obtain ⟨ts, hts⟩ : ∃ ts, ss.mergeSort (fun x y => decide (x ≤ y)) = ts := ⟨_, rfl⟩
        have hkf : keysF l = Lib.compact ts := by unfold keysF; rw [hss, hts]
        have htl : ts.length = m := by rw [← hts, List.length_mergeSort, ← hss, hml]
        rw [hss] at h4 hml
        have hmm : m ≤ 1000 := by have := HK.out; omega
        have hold := holds_of_block (w := wr) (g := g) (e := 9) (ss := ss) hb (by rw [hml]; exact h4)
        have hs : Calls Try.prog 31 #[.slice (some ⟨g, 0, none⟩) m d] wr fun e w' => e = .returned (.tuple #[]) ∧ ∃ n os, w' = grow (putRow encStr (Sort.ahead wr n) g 0 ts.toArray) os := by
          have := Try.slices_Sort_string g 0 d ss wr hold hb.lt (by omega)
          rwa [hml, hts] at this
        refine hs.mono ?_
        rintro e w1 ⟨rfl, q1, os1, hw1⟩
        have hb1 : Blk w1 g 9 (putCells encStr 0 ts.toArray cur) := hw1 ▸ blk_put _ hb
        have k1 : Kept (fun b => b ≠ g) wr w1 := hw1 ▸ kept_put _
        have h41 := take_putCells cur ts (by omega)
        have hold1 := holds_of_block (w := w1) (g := g) (e := 9) (ss := ts) hb1 h41
        have hc : Calls Try.prog 32 #[.slice (some ⟨g, 0, none⟩) m d] w1 fun e w' => e = .returned (.slice (some ⟨g, 0, none⟩) (Lib.compact ts).length d) ∧ ∃ q, w' = putRow encStr (Sort.ahead w1 q) g 0 (Lib.compact ts ++ List.replicate (m - (Lib.compact ts).length) []).toArray := by
          have := Try.slices_Compact_string g 0 d ts w1 hold1 (by omega) (by omega)
          rwa [htl] at this
        have hcl := Lib.compact_length_le ts
        have HC := Lib.hid hc
        have H1 := Lib.hid (And.intro hb1 k1)
        clear hw1 hold hold1 hs hc hb1 k1
        go_wp2_with fail
        refine HC.out.mono ?_
        rintro e w2 ⟨rfl, q2, hw2⟩
        have hb2 : Blk w2 g 9 (putCells encStr 0 (Lib.compact ts ++ List.replicate (m - (Lib.compact ts).length) []).toArray (putCells encStr 0 ts.toArray cur)) := by
          have := blk_put (q := q2) (os := #[]) (Lib.compact ts ++ List.replicate (m - (Lib.compact ts).length) []).toArray H1.out.1
          rwa [grow_empty, ← hw2] at this
        have k2 : Kept (fun b => b ≠ g) w1 w2 := by
          have := kept_put (w := w1) (g := g) (q := q2) (os := #[]) (Lib.compact ts ++ List.replicate (m - (Lib.compact ts).length) []).toArray
          rwa [grow_empty, ← hw2] at this
        have h42 := take_putCells (putCells encStr 0 ts.toArray cur) (Lib.compact ts ++ List.replicate (m - (Lib.compact ts).length) []) (by rw [put_size]; simp; omega)
        have hrow : KyO w2 w.heap.size (.slice (some ⟨g, 0, none⟩) (Lib.compact ts).length d) (Lib.compact ts) := .inr ⟨g, d, _, rfl, hbase, hb2, by omega, by rw [put_size, put_size]; omega, h3, by
          rw [Nat.mul_one, sks_flat]
          have h5 := congrArg (List.take (Lib.compact ts).length) h42
          rw [List.take_take, List.map_append, List.take_left' (by simp)] at h5
          rw [← h5]
          congr 1
          simp⟩
        have HROW := Lib.hid (hrow.rd encK)
        have KW2 := Lib.hid ((KW.out.trans' H1.out.2 fun b hb' _ e => by
          have : b = g := e
          omega).trans' k2 fun b hb' _ e => by
          have : b = g := e
          omega)
        clear hw2 hb2 k2 h42 hrow
        go_wp2_with fail
        go_ret
        rw [hkf]
        exact ⟨_, _, rfl, HROW, KW2.out⟩
end Ythmijlchonbjnaa
end Go.Proofs
