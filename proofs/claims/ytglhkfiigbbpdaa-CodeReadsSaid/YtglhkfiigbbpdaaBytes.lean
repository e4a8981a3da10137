/-
  Bytes in memory: cells, strings, slices that read as bytes; a copy of bytes; append of bytes.
-/
import Derived.Test.YtglhkfiigbbpdaaProg
import Derived.Test.YtglhkfiigbbpdaaRowK
import Derived.Laws.CopyOwn
import Derived.Laws.IdiomStrings
import Derived.Lib.BufferRead
import Derived.Deep.Upon
set_option maxHeartbeats 400000
namespace Go.Proofs
open Go.RowKit
theorem Try.info5 : (Try.prog.info? 5).map (fun i => (i.zero, i.size, i.bytes)) = some (some (.int .u8 0), 1, 1) := by kernel_rfl
theorem info_parts {P : Program} {e : TypeId} {z : Option Value} {s b : Nat} (h : (P.info? e).map (fun i => (i.zero, i.size, i.bytes)) = some (z, s, b)) : ∃ i, P.info? e = some i ∧ i.zero = z ∧ i.size = s ∧ i.bytes = b := by
  cases hi : P.info? e with
  | none => rw [hi] at h; cases h
  | some i =>
    rw [hi] at h
    simp only [Option.map_some, Option.some.injEq, Prod.mk.injEq] at h
    exact ⟨i, rfl, h.1, h.2.1, h.2.2⟩
namespace Ytglhkfiigbbpdaa
/-- Bytes as cells. -/
def bc (l : List UInt8) : List Value := l.map fun b => .int .u8 (b.toNat : Int)
/-- Bytes as a string. -/
def str (l : List UInt8) : ByteArray := ⟨l.toArray⟩
theorem str_inj {l m : List UInt8} (h : str l = str m) : l = m := by
  injection h with h
  simpa using congrArg Array.toList h
theorem bc_length (l : List UInt8) : (bc l).length = l.length := by simp [bc]
theorem bc_append (l m : List UInt8) : bc (l ++ m) = bc l ++ bc m := by simp [bc]
theorem bc_one (l : List UInt8) : ∀ u ∈ bc l, u.oneCell' = true := by
  intro u hu
  obtain ⟨b, _, rfl⟩ := List.mem_map.1 hu
  rfl
theorem bc_get {l : List UInt8} {i : Nat} {u : UInt8} (h : l[i]? = some u) : (bc l)[i]? = some (.int .u8 (u.toNat : Int)) := by simp [bc, h]
theorem bc_get' {l : List UInt8} {i : Nat} {v : Value} (h : (bc l)[i]? = some v) : ∃ u, l[i]? = some u ∧ v = .int .u8 (u.toNat : Int) := by
  simp only [bc, List.getElem?_map, Option.map_eq_some_iff] at h
  obtain ⟨u, h1, h2⟩ := h
  exact ⟨u, h1, h2.symm⟩

/-- The slice value v reads as the bytes l. -/
def Rd (w : World) (v : Value) (l : List UInt8) : Prop :=
  ∃ A c, v = .slice A l.length c ∧ l.length ≤ c ∧ ∀ i u, l[i]? = some u → ∃ b off, A = some ⟨b, off, none⟩ ∧ w.cell? ⟨b, off + i, none⟩ = some (.int .u8 (u.toNat : Int))
theorem lt_of_cell {w : World} {b o : Nat} {v : Value} (h : w.cell? ⟨b, o, none⟩ = some v) : b < w.heap.size := by
  rcases Nat.lt_or_ge b w.heap.size with h1 | h1
  · exact h1
  · simp [World.cell?, Array.getElem?_eq_none h1] at h
section
variable {w w' : World} {v : Value} {l : List UInt8}
theorem Rd.kept {K : Nat → Prop} (h : Rd w v l) (hk : Kept K w w') (ho : l ≠ [] → ∀ g, v.ownBlock = some g → K g) : Rd w' v l := by
  obtain ⟨A, c, rfl, hlc, hA⟩ := h
  refine ⟨A, c, rfl, hlc, fun i u hu => ?_⟩
  obtain ⟨b, off, ha, h1⟩ := hA i u hu
  have hne : l ≠ [] := fun e => by rw [e] at hu; simp at hu
  exact ⟨b, off, ha, (hk.cell (p := ⟨b, off + i, none⟩) (lt_of_cell h1) (ho hne b (by rw [ha]; rfl))).trans h1⟩
theorem Rd.all (h : Rd w v l) (hk : Kept (fun b => b < w.heap.size) w w') : Rd w' v l := by
  obtain ⟨A, c, rfl, hlc, hA⟩ := h
  refine ⟨A, c, rfl, hlc, fun i u hu => ?_⟩
  obtain ⟨b, off, ha, h1⟩ := hA i u hu
  exact ⟨b, off, ha, (hk.cell (p := ⟨b, off + i, none⟩) (lt_of_cell h1) (lt_of_cell h1)).trans h1⟩
theorem Rd.some_ (h : Rd w v l) (hne : l ≠ []) : ∃ b off c, v = .slice (some ⟨b, off, none⟩) l.length c ∧ l.length ≤ c ∧ ∀ i u, l[i]? = some u → w.cell? ⟨b, off + i, none⟩ = some (.int .u8 (u.toNat : Int)) := by
  obtain ⟨A, c, rfl, hlc, hA⟩ := h
  obtain ⟨x, l', rfl⟩ : ∃ x l', l = x :: l' := by
    cases l with
    | nil => exact absurd rfl hne
    | cons x l' => exact ⟨x, l', rfl⟩
  obtain ⟨b, off, rfl, _⟩ := hA 0 x rfl
  refine ⟨b, off, c, rfl, hlc, fun i u hu => ?_⟩
  obtain ⟨b2, off2, he, h1⟩ := hA i u hu
  injection he with he
  injection he with he1 he2
  subst he1 he2
  exact h1
theorem Rd.drew (h : Rd w v l) : Rd w.drew v l := h.all ((Kept.refl _ w).drew)
theorem Rd.nil (w : World) : Rd w (.slice none 0 0) [] := ⟨none, 0, rfl, Nat.le_refl _, fun i u hu => by simp at hu⟩
theorem Rd.form (h : Rd w v l) : ∃ A c, v = .slice A l.length c := by
  obtain ⟨A, c, rfl, _⟩ := h
  exact ⟨A, c, rfl⟩
/-- What lies in a block from a place on. -/
theorem Rd.of_blk {g off cap : Nat} {cs : Array Value} (hb : Blk w g 5 cs) (hl : l.length ≤ cap) (hc : (cs.toList.drop off).take l.length = bc l) : Rd w (.slice (some ⟨g, off, none⟩) l.length cap) l := by
  refine ⟨_, cap, rfl, hl, fun i u hu => ⟨g, off, rfl, ?_⟩⟩
  rw [hb.cell]
  have h1 := bc_get hu
  rw [← hc, List.getElem?_take] at h1
  split at h1
  · rw [List.getElem?_drop] at h1
    simpa using h1
  · cases h1
theorem Rd.src {P : Program} {t : TypeId} (ht : P.underlying t = some (.slice 5)) (h : Rd w v l) : Src P 1 t v l.length (bc l) w := by
  by_cases hne : l = []
  · subst hne
    obtain ⟨A, c, rfl, _⟩ := h
    cases A with
    | none => exact Src.ofNil w ht c
    | some a => exact Src.ofSlice w ht a 0 c [] (by simp) (fun j u hj => by simp at hj) (fun u hu => by cases hu)
  · obtain ⟨b, off, c, rfl, _, hc⟩ := h.some_ hne
    refine Src.ofSlice w ht _ _ _ _ (by simp [bc_length]) (fun j u hj => ?_) (bc_one l)
    obtain ⟨x, hx, rfl⟩ := bc_get' hj
    rw [addr_add]
    exact hc j x hx
/-- string(v). -/
theorem run_str {P : Program} {src dst : TypeId} (hs : P.underlying src = some (.slice 5)) (he : P.underlying 5 = some (.int .u8)) (hd : P.underlying dst = some .string) (h : Rd w v l) :
    (convert src dst v).run P w = .ok (.string (str l)) w := by
  by_cases hne : l = []
  · subst hne
    obtain ⟨A, c, rfl, _⟩ := h
    cases A with
    | none => exact Lib.run_convert_nil_bytes w src dst 5 c hs he hd
    | some a => exact run_convert_bytes_back w src dst 5 a c [] hs he hd fun j hj => by simp at hj
  · obtain ⟨b, off, c, rfl, _, hc⟩ := h.some_ hne
    exact run_convert_bytes_back w src dst 5 _ c l hs he hd fun j hj => by
      rw [addr_add]
      exact hc j _ (List.getElem?_eq_getElem hj)

theorem Row1.rd {base : Nat} (h : Row1 w base 5 v (bc l)) : Rd w v l := by
  rcases h with ⟨rfl, h0⟩ | ⟨g, cap, cur, hv, hb, hh, hnc, hcc, hcm, ht⟩
  · have : l = [] := by simpa [bc] using h0
    subst this
    exact Rd.nil w
  · rw [bc_length] at hv ht hnc
    subst hv
    exact Rd.of_blk hh hnc (by simpa using ht)

/-- append(v, l...), whatever l is laid at. -/
theorem run_append_src {P : Program} {t ty : TypeId} {base : Nat} (ht : P.underlying t = some (.slice 5)) (hi : (P.info? 5).map (fun i => (i.zero, i.size, i.bytes)) = some (some (.int .u8 0), 1, 1)) {xs : List Value} (h : Row1 w base 5 v xs) {x : Value} {m : List UInt8} (hx : Rd w x m)
    (hbytes : xs.length + m.length ≤ 140737488355328) (hbase : base ≤ w.heap.size) :
    ∃ v' w', (Builtin.append_ #[t, t] ty #[v, x]).run P w = .ok v' w' ∧ Row1 w' base 5 v' (xs ++ bc m) ∧ Kept (fun b => v.ownBlock ≠ some b) w w' ∧ (v'.ownBlock = v.ownBlock ∨ v'.ownBlock = some w.heap.size) := by
  obtain ⟨i, hi0, hz, hs1, hb1⟩ := info_parts hi
  have hsrc := hx.src ht
  by_cases hm : m.length = 0
  · have hm0 : m = [] := List.eq_nil_of_length_eq_zero hm
    subst hm0
    obtain ⟨A, c, hv⟩ := h.form
    subst hv
    have hle : xs.length ≤ c := by
      rcases h with ⟨h0, hx⟩ | ⟨g, cap, cur, hv, _, _, hnc, _⟩
      · rw [hx]; exact Nat.zero_le _
      · injection hv with _ _ hc
        rw [hc]; exact hnc
    have hr := run_append_nothing (P := P) w t t ty 5 i ht hi0 A xs.length c hle x (by rw [hs1]; exact hsrc)
    refine ⟨_, _, hr, ?_, Kept.refl _ _, .inl rfl⟩
    simpa [bc] using h
  · obtain ⟨b, off, c, rfl, _, hc⟩ := hx.some_ (fun e => hm (by rw [e]; rfl))
    · have hnews : ∀ j u, (bc m)[j]? = some u → w.cell? ((⟨b, off, none⟩ : Addr).add j) = some u := by
        intro j u hj
        obtain ⟨x, hx, rfl⟩ := bc_get' hj
        rw [addr_add]
        exact hc j x hx
      have hl1 : (bc m).length = m.length * i.size := by rw [hs1, bc_length, Nat.mul_one]
      have hN : (xs ++ bc m).length = xs.length + m.length := by simp [bc_length]
      rcases h with ⟨rfl, rfl⟩ | ⟨g, cap, cur, rfl, hbg, hg, hnc, hcc, hcm, htake⟩
      · have hr := run_append_nil (P := P) w t ty 5 i _ ht hi0 hz ⟨b, off, none⟩ m.length c (bc m) hl1 hnews (by omega) (by omega) (by rw [hb1]; simp at hbytes; omega)
        obtain ⟨h2, h3⟩ := row1_grown (w := w) (base := base) (e := 5) (z := .int .u8 0) rfl (xs := bc m) (old := 0) (by rw [bc_length]; unfold maxLen; omega) hbase m.length (bc_length m).symm
        exact ⟨_, _, hr, by simpa using h2, h3.mono fun _ _ _ => trivial, .inr rfl⟩
      · by_cases hroom : xs.length + m.length ≤ cap
        · have hr := run_append_room (P := P) w t ty 5 i ht hi0 g xs.length cap cur hg ⟨b, off, none⟩ m.length c (bc m) hl1 hnews (bc_one m) hroom (by rw [hs1, Nat.mul_one, bc_length]; omega)
          rw [hs1, Nat.mul_one, htake] at hr
          refine ⟨_, _, hr, .inr ⟨g, cap, _, by rw [hN], hbg, setRow_heap w g cur _ 5 _ hg, by rw [hN]; exact hroom, ?_, hcm, ?_⟩, ⟨rfl, rfl, rfl, by simp [World.setRow], fun k _ hk => setRow_other w g k _ (fun e => hk (by simp [Value.ownBlock, e]))⟩, .inl rfl⟩
          · simp only [List.size_toArray, List.length_append, List.length_drop, Array.length_toList, bc_length]
            omega
          · exact List.take_left
        · have holds : ∀ j u, xs[j]? = some u → w.cell? ((⟨g, 0, none⟩ : Addr).add j) = some u := by
            intro j u hj
            rw [addr_add, Nat.zero_add, hg.cell]
            rw [← htake, List.getElem?_take] at hj
            split at hj
            · simpa using hj
            · cases hj
          have hr := run_append_grow (P := P) w t ty 5 i _ ht hi0 hz ⟨g, 0, none⟩ xs.length cap xs (by rw [hs1, Nat.mul_one]) holds ⟨b, off, none⟩ m.length c (bc m) hl1 hnews (by omega) (by omega) (growslice_fits (by omega) (by rw [hb1, Nat.mul_one]; exact hbytes))
          obtain ⟨h2, h3⟩ := row1_grown (w := w) (base := base) (e := 5) (z := .int .u8 0) rfl (xs := xs ++ bc m) (old := cap) (by rw [hN]; unfold maxLen; omega) hbase (xs.length + m.length) hN.symm
          have e2 : xs.toArray ++ (bc m).toArray = (xs ++ bc m).toArray := by simp
          rw [e2] at hr
          exact ⟨_, _, hr, h2, h3.mono fun _ _ _ => trivial, .inr rfl⟩
end
end Ytglhkfiigbbpdaa
end Go.Proofs
