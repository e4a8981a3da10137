/-
  The calls upon an Epochs, each by one contract: what it answers and what it leaves.
-/
import Derived.Test.YtbefknaffopeaaaNew
import Derived.Test.YtbefknaffopeaaaReclaim
set_option maxHeartbeats 400000
namespace Go.Proofs
open Go.RowKit
namespace Ytbefknaffopeaaa
def St.at (S : St) (c : Int) : Option Bool := if 0 ≤ c then S.ins[c.toNat]? else none
def St.enter (S : St) (c : Int) : St := if S.at c = some false then { S with cells := S.cells.set c.toNat S.now, ins := S.ins.set c.toNat true, g := (S.g.on Tal.load).on Tal.store } else S
def St.exit (S : St) (c : Int) : St := if S.at c = some true then { S with cells := S.cells.set c.toNat 0, ins := S.ins.set c.toNat false, g := S.g.on Tal.store } else S
def St.retire (S : St) (n : Int) : St := { S with waits := S.waits ++ [(n, S.now)], g := S.g.on Tal.load }
def St.bump (S : St) : St := { S with now := wrap64 (S.now + 1), g := S.g.on Tal.add }
def St.asked (S : St) : St := { S with g := (S.g.on Tal.load).ons S.ins.length }
def St.told (S : St) : List Int := (S.waits.filter (isOld (safeOf S) true)).map (·.1)
def St.reclaim (S : St) : St := { S with waits := S.waits.filter (isOld (safeOf S) false), g := (S.g.on Tal.load).ons S.ins.length }

theorem own_form {w : World} {base : Nat} {e : TypeId} {size n : Nat} {v : Value} {xs : List Value} (h : w.ownsRow base e size v n xs) : ∃ A c, v = .slice A n c := by
  rcases h.2 with ⟨rfl, rfl⟩ | ⟨g, cap, cur, rfl, _⟩
  · exact ⟨_, _, rfl⟩
  · exact ⟨_, _, rfl⟩

section
variable {w : World} {base : Nat} {L : Lay} {S : St}
theorem St.at_lt {c : Int} {b : Bool} (h : S.at c = some b) : ∃ k : Nat, c = k ∧ S.ins[k]? = some b := by
  unfold St.at at h
  split at h
  · exact ⟨c.toNat, by omega, h⟩
  · cases h

theorem enter_any (h : Rep w base L S) (c : Int) :
    Calls Try.prog 9 #[.pointer (some ⟨L.eb, 0, none⟩), .int .i64 c] w fun e w' => e = .returned (.int .i64 (if S.at c = some false then 0 else 1)) ∧ Rep w' base L (S.enter c) ∧ Kept (fun b => ¬ L.foot b) w w' := by
  by_cases h0 : S.at c = some false
  · obtain ⟨k, rfl, hk⟩ := St.at_lt h0
    refine (enter_yes h k hk).mono ?_
    rintro e w' ⟨rfl, h1, h2⟩
    rw [St.enter, if_pos h0, if_pos h0]
    exact ⟨rfl, h1, h2⟩
  · have hno : Calls Try.prog 27 #[.pointer (some ⟨L.eb, 0, none⟩), .int .i64 c, .bool false] w fun e w' => e = .returned (.bool false) ∧ w = w' := by
      rcases Int.lt_or_le c 0 with hc | hc
      · exact is_lo h c false hc
      · rcases Int.lt_or_le c L.ints.length with hl | hl
        · obtain ⟨k, rfl⟩ := Int.eq_ofNat_of_zero_le hc
          have hk : k < S.ins.length := by rw [h.li]; omega
          have hb : S.ins[k]? = some S.ins[k] := List.getElem?_eq_getElem hk
          have hbt : S.ins[k] = true := by
            cases hh : S.ins[k] with
            | true => rfl
            | false =>
              rw [hh] at hb
              exact absurd (by unfold St.at; rw [if_pos hc]; exact hb) h0
          rw [hbt] at hb
          exact is_at h k false true hb
        · exact is_hi h c false hl
    refine (enter_no c hno).mono ?_
    rintro e w' ⟨rfl, rfl⟩
    rw [St.enter, if_neg h0, if_neg h0]
    exact ⟨rfl, h, Kept.refl _ _⟩

theorem exit_any (h : Rep w base L S) (c : Int) :
    Calls Try.prog 10 #[.pointer (some ⟨L.eb, 0, none⟩), .int .i64 c] w fun e w' => e = .returned (.int .i64 (if S.at c = some true then 0 else 1)) ∧ Rep w' base L (S.exit c) ∧ Kept (fun b => ¬ L.foot b) w w' := by
  by_cases h0 : S.at c = some true
  · obtain ⟨k, rfl, hk⟩ := St.at_lt h0
    refine (exit_yes h k hk).mono ?_
    rintro e w' ⟨rfl, h1, h2⟩
    rw [St.exit, if_pos h0, if_pos h0]
    exact ⟨rfl, h1, h2⟩
  · have hno : Calls Try.prog 27 #[.pointer (some ⟨L.eb, 0, none⟩), .int .i64 c, .bool true] w fun e w' => e = .returned (.bool false) ∧ w = w' := by
      rcases Int.lt_or_le c 0 with hc | hc
      · exact is_lo h c true hc
      · rcases Int.lt_or_le c L.ints.length with hl | hl
        · obtain ⟨k, rfl⟩ := Int.eq_ofNat_of_zero_le hc
          have hk : k < S.ins.length := by rw [h.li]; omega
          have hb : S.ins[k]? = some S.ins[k] := List.getElem?_eq_getElem hk
          have hbt : S.ins[k] = false := by
            cases hh : S.ins[k] with
            | false => rfl
            | true =>
              rw [hh] at hb
              exact absurd (by unfold St.at; rw [if_pos hc]; exact hb) h0
          rw [hbt] at hb
          exact is_at h k true false hb
        · exact is_hi h c true hl
    refine (exit_no c hno).mono ?_
    rintro e w' ⟨rfl, rfl⟩
    rw [St.exit, if_neg h0, if_neg h0]
    exact ⟨rfl, h, Kept.refl _ _⟩

/-- What an Epochs may touch from now on: what it touched, or what is new. -/
def Lay.into (L L' : Lay) (w : World) : Prop := L'.eb = L.eb ∧ ∀ b, L'.foot b → L.foot b ∨ w.heap.size ≤ b
theorem Lay.into_refl (L : Lay) (w : World) : L.into L w := ⟨rfl, fun _ h => .inl h⟩
theorem Lay.into_wv {L : Lay} {w : World} {wv' : Value} (h : ∀ b, wv'.ownBlock = some b → L.wv.ownBlock = some b ∨ w.heap.size ≤ b) : L.into { L with wv := wv' } w := by
  refine ⟨rfl, ?_⟩
  rintro b (hb | hb | hb | hb | hb | hb | hb)
  · exact .inl (.inl hb)
  · exact .inl (.inr (.inl hb))
  · exact .inl (.inr (.inr (.inl hb)))
  · exact .inl (.inr (.inr (.inr (.inl hb))))
  · exact .inl (.inr (.inr (.inr (.inr (.inl hb)))))
  · exact .inl (.inr (.inr (.inr (.inr (.inr (.inl hb))))))
  · rcases h b hb with h | h
    · exact .inl (.inr (.inr (.inr (.inr (.inr (.inr h))))))
    · exact .inr h

/-- A step of an Epochs turns nothing that lies below it. -/
theorem Rep.past {w0 wi wj : World} (h : Rep wi base L S) (q : Kept (fun b => b < base) w0 wi) (hk : Kept (fun b => ¬ L.foot b) wi wj) : Kept (fun b => b < base) w0 wj :=
  q.trans' hk fun i _ hi hf => Nat.not_lt_of_le (h.low i hf) hi

theorem retire_all (h : Rep w base L S) (n : Int) (hm : (S.waits.length + 1) * 16 ≤ 140737488355328) (hbase : base ≤ w.heap.size) :
    Calls Try.prog 11 #[.pointer (some ⟨L.eb, 0, none⟩), .int .i64 n] w fun e w' => ∃ L', e = .returned (.tuple #[]) ∧ Rep w' base L' (S.retire n) ∧ L.into L' w ∧ Kept (fun b => ¬ L.foot b) w w' := by
  refine (retire_any h n hm hbase).mono ?_
  rintro e w' ⟨rfl, wv', h1, h2, h3⟩
  exact ⟨_, rfl, h1, Lay.into_wv h2, h3⟩

theorem bump_all (h : Rep w base L S) :
    Calls Try.prog 12 #[.pointer (some ⟨L.eb, 0, none⟩)] w fun e w' => e = .returned (.int .i64 S.bump.now) ∧ Rep w' base L S.bump ∧ Kept (fun b => ¬ L.foot b) w w' := bump_any h

theorem safe_all (h : Rep w base L S) :
    Calls Try.prog 15 #[.pointer (some ⟨L.eb, 0, none⟩)] w fun e w' => e = .returned (.int .i64 (safeOf S)) ∧ Rep w' base L S.asked ∧ Kept (fun b => ¬ L.foot b) w w' := by
  refine (safe_any h).mono ?_
  rintro e w' ⟨rfl, h1, h2⟩
  rw [← h.li] at h1
  exact ⟨rfl, h1, h2⟩

theorem reclaim_all (h : Rep w base L S) (hm : S.waits.length * 16 ≤ 140737488355328) (hbase : base ≤ w.heap.size) :
    Calls Try.prog 13 #[.pointer (some ⟨L.eb, 0, none⟩)] w fun e w' => ∃ v L', e = .returned v ∧ w'.ownsRow w.heap.size 3 1 v S.told.length (S.told.map (Value.int .i64)) ∧
      Rep w' base L' S.reclaim ∧ L.into L' w ∧ Kept (fun b => ¬ L.foot b) w w' := by
  refine (reclaim_any h hm hbase).mono ?_
  rintro e w' ⟨v, wv', rfl, h0, h1, h2, h3⟩
  rw [← h.li] at h1
  refine ⟨v, _, rfl, ?_, h1, Lay.into_wv fun b hb => .inr (h2 b hb), h3⟩
  unfold St.told
  rw [List.length_map, List.map_map]
  exact h0
theorem Enter (h : Rep w base L S) {eb : Nat} (he : L.eb = eb) (c : Int) :
    Calls Try.prog 9 #[.pointer (some ⟨eb, 0, none⟩), .int .i64 c] w fun e w' => e = .returned (.int .i64 (if S.at c = some false then 0 else 1)) ∧ Rep w' base L (S.enter c) ∧ Kept (fun b => ¬ L.foot b) w w' := by
  subst he; exact enter_any h c
theorem Exit (h : Rep w base L S) {eb : Nat} (he : L.eb = eb) (c : Int) :
    Calls Try.prog 10 #[.pointer (some ⟨eb, 0, none⟩), .int .i64 c] w fun e w' => e = .returned (.int .i64 (if S.at c = some true then 0 else 1)) ∧ Rep w' base L (S.exit c) ∧ Kept (fun b => ¬ L.foot b) w w' := by
  subst he; exact exit_any h c
theorem Retire (h : Rep w base L S) {eb : Nat} (he : L.eb = eb) (n : Int) (hm : (S.waits.length + 1) * 16 ≤ 140737488355328) (hbase : base ≤ w.heap.size) :
    Calls Try.prog 11 #[.pointer (some ⟨eb, 0, none⟩), .int .i64 n] w fun e w' => ∃ L', e = .returned (.tuple #[]) ∧ Rep w' base L' (S.retire n) ∧ L'.eb = eb ∧ (∀ b, L'.foot b → L.foot b ∨ w.heap.size ≤ b) ∧ Kept (fun b => ¬ L.foot b) w w' := by
  subst he
  exact (retire_all h n hm hbase).mono fun e w' ⟨L', h1, h2, h3, h4⟩ => ⟨L', h1, h2, h3.1, h3.2, h4⟩
theorem Bump (h : Rep w base L S) {eb : Nat} (he : L.eb = eb) :
    Calls Try.prog 12 #[.pointer (some ⟨eb, 0, none⟩)] w fun e w' => e = .returned (.int .i64 S.bump.now) ∧ Rep w' base L S.bump ∧ Kept (fun b => ¬ L.foot b) w w' := by
  subst he; exact bump_all h
theorem Safe (h : Rep w base L S) {eb : Nat} (he : L.eb = eb) :
    Calls Try.prog 15 #[.pointer (some ⟨eb, 0, none⟩)] w fun e w' => e = .returned (.int .i64 (safeOf S)) ∧ Rep w' base L S.asked ∧ Kept (fun b => ¬ L.foot b) w w' := by
  subst he; exact safe_all h
theorem Reclaim (h : Rep w base L S) {eb : Nat} (he : L.eb = eb) (hm : S.waits.length * 16 ≤ 140737488355328) (hbase : base ≤ w.heap.size) :
    Calls Try.prog 13 #[.pointer (some ⟨eb, 0, none⟩)] w fun e w' => ∃ A c L', e = .returned (.slice A S.told.length c) ∧ w'.ownsRow w.heap.size 3 1 (.slice A S.told.length c) S.told.length (S.told.map (Value.int .i64)) ∧
      Rep w' base L' S.reclaim ∧ L'.eb = eb ∧ (∀ b, L'.foot b → L.foot b ∨ w.heap.size ≤ b) ∧ Kept (fun b => ¬ L.foot b) w w' := by
  subst he
  refine (reclaim_all h hm hbase).mono ?_
  rintro e w' ⟨v, L', rfl, h2, h3, h4, h5⟩
  obtain ⟨A, c, rfl⟩ := own_form h2
  exact ⟨A, c, L', rfl, h2, h3, h4.1, h4.2, h5⟩
theorem Waiting (h : Rep w base L S) {eb : Nat} (he : L.eb = eb) :
    Calls Try.prog 14 #[.pointer (some ⟨eb, 0, none⟩)] w fun e w' => e = .returned (.int .i64 S.waits.length) ∧ w = w' := by
  subst he; exact waiting_any h
end
end Ytbefknaffopeaaa
end Go.Proofs
