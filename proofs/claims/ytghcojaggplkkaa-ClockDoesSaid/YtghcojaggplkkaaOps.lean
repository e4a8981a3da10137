/-
  The clock's calls, one contract each.
-/
import Derived.Test.YtghcojaggplkkaaPure
import Derived.Test.YtghcojaggplkkaaAdd2
import Derived.Test.YtghcojaggplkkaaVictim
set_option maxHeartbeats 400000
namespace Go.Proofs
open Go.RowKit
namespace Ytghcojaggplkkaa
section
variable {w : World} {base : Nat} {L : Lay} {S : Ck}
/-- What a call that may grow a clock leaves. -/
def Grown (w w' : World) (base : Nat) (L : Lay) (S' : Ck) : Prop :=
  ∃ L', Rep w' base L' S' ∧ L'.kb = L.kb ∧ (∀ c, L'.foot c → L.foot c ∨ w.heap.size ≤ c) ∧ Kept (fun b => ¬ L.foot b) w w'
theorem wrap_small {x : Int} (h0 : -9223372036854775808 ≤ x) (h1 : x ≤ 9223372036854775807) : wrap64 x = x := by unfold wrap64; omega

theorem Add (h : Rep w base L S) (G : Good S) (n b : Int) (hbase : base ≤ w.heap.size) :
    Calls Try.prog 8 #[.pointer (some ⟨L.kb, 0, none⟩), .int .i64 n, .int .i64 b] w fun e w' => e = .returned (.int .i64 (S.add n b).1) ∧ Grown w w' base L (S.add n b).2 := by
  have hl := G.len
  have hh := G.hand_le
  have ht := G.tot_le
  unfold Ck.add
  split
  · next hc =>
    refine (add_bad _ n b w hc).mono ?_
    rintro e w' ⟨rfl, rfl⟩
    exact ⟨rfl, L, h, rfl, fun c hc => .inl hc, Kept.refl _ _⟩
  · next hc =>
    split
    · next hi =>
      split
      · next hb =>
        subst hb
        refine (add_none h (by omega) (by omega) hi).mono ?_
        rintro e w' ⟨rfl, rfl⟩
        exact ⟨rfl, L, h, rfl, fun c hc => .inl hc, Kept.refl _ _⟩
      · next hb =>
        refine (add_new h (n := n) (b := b) (by omega) (by omega) (by omega) (by omega) hi hl hbase).mono ?_
        rintro e w' ⟨rfl, L', hr, hk, hf, hkp⟩
        rw [wrap_small (by omega) (by omega)] at hr
        exact ⟨rfl, L', hr, hk, hf, hkp⟩
    · next i hi =>
      obtain ⟨p, hp, hn⟩ := idx_some hi
      have e : pageB S.ring i = p.b := by simp [pageB, hp]
      have hpg := G.page p (List.mem_of_getElem? hp)
      rw [e]
      split
      · next hb =>
        subst hb
        refine (add_drop h (by omega) (by omega) hi hp (by omega) (by omega) hl hh hbase).mono ?_
        rintro e w' ⟨rfl, rv', hr, hnew, hkp⟩
        rw [wrap_small (by omega) (by omega)] at hr
        exact ⟨rfl, _, hr, rfl, fun c hc => drop_foot hc hnew, hkp⟩
      · next hb =>
        refine (add_upd h (by omega) (by omega) (by omega) (by omega) hi hp (by omega) (by omega)).mono ?_
        rintro e w' ⟨rfl, hr, hkp⟩
        rw [wrap_small (by omega) (by omega)] at hr
        rw [modify_set hp]
        exact ⟨rfl, L, hr, rfl, fun c hc => .inl hc, hkp⟩

theorem Touch (h : Rep w base L S) (n : Int) :
    Calls Try.prog 9 #[.pointer (some ⟨L.kb, 0, none⟩), .int .i64 n] w fun e w' => e = .returned (.tuple #[]) ∧ Rep w' base L (S.touch n) ∧ Kept (fun b => ¬ L.foot b) w w' := by
  unfold Ck.touch
  split
  · next hi =>
    refine (touch_miss h hi).mono ?_
    rintro e w' ⟨rfl, rfl⟩
    exact ⟨rfl, h, Kept.refl _ _⟩
  · next i hi =>
    obtain ⟨p, hp, hn⟩ := idx_some hi
    rw [modify_set hp]
    exact touch_hit h hi hp

theorem Victim (h : Rep w base L S) (G : Good S) (hb : 0 ≤ S.budget) :
    Calls Try.prog 10 #[.pointer (some ⟨L.kb, 0, none⟩)] w fun e w' => e = .returned (.tuple #[.int .i64 S.victim.1.1, .bool S.victim.1.2]) ∧ Rep w' base L S.victim.2 ∧ Kept (fun b => ¬ L.foot b) w w' := by
  unfold Ck.victim
  split
  · next ht => exact victim_no h ht
  · next ht => exact victim_yes h (by omega) G.ndn (G.pos hb ht) G.len

theorem Resident (h : Rep w base L S) :
    Calls Try.prog 11 #[.pointer (some ⟨L.kb, 0, none⟩)] w fun e w' => e = .returned (.int .i64 S.tot) ∧ Rep w' base L S.load ∧ Kept (fun b => ¬ L.foot b) w w' := resident_any h

theorem good_new (n : Int) (g : Gho) : Good ⟨n, 0, [], 0, g⟩ := ⟨fun p hp => (nomatch hp), List.nodup_nil, .inr ⟨rfl, rfl⟩, rfl⟩
end
end Ytghcojaggplkkaa
end Go.Proofs
