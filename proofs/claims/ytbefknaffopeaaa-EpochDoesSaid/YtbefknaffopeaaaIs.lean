/-
  (*Epochs).is, Waiting.
-/
import Derived.Test.YtbefknaffopeaaaRep
set_option maxHeartbeats 400000
namespace Go.Proofs
open Go.RowKit
theorem Try.cells55 : Try.prog.cellsOf 55 = 4 := by kernel_rfl
namespace Ytbefknaffopeaaa
section
variable {w : World} {base : Nat} {L : Lay} {S : St}
theorem is_lo (h : Rep w base L S) (c : Int) (x : Bool) (hc : c < 0) :
    Calls Try.prog 27 #[.pointer (some ⟨L.eb, 0, none⟩), .int .i64 c, .bool x] w fun e w' => e = .returned (.bool false) ∧ w = w' := by
  have hd : decide (0 ≤ c) = false := by simp; omega
  go_enter Try.func27, Try.ntmps27
  go_wp2
  go_ret
  exact ⟨rfl, rfl⟩
theorem is_hi (h : Rep w base L S) (c : Int) (x : Bool) (hc : L.ints.length ≤ c) :
    Calls Try.prog 27 #[.pointer (some ⟨L.eb, 0, none⟩), .int .i64 c, .bool x] w fun e w' => e = .returned (.bool false) ∧ w = w' := by
  have c2 : w.cell? ⟨L.eb, 2, none⟩ = some (.slice (some ⟨L.inb, 0, none⟩) L.ints.length L.ints.length) := by rw [Blk.cell h.eblk]; rfl
  have h0 : (0 : Int) ≤ c := by omega
  have hd : decide (c < (L.ints.length : Int)) = false := by simp; omega
  go_enter Try.func27, Try.ntmps27
  go_wp2
  go_ret
  exact ⟨rfl, rfl⟩
theorem is_at (h : Rep w base L S) (c : Nat) (x b : Bool) (hb : S.ins[c]? = some b) :
    Calls Try.prog 27 #[.pointer (some ⟨L.eb, 0, none⟩), .int .i64 c, .bool x] w fun e w' => e = .returned (.bool (b == x)) ∧ w = w' := by
  have c2 : w.cell? ⟨L.eb, 2, none⟩ = some (.slice (some ⟨L.inb, 0, none⟩) L.ints.length L.ints.length) := by rw [Blk.cell h.eblk]; rfl
  have c3 : w.cell? ⟨L.inb, c, none⟩ = some (.bool b) := by rw [Blk.cell h.inblk]; simp [hb]
  have hlt : c < L.ints.length := by
    rw [← h.li]
    exact (List.getElem?_eq_some_iff.1 hb).1
  have hlt' : (c : Int) < (L.ints.length : Int) := by omega
  clear hb
  go_enter Try.func27, Try.ntmps27
  go_wp2
  go_ret
  exact ⟨rfl, rfl⟩
theorem waiting_any (h : Rep w base L S) :
    Calls Try.prog 14 #[.pointer (some ⟨L.eb, 0, none⟩)] w fun e w' => e = .returned (.int .i64 S.waits.length) ∧ w = w' := by
  have c3 : w.cell? ⟨L.eb, 3, none⟩ = some L.wv := by rw [Blk.cell h.eblk]; rfl
  rcases h.wv.2 with ⟨hv, hn⟩ | ⟨g, cap, cur, hv, _⟩
  · rw [hv] at c3
    have H := Lib.hid hn
    clear hv hn
    go_enter Try.func14, Try.ntmps14
    go_wp2
    go_ret
    rw [H.out]
    exact ⟨rfl, rfl⟩
  · rw [hv] at c3
    clear hv
    go_enter Try.func14, Try.ntmps14
    go_wp2
    go_ret
    exact ⟨rfl, rfl⟩
end
end Ytbefknaffopeaaa
end Go.Proofs
