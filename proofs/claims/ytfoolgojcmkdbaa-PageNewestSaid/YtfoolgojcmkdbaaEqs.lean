/-
  Items and kids: the model's equality of structs is equality.
-/
import Derived.Test.YtfoolgojcmkdbaaKeys
set_option maxHeartbeats 400000
namespace Go.Proofs.Ytfoolgojcmkdbaa
instance : DecidableEq Item := fun a b => decidable_of_iff (a.key = b.key ∧ a.val = b.val ∧ a.no = b.no ∧ a.gone = b.gone) (by cases a; cases b; simp)
instance : DecidableEq Kid := fun a b => decidable_of_iff (a.key = b.key ∧ a.page = b.page) (by cases a; cases b; simp)
instance : DecidableEq Page := fun a b => decidable_of_iff (a.level = b.level ∧ a.low = b.low ∧ a.high = b.high ∧ a.last = b.last ∧ a.side = b.side ∧ a.items = b.items ∧ a.kids = b.kids) (by cases a; cases b; simp)
theorem run_eqItem (x y : Item) (w : World) : (Op.equalIn 10000 30 (.agg (ics x).toArray) (.agg (ics y).toArray)).run Try.prog w = .ok (decide (x = y)) w := by
  have u3 := Try.underlying3
  have u4 := Try.underlying4
  have u9 := Try.underlying9
  have a3 := Try.isAgg3
  have z3 := Try.sizeOf3
  have a4 := Try.isAgg4
  have z4 := Try.sizeOf4
  have a9 := Try.isAgg9
  have z9 := Try.sizeOf9
  have hS : Try.prog.underlying 30 = some (.struct (Try.prog.fieldsOf 30)) := by kernel_rfl
  have hp : Try.prog.stoodInHeld 30 = false := by kernel_rfl
  obtain ⟨k, v, n, g⟩ := x
  obtain ⟨k', v', n', g'⟩ := y
  unfold ics
  rw [show (10000 : Nat) = 9999 + 1 from rfl, run_equalIn_agg w 9999 30 _ _ hS hp]
  simp only [Program.fieldsOf, Try.underlying30]
  go_simp
  have e1 := beq_toList k k'
  have e2 := beq_toList v v'
  by_cases h1 : k = k' <;> by_cases h2 : v = v' <;> by_cases h3 : n = n' <;> by_cases h4 : g = g' <;> simp_all
theorem run_eqKid (x y : Kid) (w : World) : (Op.equalIn 10000 41 (.agg (kcs x).toArray) (.agg (kcs y).toArray)).run Try.prog w = .ok (decide (x = y)) w := by
  have u3 := Try.underlying3
  have u9 := Try.underlying9
  have a3 := Try.isAgg3
  have z3 := Try.sizeOf3
  have a9 := Try.isAgg9
  have z9 := Try.sizeOf9
  have hS : Try.prog.underlying 41 = some (.struct (Try.prog.fieldsOf 41)) := by kernel_rfl
  have hp : Try.prog.stoodInHeld 41 = false := by kernel_rfl
  obtain ⟨k, n⟩ := x
  obtain ⟨k', n'⟩ := y
  unfold kcs
  rw [show (10000 : Nat) = 9999 + 1 from rfl, run_equalIn_agg w 9999 41 _ _ hS hp]
  simp only [Program.fieldsOf, Try.underlying41]
  go_simp
  have e1 := beq_toList k k'
  by_cases h1 : k = k' <;> by_cases h3 : n = n' <;> simp_all
theorem run_neqItem (k v : ByteArray) (n : Int) (g : Bool) (k' v' : ByteArray) (n' : Int) (g' : Bool) (w : World) :
    (binOp .neq 30 (.agg #[.string k, .string v, .int .i64 n, .bool g]) (.agg #[.string k', .string v', .int .i64 n', .bool g'])).run Try.prog w = .ok (.bool (!decide ((⟨k, v, n, g⟩ : Item) = ⟨k', v', n', g'⟩))) w := by
  rw [run_neq_struct]
  have := run_eqItem ⟨k, v, n, g⟩ ⟨k', v', n', g'⟩ w
  unfold ics at this
  rw [this]
  rfl
theorem run_eqlItem (k v : ByteArray) (n : Int) (g : Bool) (k' v' : ByteArray) (n' : Int) (g' : Bool) (w : World) :
    (binOp .eql 30 (.agg #[.string k, .string v, .int .i64 n, .bool g]) (.agg #[.string k', .string v', .int .i64 n', .bool g'])).run Try.prog w = .ok (.bool (decide ((⟨k, v, n, g⟩ : Item) = ⟨k', v', n', g'⟩))) w := by
  rw [run_eql_struct]
  have := run_eqItem ⟨k, v, n, g⟩ ⟨k', v', n', g'⟩ w
  unfold ics at this
  rw [this]
  rfl
theorem run_neqKid (k : ByteArray) (n : Int) (k' : ByteArray) (n' : Int) (w : World) :
    (binOp .neq 41 (.agg #[.string k, .int .i64 n]) (.agg #[.string k', .int .i64 n'])).run Try.prog w = .ok (.bool (!decide ((⟨k, n⟩ : Kid) = ⟨k', n'⟩))) w := by
  rw [run_neq_struct]
  have := run_eqKid ⟨k, n⟩ ⟨k', n'⟩ w
  unfold kcs at this
  rw [this]
  rfl
end Go.Proofs.Ytfoolgojcmkdbaa
