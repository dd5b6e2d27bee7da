/- Rows: how they lie in memory; which may be. -/
import Derived.Test.YtbkgijnmckchbaaBy
namespace Go.Proofs.Ytbkgijnmckchbaa
open Go
set_option linter.unusedSimpArgs false
set_option linter.unusedVariables false
structure Rw where
  port : Int
  mac : Int
  owner : Int
  target : Int
  old : Int
  gen : Int
  phase : Int
  ver : Int
  since : Int
deriving DecidableEq
def Rw.enc (r : Rw) : List Value := [.int .i64 r.port, .int .u64 r.mac, .int .i64 r.owner, .int .i64 r.target, .int .i64 r.old, .int .i64 r.gen, .int .i64 r.phase, .int .i64 r.ver, .int .i64 r.since]
def rowC : Cdc Rw 9 := ⟨Rw.enc, fun _ => rfl, fun e u hu => by simp only [Rw.enc, List.mem_cons, List.not_mem_nil, or_false] at hu; rcases hu with rfl | rfl | rfl | rfl | rfl | rfl | rfl | rfl | rfl <;> rfl, by decide⟩
def Rw.v (r : Rw) : Value := .agg #[.int .i64 r.port, .int .u64 r.mac, .int .i64 r.owner, .int .i64 r.target, .int .i64 r.old, .int .i64 r.gen, .int .i64 r.phase, .int .i64 r.ver, .int .i64 r.since]
theorem rowC_v (r : Rw) : Value.agg (rowC.enc r).toArray = r.v := rfl
/-- may a row be? -/
def Rw.Ok (r : Rw) : Prop :=
  ((r.phase = 0 ∧ (0 ≤ r.owner ∧ r.owner ≤ 15) ∧ r.target = -1 ∧ r.old = -1) ∨ (r.phase = 1 ∧ (0 ≤ r.owner ∧ r.owner ≤ 15) ∧ (0 ≤ r.target ∧ r.target ≤ 15) ∧ r.owner ≠ r.target ∧ r.old = -1) ∨
    (r.phase = 2 ∧ (0 ≤ r.owner ∧ r.owner ≤ 15) ∧ (0 ≤ r.old ∧ r.old ≤ 15) ∧ r.owner ≠ r.old ∧ r.target = -1) ∨ (r.phase = 3 ∧ r.owner = -1 ∧ r.target = -1 ∧ r.old = -1)) ∧
  (0 ≤ r.port ∧ r.port ≤ 31) ∧ r.mac ≤ 281474976710655 ∧ (1 ≤ r.gen ∧ r.gen ≤ 4294967296) ∧ (1 ≤ r.ver ∧ r.ver ≤ 1099511627776) ∧ (0 ≤ r.since ∧ r.since ≤ 1099511627776)
instance (r : Rw) : Decidable r.Ok := by unfold Rw.Ok; infer_instance
def Rw.zero : Rw := ⟨0, 0, 0, 0, 0, 0, 0, 0, 0⟩
/-- the chassis that a row names -/
def Rw.names (r : Rw) : List Int := [r.owner, r.target, r.old].filter fun c => c != -1
end Go.Proofs.Ytbkgijnmckchbaa
