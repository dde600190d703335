/- Walks: Sets (package part); what Circuits does with one set. -/
import Derived.Test.YtfipebkhomppmaaLwF
import Derived.Test.YtfipebkhomppmaaLwG
namespace Go.Proofs.Ytfipebkhomppmaa
open Go.RowKit
set_option linter.unusedVariables false

theorem sets_c (w : World) (n k : Int) :
    Calls Try.prog 60 #[.int .i64 n, .int .i64 k] w fun e w' => e = .returned (.func (.func 115) #[] #[.pointer (some ⟨w.heap.size + 1, 0, none⟩), .pointer (some ⟨w.heap.size, 0, none⟩)]) ∧
      w' = (w.alloc (.cells #[.int .i64 n] 3)).alloc (.cells #[.int .i64 k] 3) := by
  have hmf : ∀ (fn : Fn) (first cap : Array Value) (w : World), (Instr.makeFunc fn first cap).run Try.prog w = .ok (.func fn first cap) w := fun _ _ _ _ => rfl
  go_enter Try.func60, Try.ntmps60
  go_wp2
  go_ret
  exact ⟨by simp, rfl⟩
end Go.Proofs.Ytfipebkhomppmaa
