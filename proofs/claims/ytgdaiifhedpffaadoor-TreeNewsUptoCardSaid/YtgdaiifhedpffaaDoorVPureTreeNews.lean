/- The pure statement of TreeNews: new trees, and paths. -/
import Derived.Test.YtgdaiifhedpffaaDoorVPureTreeD
set_option linter.unusedVariables false
set_option linter.unusedSimpArgs false
namespace Go.Proofs.YtgdaiifhedpffaaDoor.V
open Go
theorem Pure.TreeNews (x0 : ByteArray) (x1 : Int) (x2 : Int) (w0 : x0.size ≤ maxLen) (s0 : x0.size ≤ 1048576) (w1 : (Lit.int .i64 x1).wf = true) (w2 : (Lit.int .i64 x2).wf = true) : f3 x0 x1 x2 = some ((true, ()), ()) := by
  obtain ⟨n1, n2⟩ := newM_bytes x1 x2
  unfold f3 f3_k
  rw [new4, ref5, begun6]
  simp only [some_bind, cond_true]
  rw [path7 x0 s0, ref8 x0 s0, same19 _ _ (by omega) n1 n1]
  simp
end Go.Proofs.YtgdaiifhedpffaaDoor.V
