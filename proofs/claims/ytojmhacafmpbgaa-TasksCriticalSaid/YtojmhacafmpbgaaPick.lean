/- Objects side by side: one is taken to the front. -/
import Derived.Test.YtojmhacafmpbgaaOff2
namespace Go.Proofs.Ytojmhacafmpbgaa.Mem
open Go Go.RowKit
theorem Star.pick {w0 w : World} {L : List Asr} {A : Asr} (h : Star w0 w L) (i : Nat) (hi : L[i]? = some A) : Star w0 w (A :: L.eraseIdx i) := by
  have := h.front i hi
  rwa [← List.eraseIdx_eq_take_drop_succ] at this
end Go.Proofs.Ytojmhacafmpbgaa.Mem
