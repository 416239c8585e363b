/- The law LangTokens, with alive. -/
import Derived.Test.YtcaaadhhaanbcaaDoorAv
namespace Go.Proofs.YtcaaadhhaanbcaaDoor
open Go.RowKit
theorem f11_any (s : ByteArray) (hs : s.size ≤ maxLen) (w : World) (ht : Tab w.heap.size w) :
    Calls Tryd.prog 11 #[.string s] w fun e w' => e = .returned (.bool true) ∧ Below w.heap.size w w' := f11_of f12_any s hs w ht
end Go.Proofs.YtcaaadhhaanbcaaDoor
