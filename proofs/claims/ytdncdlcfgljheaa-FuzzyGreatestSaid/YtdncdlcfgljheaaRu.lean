/- What is needed of the rule of equality and of the share of tokens. -/
import Derived.Test.YtdncdlcfgljheaaVq
import Derived.Test.YtdncdlcfgljheaaGn
namespace Go.Proofs.Ytdncdlcfgljheaa
open Go.RowKit

def simQ (s t : ByteArray) : Bool := s.toList == t.toList
theorem ruledQ : Ruled 1 0 0 0 true 0 simQ where
  valid W := dist_validQ W
  len W c hc := (dist_LengthsQ c W hc).mono (by
    rintro e w' ⟨rfl, hb⟩
    exact ⟨c, c, rfl, fun _ x => ⟨by omega, by omega⟩, hb⟩)
  sim W s t _ _ := dist_SimilarQ s t W
theorem ruledT (N D : Int) (h1 : 1 ≤ N) (h2 : N ≤ D) (h3 : D ≤ 1000) : Ruled 3 0 N D false 0 (simT N D) where
  valid W := dist_validT N D W h1 h2 h3
  len W c hc := (dist_LengthsT N D c W h1 h2 h3).mono (by
    rintro e w' ⟨rfl, hb⟩
    exact ⟨0, 0, rfl, fun h => (by cases h), hb⟩)
  sim W s t hs ht := dist_SimilarT s t N D W hs ht h1 h2 h3

end Go.Proofs.Ytdncdlcfgljheaa
