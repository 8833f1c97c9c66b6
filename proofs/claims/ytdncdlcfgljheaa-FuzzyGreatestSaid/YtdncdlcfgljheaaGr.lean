/- The contracts at the rule of an edit distance; the first pairing of small lists. -/
import Derived.Test.YtdncdlcfgljheaaTr
import Derived.Test.YtdncdlcfgljheaaGp
import Derived.Test.YtdncdlcfgljheaaGv
namespace Go.Proofs.Ytdncdlcfgljheaa
open Go.RowKit

/-- similar by an edit distance -/
def simE (L : Nat) (s t : ByteArray) : Bool := Lv.within (pts s) (pts t) L

theorem ruledE (L : Int) (h0 : 0 ≤ L) (h8 : L ≤ 8) : Ruled 2 L 0 0 true L.toNat (simE L.toNat) where
  valid W := dist_validE L W h0 h8
  len W c hc := (dist_LengthsE L c W h0 h8 hc).mono fun e w' ⟨lo, he, hlo, _, _, hb⟩ => ⟨lo, (c : Int) + L, he, fun _ x => ⟨by rw [hlo]; omega, by omega⟩, hb⟩
  sim W s t hs ht := dist_SimilarE s t L W (by omega) (by omega) h0 h8

/-- two rows and two columns, all near -/
theorem greedy22 {S : Nat → Nat → Bool} (hS : Mt.nearE S 2 0 = [0, 1] ∧ Mt.nearE S 2 1 = [0, 1]) {ps : List (Nat × Nat)} (h : Mt.Greedy S 2 2 0 (fun _ => false) 2 ps) : ps = [(0, 0), (1, 1)] := by
  obtain ⟨h0, h1⟩ := hS
  have b1 : Mt.Best (Mt.fixed S 2 (Mt.mark (fun _ => false) 0 true)) 1 2 2 1 := by
    refine ⟨⟨[(1, 1)], ⟨by simp, by simp, fun p hp => ?_⟩, rfl⟩, fun M hM => Mt.rows_le hM⟩
    rw [List.mem_singleton] at hp
    subst hp
    exact ⟨by simp, by simp, by simp, by show 1 ∈ Mt.nearE S 2 1; rw [h1]; simp, by simp [Mt.fixed, Mt.mark]⟩
  have b2 : Mt.Best (Mt.fixed S 2 (Mt.mark (Mt.mark (fun _ => false) 0 true) 1 true)) 2 2 2 0 :=
    ⟨⟨[], ⟨by simp, by simp, fun p hp => by simp at hp⟩, rfl⟩, fun M hM => Mt.rows_le hM⟩
  have key : ∀ ps, Mt.Greedy S 2 2 1 (Mt.mark (fun _ => false) 0 true) 1 ps → ps = [(1, 1)] := by
    intro ps h
    cases h with
    | @take _ q o _ ps hq hF hb hno h =>
      rw [h1] at hq hF
      have hq2 : q < 2 := hq
      obtain rfl | rfl : q = 0 ∨ q = 1 := by omega
      · simp [Mt.mark] at hF
      · rw [h1] at h ⊢
        cases h
        rfl
    | leave hno h => exact absurd b2 (hno 1 (by rw [h1]; simp) (by simp [Mt.mark]))
  cases h with
  | @take _ q o _ ps hq hF hb hno h =>
    rw [h0] at hq hF hno
    have hq2 : q < 2 := hq
    obtain rfl | rfl : q = 0 ∨ q = 1 := by omega
    · rw [h0] at h ⊢
      rw [key _ h]
      rfl
    · exact absurd b1 (hno 0 (by simp) rfl)
  | leave hno h => exact absurd b1 (hno 0 (by rw [h0]; simp) rfl)

end Go.Proofs.Ytdncdlcfgljheaa
