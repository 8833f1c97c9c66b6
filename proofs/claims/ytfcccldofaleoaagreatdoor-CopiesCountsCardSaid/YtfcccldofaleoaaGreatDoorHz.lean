/- Digits that a slot holds, wherever they lie. No program in sight. -/
import Derived.Test.YtfcccldofaleoaaGreatDoorBase
namespace Go.Proofs.YtfcccldofaleoaaGreatDoor.Fr
open Go.RowKit

/-- 'v' holds the digits of 'n'; they lie in new memory or in that of 'us'. -/
def HoldsZ (us : List Value) (B : Nat) (w : World) (v : Value) (n : Nat) : Prop :=
  ∃ a c, v = .slice a (dig n).length c ∧ Rd32 w (.slice a (dig n).length c) (dig n) ∧ (∀ R, R < B → (∀ u ∈ us, Off R u) → Off R (.slice a (dig n).length c))
theorem HoldsZ.kept {us : List Value} {B n : Nat} {w w' : World} {v : Value} (h : HoldsZ us B w v n) (hb : Below w.heap.size w w') : HoldsZ us B w' v n := by
  obtain ⟨a, c, e, h1, h2⟩ := h
  exact ⟨a, c, e, h1.kept hb, h2⟩
theorem HoldsZ.rd {us : List Value} {B n : Nat} {w : World} {v : Value} (h : HoldsZ us B w v n) : Rd32 w v (dig n) := by
  obtain ⟨a, c, rfl, h1, h2⟩ := h
  exact h1
theorem HoldsZ.head {us : List Value} {B n : Nat} {w : World} {v : Value} (h : HoldsZ us B w v n) (hn : 0 < n) :
    ∃ b o L c, v = .slice (some ⟨b, o, none⟩) L c ∧ 0 < L ∧ w.cell? ⟨b, o, none⟩ = some (.int .u32 ((n % 4294967296 : Nat) : Int)) := by
  obtain ⟨a, c, rfl, h1, h2⟩ := h
  obtain ⟨a', c', e, h3, h4, h5, h6⟩ := h1
  obtain ⟨rfl, _, rfl⟩ := Value.slice.inj e
  obtain ⟨b, o, rfl, h7, h8⟩ := h6 (dig_length_pos.2 hn)
  refine ⟨b, o, _, _, rfl, dig_length_pos.2 hn, ?_⟩
  have := h8 0 (dig_length_pos.2 hn)
  rw [dig_getD_zero] at this
  exact this
theorem HoldsZ.len {us : List Value} {B n : Nat} {w : World} {v : Value} (h : HoldsZ us B w v n) : ∃ p L c, v = .slice p L c ∧ (0 < L ↔ 0 < n) := by
  obtain ⟨a, c, rfl, h1, h2⟩ := h
  exact ⟨_, _, _, rfl, dig_length_pos⟩
/-- what a callee made out of new memory -/
theorem HoldsZ.of_gives {us : List Value} {B n : Nat} {w w1 : World} {a : Option Addr} {c : Nat} (hB : B ≤ w.heap.size) (h : Rd32 w1 (.slice a (dig n).length c) (dig n)) (ho : ∀ R, R < w.heap.size → Off R (.slice a (dig n).length c)) :
    HoldsZ us B w1 (.slice a (dig n).length c) n := ⟨a, c, rfl, h, fun R hR _ => ho R (by omega)⟩

/-- It hands back the digits of 'n', in new memory or in that of 'us'. -/
def GivesS (us : List Value) (w : World) (n : Nat) (e : Ending) (w' : World) : Prop := ∃ v, e = .returned v ∧ HoldsZ us w.heap.size w' v n ∧ Below w.heap.size w w'


theorem Rd32.holds {w : World} {v : Value} {n : Nat} (us : List Value) (B : Nat) (h : Rd32 w v (dig n)) (hu : v ∈ us) : HoldsZ us B w v n := by
  have h' := h
  obtain ⟨a, c, rfl, _⟩ := h
  exact ⟨a, c, rfl, h', fun R _ h => h _ hu⟩

end Go.Proofs.YtfcccldofaleoaaGreatDoor.Fr
