/- Bytes that came in, as a list of numbers; CopiesCounts for every world. -/
import Derived.Test.YtfcccldofaleoaaGreatDoorEx
import Derived.Test.YtfcccldofaleoaaGreatDoorUd
namespace Go.Proofs.YtfcccldofaleoaaGreatDoor
open Go.RowKit

theorem byts_of_rdU {w : World} {B : Nat} {a : Option Addr} {n c : Nat} (h : RdU w B a n c) : ∃ A, Byts w (· < B) a n c A := by
  obtain ⟨h1, h2, h3⟩ := h
  by_cases hp : 0 < n
  · obtain ⟨b, o, rfl, hb, hc⟩ := h3 hp
    have hx : ∃ f : Nat → Nat, ∀ i, i < n → f i < 256 ∧ w.cell? ⟨b, o + i, none⟩ = some (.int .u8 ((f i : Nat) : Int)) :=
      ⟨fun i => if hi : i < n then (hc i hi).choose else 0, fun i hi => by
        simp only [dif_pos hi]
        exact (hc i hi).choose_spec⟩
    obtain ⟨f, hf⟩ := hx
    have e : ∀ i, i < n → ((List.range n).map f).getD i 0 = f i := fun i hi => by simp [List.getD, hi]
    refine ⟨(List.range n).map f, by simp, h1, h2, fun i => ?_, fun _ => ⟨b, o, rfl, hb, fun i hi => by rw [e i hi]; exact (hf i hi).2⟩⟩
    by_cases hi : i < n
    · rw [e i hi]; exact (hf i hi).1
    · simp [List.getD, hi]
  · obtain rfl : n = 0 := by omega
    exact ⟨[], rfl, h1, h2, fun i => by simp, fun h => absurd h (by omega)⟩

theorem copies_counts (a b : Option Addr) (n c m d : Nat) (w : World) (hA : RdU w w.heap.size a n c) (hB : RdU w w.heap.size b m d) (hT : Tabs w) :
    Calls Tryz.prog 5 #[.slice a n c, .slice b m d] w (Ret w (.bool true)) := by
  obtain ⟨A, hA⟩ := byts_of_rdU hA
  obtain ⟨B, hB⟩ := byts_of_rdU hB
  exact law36_counts a b n c m d A B w hA hB hT

end Go.Proofs.YtfcccldofaleoaaGreatDoor
