/- A slice of bytes, converted to a text. -/
import Derived.Test.YtdncdlcfgljheaaDoorFo
import Derived.Test.YtdncdlcfgljheaaDoorGi
namespace Go.Proofs.YtdncdlcfgljheaaDoor
open Go.RowKit

theorem bytes_text {w : World} {B : Nat} {sa : Option Addr} {sn sc : Nat} (h : RdU w B sa sn sc) :
    ∃ z : ByteArray, z.size = sn ∧ (convert 22 9 (.slice sa sn sc)).run Tryd.prog w = .ok (.string z) w := by
  by_cases h0 : 0 < sn
  · obtain ⟨b, o, rfl, -, hc⟩ := h.2.2 h0
    have hch : ∃ f : Nat → Nat, ∀ i, i < sn → f i < 256 ∧ w.cell? ⟨b, o + i, none⟩ = some (.int .u8 ((f i : Nat) : Int)) := by
      refine ⟨fun i => if hi : i < sn then Classical.choose (hc i hi) else 0, fun i hi => ?_⟩
      simp only [hi, dif_pos]
      exact Classical.choose_spec (hc i hi)
    obtain ⟨f, hf⟩ := hch
    have hl : ((List.range sn).map fun i => UInt8.ofNat (f i)).length = sn := by simp
    have := run_convert_bytes_back (P := Tryd.prog) w 22 9 5 ⟨b, o, none⟩ sc ((List.range sn).map fun i => UInt8.ofNat (f i)) Tryd.underlying22 Tryd.underlying5 Tryd.underlying9 (fun j hj => by
      rw [hl] at hj
      obtain ⟨h1, h2⟩ := hf j hj
      rw [Addr.add_lit, h2]
      simp
      omega)
    rw [hl] at this
    exact ⟨_, by show (List.toArray _).size = sn; simp, this⟩
  · obtain rfl : sn = 0 := by omega
    refine ⟨⟨#[]⟩, rfl, ?_⟩
    cases sa with
    | none =>
      rw [run_convert_bytes_string w 22 9 5 none 0 sc Tryd.underlying22 Tryd.underlying5 Tryd.underlying9]
      rfl
    | some a => exact run_convert_bytes_back (P := Tryd.prog) w 22 9 5 a sc [] Tryd.underlying22 Tryd.underlying5 Tryd.underlying9 (fun j hj => by cases hj)

end Go.Proofs.YtdncdlcfgljheaaDoor
