/- Go's own tables where the call begins; how a list of texts is opened. -/
import Derived.Test.YtfcccldofaleoaaGreatDoorVa
import Derived.Test.YtfcccldofaleoaaGreatDoorTs
import Derived.Test.YtfcccldofaleoaaGreatDoorUd
import Derived.Test.YtfcccldofaleoaaGreatDoorTie
import Derived.Test.YtfcccldofaleoaaGreatDoorCards
import Derived.Carry
import Derived.SizedLaws
import Derived.ProofKit
import Derived.OpenShut
import Derived.ChangeSlices
import Derived.SliceStrings
import Derived.LaidLaws
import Derived.LaidMore
import Derived.Lib.LaidU8T
import Derived.PinnedBridge
import Derived.SevenTiedAt
namespace Go.Proofs.YtfcccldofaleoaaGreatDoor
open Go.ChangeShapes Go.WideShapes Go.ChangeAt Go.RowKit Go.Lib
set_option linter.unusedVariables false

theorem kOwn : ownKnob Tryz.prog.godebug = none := by kernel_rfl
theorem kLaid : laidOutB Tryz.prog = true := by kernel_rfl
theorem kCells : Tryz.prog.cellsOf 5 = 1 := by kernel_rfl
theorem kCellsS : Tryz.prog.cellsOf 9 = 1 := by kernel_rfl

/-- the heap of the door's own run, with the pinned table in it -/
noncomputable def laidWorld (os : Os) : World :=
  let w0 := World.doorLaid Tryz.prog 400 os
  { w0 with heap := w0.heap.modify 0 fun
      | .cells _ t frozen => .cells (Lib.firstTab.map fun z => Value.int .u8 z).toArray t frozen
      | o => o }

theorem tabs_of {l : List (String × DataW Unit)} {W : World} (h : laidMet Tryz.prog l W) (h1 : ("unicode/utf8.first", Rows.laid_unicode_utf8_first) ∈ l) (h2 : ("unicode/utf8.acceptRanges", Rows.laid_unicode_utf8_acceptRanges) ∈ l) : Tabs W := by
  have e1 : (Rows.laid_unicode_utf8_first : DataW Unit) = Lib.firstData := Go.Pinned.utf8First_eq
  have e2 : (Rows.laid_unicode_utf8_acceptRanges : DataW Unit) = Lib.acceptData := by kernel_rfl
  have r1 := Lib.laidMet.reads h h1
  have r2 := Lib.laidMet.reads h h2
  rw [e1] at r1
  rw [e2] at r2
  exact utf8Tabs_of_readsT (U8Types.of196 Tryz.layValid) ⟨by kernel_rfl, by kernel_rfl, by kernel_rfl, by kernel_rfl, by kernel_rfl, by kernel_rfl, by kernel_rfl⟩ r1 r2

theorem rdU_of {W : World} {a : Addr} {len cap : Nat} {zs : List Int} (hl : len ≤ cap) (hm : cap ≤ maxLen) (hz : zs.length = cap) (hcell : ∀ i, i < zs.length → W.cell? (a.add i) = some (.int .u8 (zs.getD i 0))) (hw : ∀ n ∈ zs, (Lit.int .u8 n).wf = true) :
    RdU W W.heap.size (some a) len cap := by
  refine ⟨hl, hm, fun hp => ?_⟩
  obtain ⟨b, o, spot⟩ := a
  have hspot : spot = none := by simpa [Addr.add] using World.cell?_spot (hcell 0 (by omega))
  subst hspot
  have hlt : b < W.heap.size := by
    have h := hcell 0 (by omega)
    exact World.block_lt_of_cell? W (Addr.add ⟨b, o, none⟩ 0) h
  refine ⟨b, o, rfl, hlt, fun i hi => ?_⟩
  have hi' : i < zs.length := by omega
  have hb := bounds_u8 (hw (zs.getD i 0) (by simp [List.getD, hi']))
  refine ⟨(zs.getD i 0).toNat, by omega, ?_⟩
  rw [show (((zs.getD i 0).toNat : Nat) : Int) = zs.getD i 0 from by omega, ← Addr.add_lit]
  exact hcell i hi'
theorem rdS_open {W : World} {a : Addr} {len cap : Nat} {ss : List ByteArray} (hl : len ≤ cap) (hm : cap ≤ maxLen) (hs : ss.length = cap) (hcell : ∀ i, i < ss.length → W.cell? (a.add i) = some (.string (ss.getD i ByteArray.empty))) :
    RdS W W.heap.size (.slice (some a) len cap) (ss.take len) := by
  have hlen : (ss.take len).length = len := by rw [List.length_take]; omega
  refine ⟨some a, cap, by rw [hlen], by rw [hlen]; exact hl, hm, fun hp => ?_⟩
  rw [hlen] at hp
  obtain ⟨b, o, spot⟩ := a
  have hspot : spot = none := by simpa [Addr.add] using World.cell?_spot (hcell 0 (by omega))
  subst hspot
  refine ⟨b, o, rfl, World.block_lt_of_cell? W (Addr.add ⟨b, o, none⟩ 0) (hcell 0 (by omega)), fun i hi => ?_⟩
  rw [hlen] at hi
  rw [← Addr.add_lit, hcell i (by omega)]
  have hi' : i < ss.length := by omega
  simp [strF, List.getD, hi']
  rw [List.getElem?_take, if_pos hi]
  simp [hi']

end Go.Proofs.YtfcccldofaleoaaGreatDoor
