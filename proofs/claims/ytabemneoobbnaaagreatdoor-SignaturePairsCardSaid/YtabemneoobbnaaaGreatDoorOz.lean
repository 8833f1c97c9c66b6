/- Words for maps with texts as keys. slices.Sort at texts, laid. -/
import Derived.Maps.OwnRows
import Derived.Shelf.SlIter.Nil
import Derived.Shelf.SortM.Plain
import Derived.Shelf.SortM.SortNone
import Derived.Maps.GroupsBeside
import Derived.Test.YtabemneoobbnaaaGreatDoorSk
import Derived.Test.YtabemneoobbnaaaGreatDoorShP
namespace Go.Proofs.YtabemneoobbnaaaGreatDoor
open Go.RowKit Go.Shelf

def keyL (s : ByteArray) : Lit := .string s.data.toList
theorem keyL_inj {s t : ByteArray} (h : keyL s = keyL t) : s = t := by
  obtain ⟨⟨s⟩⟩ := s
  obtain ⟨⟨t⟩⟩ := t
  simp [keyL] at h
  subst h
  rfl
theorem sortsM (m : Nat) : Go.Proofs.AnyZ.SortsIn Tryz.prog Tryz.sortedM_ren Fence.wide m :=
  ⟨fun blk off cap ss W hH hblk hsz => callsIn_wide.2 (AnyM.slices_Sort_string Tryz.sortM blk off cap ss W hH hblk hsz),
   fun p cap W => callsIn_wide.2 (AnyM.slices_Sort_string_none Tryz.sortM p cap W)⟩

theorem law_str : Go.Maps.Keyed Tryz.prog 9 := Go.Maps.string_keyed Tryz.underlying9

end Go.Proofs.YtabemneoobbnaaaGreatDoor
