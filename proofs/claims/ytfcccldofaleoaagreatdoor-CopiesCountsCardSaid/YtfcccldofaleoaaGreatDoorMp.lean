/- A map of numbers by texts, in words. -/
import Derived.RangeFuncBox
import Derived.RangeFuncLeaves
import Derived.Shelf.Abstract
import Derived.OwnWalkIn
import Derived.TacticsInMore
import Derived.LoopNIn
import Derived.LoopIn
import Derived.Maps.OwnIn
import Derived.Maps.OwnSet
import Derived.Maps.OwnRows
import Derived.Test.YtfcccldofaleoaaGreatDoorProg
import Derived.Test.YtfcccldofaleoaaGreatDoorBs
namespace Go.Proofs.YtfcccldofaleoaaGreatDoor
open Go.RowKit Go.Shelf

attribute [local go_sem] Oper.semAt_some

def keyU (s : ByteArray) : Lit := .string s.data.toList
theorem keyU_inj {s t : ByteArray} (h : keyU s = keyU t) : s = t := by
  obtain ⟨⟨s⟩⟩ := s
  obtain ⟨⟨t⟩⟩ := t
  simp [keyU] at h
  subst h
  rfl
theorem law_strU : Go.Maps.Keyed Tryz.prog 9 := Go.Maps.string_keyed Tryz.underlying9
structure NumOk (D : DataW Unit) (F : ByteArray → Option Nat) : Prop where
  map : Go.Maps.IsMap D
  has : ∀ s, Go.Maps.has D (keyU s) = (F s).isSome
  look : ∀ s, D.atKey (keyU s) (.lit (.int .i64 0)) = .lit (.int .i64 (((F s).getD 0 : Nat) : Int))
theorem NumOk.start : NumOk (.map []) (fun _ => none) := ⟨Go.Maps.isMap_empty, fun s => by simp [Go.Maps.has], fun s => rfl⟩
def setF1 (F : ByteArray → Option Nat) (s : ByteArray) (i : Nat) : ByteArray → Option Nat := fun t => if t = s then some i else F t
theorem NumOk.put {D : DataW Unit} {F : ByteArray → Option Nat} (h : NumOk D F) (s : ByteArray) (i : Nat) : NumOk (D.put (keyU s) (.lit (.int .i64 (i : Int)))) (setF1 F s i) := by
  have hk : Go.WideAt.IsKeyLit (keyU s) := by unfold keyU Go.WideAt.IsKeyLit; trivial
  refine ⟨h.map.put _ _, fun t => ?_, fun t => ?_⟩
  · unfold setF1
    by_cases e : t = s
    · subst e
      rw [if_pos rfl, Go.Maps.has_put_same h.map hk]; rfl
    · rw [if_neg e, Go.Maps.has_put_other (fun e2 => e (keyU_inj e2))]
      exact h.has t
  · unfold setF1
    by_cases e : t = s
    · subst e
      rw [if_pos rfl, Go.Maps.atKey_put_same h.map hk]; rfl
    · rw [if_neg e, Go.Maps.atKey_put_other (fun e2 => e (keyU_inj e2))]
      exact h.look t
def MapI (w : World) (b n : Nat) (F : ByteArray → Option Nat) : Prop :=
  ∃ D : DataW Unit, w.ownsMap Tryz.prog 9 (plainElem (H := Unit) Tryz.prog 3) b n D ∧ NumOk D F
section
variable {w w' : World} {b n : Nat} {F : ByteArray → Option Nat}
theorem MapI.later (h : MapI w b n F) (hk : w'.heap[b]? = w.heap[b]?) : MapI w' b n F := by
  obtain ⟨D, ⟨es, clock, hb, Ft, hs, hD⟩, ho⟩ := h
  exact ⟨D, ⟨es, clock, hk.trans hb, Ft, hs, hD⟩, ho⟩
theorem MapI.lt (h : MapI w b n F) : b < w.heap.size := by
  obtain ⟨D, hown, ho⟩ := h
  exact hown.lt
theorem MapI.drewN (h : MapI w b n F) (k : Nat) : MapI (w.drewN k) b n F := h.later rfl
theorem MapI.congr {F' : ByteArray → Option Nat} (h : MapI w b n F) (e : ∀ s, F s = F' s) : MapI w b n F' := by
  have : F = F' := funext e
  subst this
  exact h
theorem key_str {s : ByteArray} (hs : s.size ≤ maxLen) : keyOf Tryz.prog 9 (.string s) = some (keyU s) := Go.WideMaps.keyOf_string_mk Tryz.underlying9 hs
set_option maxRecDepth 100000 in
theorem MapI.look (h : MapI w b n F) {s : ByteArray} (hs : s.size ≤ maxLen) : (Instr.lookup 100 (.map (some b)) (.string s) false).run Tryz.prog w = .ok (.int .i64 (((F s).getD 0 : Nat) : Int)) w := by
  obtain ⟨D, hown, ho⟩ := h
  obtain ⟨c, hrun, hat, hwc⟩ := hown.lookup_int law_strU Tryz.underlying100 Tryz.underlying3 (Tryz.zeroValue3 _) (key_str hs)
  rw [ho.look s] at hat
  injection hat with hat
  injection hat with _ hat
  rw [hrun, ← hat]
set_option maxRecDepth 100000 in
theorem MapI.look_ok (h : MapI w b n F) {s : ByteArray} (hs : s.size ≤ maxLen) : (Instr.lookup 100 (.map (some b)) (.string s) true).run Tryz.prog w = .ok (.tuple #[.int .i64 (((F s).getD 0 : Nat) : Int), .bool (F s).isSome]) w := by
  obtain ⟨D, hown, ho⟩ := h
  obtain ⟨v, ps, hrun, hv⟩ := hown.look_ok law_strU Tryz.underlying100 (Tryz.zeroValue3 _) (plainElem_int Tryz.underlying3 (by decide)) (key_str hs)
  obtain ⟨c, rfl, hc, hwc⟩ := plainElem_int_inv Tryz.underlying3 hv
  simp only [Prod.mk.injEq] at hc
  have hat := hc.1
  rw [ho.look s] at hat
  injection hat with hat
  injection hat with _ hat
  rw [hrun, ho.has s, ← hat]
theorem MapI.made (w : World) : MapI (w.alloc (.map #[] 0)) w.heap.size 0 (fun _ => none) := ⟨_, World.ownsMap_made w Tryz.prog 9 _, NumOk.start⟩
end


end Go.Proofs.YtfcccldofaleoaaGreatDoor
