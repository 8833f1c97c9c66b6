/- Indices: plain, and in memory. -/
import Derived.Test.YtabemneoobbnaaaGreatDoorNf
import Derived.Test.YtabemneoobbnaaaGreatDoorCm
import Derived.Test.YtabemneoobbnaaaGreatDoorPt
namespace Go.Proofs.YtabemneoobbnaaaGreatDoor
open Go.RowKit

/-- a column by its reference and its values -/
abbrev Cv := (Int × Nat) × List ByteArray
def Cv.z : Cv := ((0, 0), [])
structure Ix where
  ents : List ((Int × Nat) × Nat)
  vals : List ByteArray
  lists : List (List Nat)
/-- the columns that have a value -/
def listOfV (cs : List Cv) (v : ByteArray) : List Nat := (List.range cs.length).filter fun i => hasL (cs.getD i Cv.z).2 v
def entsOf (cs : List Cv) : List ((Int × Nat) × Nat) := cs.map fun c => (c.1, c.2.length)
def allOf (cs : List Cv) : List ByteArray := cs.flatMap fun c => c.2
def indexOf (cs : List Cv) : Ix := ⟨entsOf cs, setOfL (allOf cs), (setOfL (allOf cs)).map (listOfV cs)⟩

theorem ents_take {cs : List Cv} {k : Nat} (h : k < cs.length) : entsOf (cs.take (k + 1)) = entsOf (cs.take k) ++ [((cs.getD k Cv.z).1, (cs.getD k Cv.z).2.length)] := by
  unfold entsOf
  rw [List.take_succ_eq_append_getElem h, List.map_append]
  simp [List.getD, h]
theorem all_take {cs : List Cv} {k : Nat} (h : k < cs.length) : allOf (cs.take (k + 1)) = allOf (cs.take k) ++ (cs.getD k Cv.z).2 := by
  unfold allOf
  rw [List.take_succ_eq_append_getElem h, List.flatMap_append]
  simp [List.getD, h]
theorem ents_len (cs : List Cv) : (entsOf cs).length = cs.length := by simp [entsOf]
theorem all_len {cs : List Cv} {m : Nat} (h : ∀ c ∈ cs, c.2.length ≤ m) : (allOf cs).length ≤ cs.length * m := by
  unfold allOf
  induction cs with
  | nil => simp
  | cons c cs ih =>
    rw [List.flatMap_cons, List.length_append, List.length_cons, Nat.succ_mul]
    have h1 := h c (by simp)
    have h2 := ih fun x hx => h x (by simp [hx])
    omega
/-- the first columns that have a value -/
def listK (cs : List Cv) (v : ByteArray) (k : Nat) : List Nat := (List.range k).filter fun i => hasL (cs.getD i Cv.z).2 v
theorem listK_succ (cs : List Cv) (v : ByteArray) (k : Nat) : listK cs v (k + 1) = if hasL (cs.getD k Cv.z).2 v = true then listK cs v k ++ [k] else listK cs v k := by
  unfold listK
  rw [List.range_succ, List.filter_append, List.filter_cons, List.filter_nil]
  split <;> simp
theorem listK_len (cs : List Cv) (v : ByteArray) (k : Nat) : (listK cs v k).length ≤ k := by
  have := List.length_filter_le (fun i => hasL (cs.getD i Cv.z).2 v) (List.range k)
  simpa [listK] using this
theorem map_take {α β : Type} {f : α → β} {l : List α} {k : Nat} (d : α) (h : k < l.length) : (l.take (k + 1)).map f = (l.take k).map f ++ [f (l.getD k d)] := by
  rw [List.take_succ_eq_append_getElem h, List.map_append]
  simp [List.getD, h]

/-! ### In memory -/
abbrev natsV (xs : List Nat) : List Value := xs.map fun x : Nat => Value.int .i64 (x : Int)
def InS (w : World) (S : Nat → Prop) (v : Value) (xs : List ByteArray) : Prop := InK 1 w S v xs.length (fun i _ => strF xs i)
def InN (w : World) (S : Nat → Prop) (v : Value) (xs : List Nat) : Prop := InK 1 w S v xs.length (fun i _ => natF xs i)
def cvF (cs : List Cv) (vv : Nat → Value) (i : Nat) : Nat → Value := three (.int .i64 (cs.getD i Cv.z).1.1) (.int .i64 ((cs.getD i Cv.z).1.2 : Int)) (vv i)
def RdCv (w : World) (S : Nat → Prop) (v : Value) (cs : List Cv) : Prop := ∃ vv, InK 3 w S v cs.length (cvF cs vv) ∧ ∀ i, i < cs.length → InS w S (vv i) (cs.getD i Cv.z).2
def entF (es : List ((Int × Nat) × Nat)) (i : Nat) : Nat → Value := three (.int .i64 (es.getD i ((0, 0), 0)).1.1) (.int .i64 ((es.getD i ((0, 0), 0)).1.2 : Int)) (.int .i64 ((es.getD i ((0, 0), 0)).2 : Int))
structure RdIx (w : World) (S : Nat → Prop) (e v l : Value) (x : Ix) : Prop where
  ents : InK 3 w S e x.ents.length (entF x.ents)
  vals : InS w S v x.vals
  lists : ∃ lv : Nat → Value, InK 1 w S l x.lists.length (fun i _ => lv i) ∧ ∀ i, i < x.lists.length → InN w S (lv i) (x.lists.getD i [])
section
variable {w w' : World} {S S' : Nat → Prop} {v : Value}
theorem RdCv.keep {cs : List Cv} (h : RdCv w S v cs) (hk : ∀ p : Addr, S p.block → w'.cell? p = w.cell? p) : RdCv w' S v cs := by
  obtain ⟨cv, h1, h2⟩ := h
  exact ⟨cv, h1.keep hk, fun i hi => InK.keep (h2 i hi) hk⟩
theorem RdCv.more {cs : List Cv} (h : RdCv w S v cs) (hS : ∀ b, S b → S' b) : RdCv w S' v cs := by
  obtain ⟨cv, h1, h2⟩ := h
  exact ⟨cv, h1.more hS, fun i hi => InK.more (h2 i hi) hS⟩
theorem RdIx.keep {e l : Value} {x : Ix} (h : RdIx w S e v l x) (hk : ∀ p : Addr, S p.block → w'.cell? p = w.cell? p) : RdIx w' S e v l x := by
  obtain ⟨h1, h2, lv, h3, h4⟩ := h
  exact ⟨h1.keep hk, InK.keep h2 hk, lv, h3.keep hk, fun i hi => InK.keep (h4 i hi) hk⟩
theorem RdIx.more {e l : Value} {x : Ix} (h : RdIx w S e v l x) (hS : ∀ b, S b → S' b) : RdIx w S' e v l x := by
  obtain ⟨h1, h2, lv, h3, h4⟩ := h
  exact ⟨h1.more hS, InK.more h2 hS, lv, h3.more hS, fun i hi => InK.more (h4 i hi) hS⟩
theorem InS.rds {B : Nat} {xs : List ByteArray} (h : InS w S v xs) (hS : ∀ b, S b → b < B) : RdS w B v xs := InK.rd h hS
end
theorem keeps_s (v : Value) (xs : List ByteArray) : Keeps (fun w S => InS w S v xs) := fun _ _ _ _ h hk hS => (InK.keep h hk).more hS
theorem keeps_n (v : Value) (xs : List Nat) : Keeps (fun w S => InN w S v xs) := fun _ _ _ _ h hk hS => (InK.keep h hk).more hS

theorem ent_push (es : List ((Int × Nat) × Nat)) (x : (Int × Nat) × Nat) : flatK 3 es.length (entF es) ++ [.int .i64 x.1.1, .int .i64 (x.1.2 : Int), .int .i64 (x.2 : Int)] = flatK 3 (es ++ [x]).length (entF (es ++ [x])) := by
  rw [List.length_append, List.length_singleton]
  refine flat_push (fun i hi j hj => ?_) ?_
  · simp [entF, List.getD, List.getElem?_append_left hi]
  · simp [entF, List.getD, List.range_succ, three]

/-- rows of different types lie in different blocks -/
theorem own_apart {w : World} {base base' : Nat} {e e' : TypeId} {size size' n n' : Nat} {v v' : Value} {xs xs' : List Value} (h : w.ownsRow base e size v n xs) (h' : w.ownsRow base' e' size' v' n' xs') (he : e ≠ e') :
    v.ownBlock = none ∨ v.ownBlock ≠ v'.ownBlock := by
  rcases h.2 with ⟨e1, _⟩ | ⟨g1, cap1, cur1, e1, _, hc1, _⟩
  · left; rw [e1]; rfl
  · right
    rcases h'.2 with ⟨e2, _⟩ | ⟨g2, cap2, cur2, e2, _, hc2, _⟩
    · rw [e1, e2]; simp [Value.ownBlock]
    · rw [e1, e2]
      intro h3
      have h4 : g1 = g2 := by simpa [Value.ownBlock] using h3
      rw [h4, hc2] at hc1
      simp at hc1
      exact he hc1.2.symm
/-- texts that the call owns, read -/
theorem inS_of_own {w : World} {base : Nat} {v : Value} {xs : List ByteArray} {e : TypeId} (h : w.ownsRow base e 1 v xs.length (xs.map Value.string)) : InS w (fun b => v.ownBlock = some b) v xs := by
  refine inK_of_owns (e := e) (base := base) ?_
  have e1 : flatK 1 xs.length (fun i _ => strF xs i) = xs.map Value.string := by
    apply List.ext_getElem?
    intro i
    by_cases hi : i < xs.length
    · have := flatK_at (f := fun i _ => strF xs i) hi (show 0 < 1 by omega)
      simp only [Nat.mul_one, Nat.add_zero] at this
      rw [this]
      simp [strF, List.getD, hi]
    · rw [List.getElem?_eq_none (by rw [flatK_len]; omega), List.getElem?_eq_none (by simp; omega)]
  rw [e1]
  exact h
theorem inN_of_own {w : World} {base : Nat} {v : Value} {xs : List Nat} {e : TypeId} (h : w.ownsRow base e 1 v xs.length (xs.map fun x : Nat => Value.int .i64 (x : Int))) : InN w (fun b => v.ownBlock = some b) v xs := by
  refine inK_of_owns (e := e) (base := base) ?_
  have e1 : flatK 1 xs.length (fun i _ => natF xs i) = xs.map fun x : Nat => Value.int .i64 (x : Int) := by
    apply List.ext_getElem?
    intro i
    by_cases hi : i < xs.length
    · have := flatK_at (f := fun i _ => natF xs i) hi (show 0 < 1 by omega)
      simp only [Nat.mul_one, Nat.add_zero] at this
      rw [this]
      simp [natF, List.getD, hi]
    · rw [List.getElem?_eq_none (by rw [flatK_len]; omega), List.getElem?_eq_none (by simp; omega)]
  rw [e1]
  exact h

end Go.Proofs.YtabemneoobbnaaaGreatDoor
