/- Contracts of sets of texts: the reference's IsSet, Has, Common, Union, Tokens. Plain: the code points of a text, as a range over it gives them; memory words for a loop that appends beside such a range. No program in sight. Indices: plain, and in memory. -/
import Derived.Test.YtikiimlmoalbcaaGreatDoorOOtab
import Derived.Lib.RuneCount
import Derived.Test.YtikiimlmoalbcaaGreatDoorOOtaa
import Derived.Test.YtikiimlmoalbcaaGreatDoorOOtaf
set_option linter.unusedVariables false
set_option linter.unusedSimpArgs false
namespace Go.Proofs.YtikiimlmoalbcaaGreatDoor
open Go.RowKit
def hasL (xs : List ByteArray) (s : ByteArray) : Bool := xs.any fun x => x.toList == s.toList
theorem hasL_iff (xs : List ByteArray) (s : ByteArray) : hasL xs s = true ↔ s ∈ xs := by
  unfold hasL
  rw [List.any_eq_true]
  constructor
  · rintro ⟨x, hx, h⟩
    have := bytes_ext (by simpa using h : x.toList = s.toList)
    subst this
    exact hx
  · intro h; exact ⟨s, h, by simp⟩
def commonL (xs ys : List ByteArray) : Nat := (xs.filter (hasL ys)).length
set_option maxHeartbeats 1000000 in
theorem ref_IsSet (v : Value) (xs : List ByteArray) (B : Nat) (w : World) (hv : RdS w B v xs) :
    Calls Tryz.prog 72 #[v] w (Quiet w (.bool (isSet xs))) := by
  obtain ⟨a, c, rfl, hc, hm, hx⟩ := hv
  have HI := hid (isSet_iff xs)
  have HF := hid (fun i => @isSet_false xs i)
  generalize isSet xs = F at *
  generalize hn : xs.length = n at *
  have HN := hid hn
  have HX := hid hx
  clear hn hx
  unfold maxLen at hm
  go_enter Tryz.func72, Tryz.ntmps72
  go_wp2
  go_loopw [3] (fun i w' => ∃ k : Nat, k ≤ n ∧ i = .int .i64 ((k : Int) + 1) ∧ Hid (∀ j, j < k → j + 1 < n → sl (xs.getD j ⟨#[]⟩) (xs.getD (j + 1) ⟨#[]⟩) = true) ∧ ∃ m, w' = w.drewN m) (fun i _ => n + 1 - (intOf i).toNat)
  case atStart => exact ⟨0, by omega, rfl, hid (fun j h => absurd h (by omega)), 0, rfl⟩
  case round =>
    obtain ⟨k, hk, rfl, hall, m, rfl⟩ := hrel
    by_cases hlt : k + 1 < n
    · obtain ⟨b, o, rfl, hb, hcell⟩ := HX.out (by omega)
      have h1 : w.cell? ⟨b, o + k, none⟩ = some (.string (xs.getD k ⟨#[]⟩)) := hcell k (by omega)
      have h2 : w.cell? ⟨b, o + (k + 1), none⟩ = some (.string (xs.getD (k + 1) ⟨#[]⟩)) := hcell (k + 1) (by omega)
      have HF1 := hid (fun h => HF.out (i := k) h)
      have HALL := hid (fun (h : sl (xs.getD k ⟨#[]⟩) (xs.getD (k + 1) ⟨#[]⟩) = true) (j : Nat) (hj : j < k + 1) (hj2 : j + 1 < n) => (show sl (xs.getD j ⟨#[]⟩) (xs.getD (j + 1) ⟨#[]⟩) = true from by
        rcases Nat.lt_or_ge j k with h3 | h3
        · exact hall.out j h3 hj2
        · obtain rfl : j = k := by omega
          exact h))
      clear hcell hall HF
      generalize hX : xs.getD k ⟨#[]⟩ = x at *
      generalize hY : xs.getD (k + 1) ⟨#[]⟩ = y at *
      clear hX hY
      cases hs : Op.bytesLess x.toList y.toList
      · have HS := hid hs
        go_wp2
        go_quiet (fail)
        go_wp2
        go_ret
        exact ⟨ret_bool (HF1.out (by omega) HS.out).symm, _, World.drewN_drewN _ _ _⟩
      · have HS := hid hs
        go_wp2
        go_quiet (fail)
        go_wp2
        go_roundw
        case rel => exact ⟨k + 1, by omega, by go_num, hid (HALL.out HS.out), _, rfl⟩
        case measure => simp [intOf]; omega
    · have hfin : F = true := HI.out.2 (fun i hi => hall.out i (by omega) (by omega))
      subst hfin
      go_wp2
      go_ret
      exact ⟨rfl, _, rfl⟩
theorem mem_getD (xs : List ByteArray) (s : ByteArray) : s ∈ xs ↔ ∃ i, i < xs.length ∧ xs.getD i ⟨#[]⟩ = s := by
  rw [List.mem_iff_getElem]
  constructor
  · rintro ⟨i, h, e⟩; exact ⟨i, h, by simpa [List.getD, h] using e⟩
  · rintro ⟨i, h, e⟩; exact ⟨i, h, by simpa [List.getD, h] using e⟩
set_option maxHeartbeats 1000000 in
theorem ref_Has (v : Value) (xs : List ByteArray) (s : ByteArray) (B : Nat) (w : World) (hv : RdS w B v xs) :
    Calls Tryz.prog 26 #[v, .string s] w (Quiet w (.bool (hasL xs s))) := by
  obtain ⟨a, c, rfl, hc, hm, hx⟩ := hv
  have HM := hid (mem_getD xs s)
  generalize hD : hasL xs s = F
  have HD : Hid (s ∈ xs ↔ F = true) := hid (by rw [← hD, hasL_iff])
  clear hD
  generalize hn : xs.length = n at *
  have HX := hid hx
  clear hn hx
  unfold maxLen at hm
  go_enter Tryz.func26, Tryz.ntmps26
  go_wp2
  go_loopw [9] (fun i w' => ∃ k : Nat, k ≤ n ∧ i = .int .i64 (k : Int) ∧ Hid (∀ j, j < k → xs.getD j ⟨#[]⟩ ≠ s) ∧ w' = w) (fun i _ => n - (intOf i).toNat)
  case atStart => exact ⟨0, by omega, rfl, hid (fun j h => absurd h (by omega)), rfl⟩
  case round =>
    obtain ⟨k, hk, rfl, hall, rfl⟩ := hrel
    by_cases hlt : k < n
    · obtain ⟨b, o, rfl, hb, hcell⟩ := HX.out (by omega)
      have h1 : wr.cell? ⟨b, o + k, none⟩ = some (.string (xs.getD k ⟨#[]⟩)) := hcell k (by omega)
      have HALL := hid (fun (h : xs.getD k ⟨#[]⟩ ≠ s) (j : Nat) (hj : j < k + 1) => (show xs.getD j ⟨#[]⟩ ≠ s from by
        rcases Nat.lt_or_ge j k with h3 | h3
        · exact hall.out j h3
        · obtain rfl : j = k := by omega
          exact h))
      have HYES := hid (fun (h : xs.getD k ⟨#[]⟩ = s) => HD.out.1 (HM.out.2 ⟨k, hlt, h⟩))
      have HW : Hid (wrap64 ((k : Int) + 1) = (k : Int) + 1) := hid (by unfold wrap64; omega)
      clear hcell hall
      generalize xs.getD k ⟨#[]⟩ = x at *
      by_cases he : x = s
      · subst he
        have HY := hid (HYES.out rfl)
        go_wp2
        go_ret
        exact ⟨ret_bool HY.out.symm, 0, rfl⟩
      · have hne : (x.toList == s.toList) = false := by
          cases h : (x.toList == s.toList)
          · rfl
          · exact absurd (bytes_ext (by simpa using h)) he
        go_wp2
        go_roundw
        case rel => exact ⟨k + 1, by omega, by go_num, hid (HALL.out he), by first | rfl | trivial⟩
        case measure =>
          simp [intOf, HW.out]
          omega
    · have hfin : F = false := by
        cases hF : F
        · rfl
        · obtain ⟨i, hi, e⟩ := HM.out.1 (HD.out.2 hF)
          exact absurd e (hall.out i (by omega))
      subst hfin
      go_wp2
      go_ret
      exact ⟨rfl, 0, rfl⟩
end Go.Proofs.YtikiimlmoalbcaaGreatDoor

namespace Go.Proofs.YtikiimlmoalbcaaGreatDoor
open Go.RowKit
def ptsFrom (s : ByteArray) : Nat → Nat → List Nat
  | 0, _ => []
  | fuel + 1, pos => if pos < s.size then (Utf8.decode s pos).1 :: ptsFrom s fuel (pos + (Utf8.decode s pos).2) else []
def pts (s : ByteArray) : List Nat := ptsFrom s s.size 0
def Gives (w : World) (n : Nat) (f : Nat → Value) (e : Ending) (w' : World) : Prop :=
  ∃ a c, e = .returned (.slice a n c) ∧ Rd w' w'.heap.size (.slice a n c) n f ∧ Below w.heap.size w w'
end Go.Proofs.YtikiimlmoalbcaaGreatDoor

namespace Go.Proofs.YtikiimlmoalbcaaGreatDoor
open Go.RowKit
abbrev Cv := (Int × Nat) × List ByteArray
def Cv.z : Cv := ((0, 0), [])
structure Ix where
  ents : List ((Int × Nat) × Nat)
  vals : List ByteArray
  lists : List (List Nat)
def listOfV (cs : List Cv) (v : ByteArray) : List Nat := (List.range cs.length).filter fun i => hasL (cs.getD i Cv.z).2 v
def entsOf (cs : List Cv) : List ((Int × Nat) × Nat) := cs.map fun c => (c.1, c.2.length)
def allOf (cs : List Cv) : List ByteArray := cs.flatMap fun c => c.2
def indexOf (cs : List Cv) : Ix := ⟨entsOf cs, setOfL (allOf cs), (setOfL (allOf cs)).map (listOfV cs)⟩
theorem ents_take {cs : List Cv} {k : Nat} (h : k < cs.length) : entsOf (cs.take (k + 1)) = entsOf (cs.take k) ++ [((cs.getD k Cv.z).1, (cs.getD k Cv.z).2.length)] := by
  unfold entsOf
  rw [List.take_succ_eq_append_getElem h, List.map_append]
  simp [List.getD, h]
theorem all_take {cs : List Cv} {k : Nat} (h : k < cs.length) : allOf (cs.take (k + 1)) = allOf (cs.take k) ++ (cs.getD k Cv.z).2 := by
  unfold allOf
  rw [List.take_succ_eq_append_getElem h, List.flatMap_append]
  simp [List.getD, h]
theorem ents_len (cs : List Cv) : (entsOf cs).length = cs.length := by simp [entsOf]
theorem all_len {cs : List Cv} {m : Nat} (h : ∀ c ∈ cs, c.2.length ≤ m) : (allOf cs).length ≤ cs.length * m := by
  unfold allOf
  induction cs with
  | nil => simp
  | cons c cs ih =>
    rw [List.flatMap_cons, List.length_append, List.length_cons, Nat.succ_mul]
    have h1 := h c (by simp)
    have h2 := ih fun x hx => h x (by simp [hx])
    omega
def listK (cs : List Cv) (v : ByteArray) (k : Nat) : List Nat := (List.range k).filter fun i => hasL (cs.getD i Cv.z).2 v
theorem listK_succ (cs : List Cv) (v : ByteArray) (k : Nat) : listK cs v (k + 1) = if hasL (cs.getD k Cv.z).2 v = true then listK cs v k ++ [k] else listK cs v k := by
  unfold listK
  rw [List.range_succ, List.filter_append, List.filter_cons, List.filter_nil]
  split <;> simp
theorem listK_len (cs : List Cv) (v : ByteArray) (k : Nat) : (listK cs v k).length ≤ k := by
  have := List.length_filter_le (fun i => hasL (cs.getD i Cv.z).2 v) (List.range k)
  simpa [listK] using this
theorem map_take {α β : Type} {f : α → β} {l : List α} {k : Nat} (d : α) (h : k < l.length) : (l.take (k + 1)).map f = (l.take k).map f ++ [f (l.getD k d)] := by
  rw [List.take_succ_eq_append_getElem h, List.map_append]
  simp [List.getD, h]
abbrev natsV (xs : List Nat) : List Value := xs.map fun x : Nat => Value.int .i64 (x : Int)
def InS (w : World) (S : Nat → Prop) (v : Value) (xs : List ByteArray) : Prop := InK 1 w S v xs.length (fun i _ => strF xs i)
def InN (w : World) (S : Nat → Prop) (v : Value) (xs : List Nat) : Prop := InK 1 w S v xs.length (fun i _ => natF xs i)
def cvF (cs : List Cv) (vv : Nat → Value) (i : Nat) : Nat → Value := three (.int .i64 (cs.getD i Cv.z).1.1) (.int .i64 ((cs.getD i Cv.z).1.2 : Int)) (vv i)
def RdCv (w : World) (S : Nat → Prop) (v : Value) (cs : List Cv) : Prop := ∃ vv, InK 3 w S v cs.length (cvF cs vv) ∧ ∀ i, i < cs.length → InS w S (vv i) (cs.getD i Cv.z).2
def entF (es : List ((Int × Nat) × Nat)) (i : Nat) : Nat → Value := three (.int .i64 (es.getD i ((0, 0), 0)).1.1) (.int .i64 ((es.getD i ((0, 0), 0)).1.2 : Int)) (.int .i64 ((es.getD i ((0, 0), 0)).2 : Int))
structure RdIx (w : World) (S : Nat → Prop) (e v l : Value) (x : Ix) : Prop where
  ents : InK 3 w S e x.ents.length (entF x.ents)
  vals : InS w S v x.vals
  lists : ∃ lv : Nat → Value, InK 1 w S l x.lists.length (fun i _ => lv i) ∧ ∀ i, i < x.lists.length → InN w S (lv i) (x.lists.getD i [])
section
variable {w w' : World} {S S' : Nat → Prop} {v : Value}
theorem RdCv.keep {cs : List Cv} (h : RdCv w S v cs) (hk : ∀ p : Addr, S p.block → w'.cell? p = w.cell? p) : RdCv w' S v cs := by
  obtain ⟨cv, h1, h2⟩ := h
  exact ⟨cv, h1.keep hk, fun i hi => InK.keep (h2 i hi) hk⟩
theorem RdCv.more {cs : List Cv} (h : RdCv w S v cs) (hS : ∀ b, S b → S' b) : RdCv w S' v cs := by
  obtain ⟨cv, h1, h2⟩ := h
  exact ⟨cv, h1.more hS, fun i hi => InK.more (h2 i hi) hS⟩
theorem RdIx.keep {e l : Value} {x : Ix} (h : RdIx w S e v l x) (hk : ∀ p : Addr, S p.block → w'.cell? p = w.cell? p) : RdIx w' S e v l x := by
  obtain ⟨h1, h2, lv, h3, h4⟩ := h
  exact ⟨h1.keep hk, InK.keep h2 hk, lv, h3.keep hk, fun i hi => InK.keep (h4 i hi) hk⟩
theorem RdIx.more {e l : Value} {x : Ix} (h : RdIx w S e v l x) (hS : ∀ b, S b → S' b) : RdIx w S' e v l x := by
  obtain ⟨h1, h2, lv, h3, h4⟩ := h
  exact ⟨h1.more hS, InK.more h2 hS, lv, h3.more hS, fun i hi => InK.more (h4 i hi) hS⟩
theorem InS.rds {B : Nat} {xs : List ByteArray} (h : InS w S v xs) (hS : ∀ b, S b → b < B) : RdS w B v xs := InK.rd h hS
end
theorem keeps_s (v : Value) (xs : List ByteArray) : Keeps (fun w S => InS w S v xs) := fun _ _ _ _ h hk hS => (InK.keep h hk).more hS
theorem keeps_n (v : Value) (xs : List Nat) : Keeps (fun w S => InN w S v xs) := fun _ _ _ _ h hk hS => (InK.keep h hk).more hS
theorem ent_push (es : List ((Int × Nat) × Nat)) (x : (Int × Nat) × Nat) : flatK 3 es.length (entF es) ++ [.int .i64 x.1.1, .int .i64 (x.1.2 : Int), .int .i64 (x.2 : Int)] = flatK 3 (es ++ [x]).length (entF (es ++ [x])) := by
  rw [List.length_append, List.length_singleton]
  refine flat_push (fun i hi j hj => ?_) ?_
  · simp [entF, List.getD, List.getElem?_append_left hi]
  · simp [entF, List.getD, List.range_succ, three]
theorem own_apart {w : World} {base base' : Nat} {e e' : TypeId} {size size' n n' : Nat} {v v' : Value} {xs xs' : List Value} (h : w.ownsRow base e size v n xs) (h' : w.ownsRow base' e' size' v' n' xs') (he : e ≠ e') :
    v.ownBlock = none ∨ v.ownBlock ≠ v'.ownBlock := by
  rcases h.2 with ⟨e1, _⟩ | ⟨g1, cap1, cur1, e1, _, hc1, _⟩
  · left; rw [e1]; rfl
  · right
    rcases h'.2 with ⟨e2, _⟩ | ⟨g2, cap2, cur2, e2, _, hc2, _⟩
    · rw [e1, e2]; simp [Value.ownBlock]
    · rw [e1, e2]
      intro h3
      have h4 : g1 = g2 := by simpa [Value.ownBlock] using h3
      rw [h4, hc2] at hc1
      simp at hc1
      exact he hc1.2.symm
theorem inS_of_own {w : World} {base : Nat} {v : Value} {xs : List ByteArray} {e : TypeId} (h : w.ownsRow base e 1 v xs.length (xs.map Value.string)) : InS w (fun b => v.ownBlock = some b) v xs := by
  refine inK_of_owns (e := e) (base := base) ?_
  have e1 : flatK 1 xs.length (fun i _ => strF xs i) = xs.map Value.string := by
    apply List.ext_getElem?
    intro i
    by_cases hi : i < xs.length
    · have := flatK_at (f := fun i _ => strF xs i) hi (show 0 < 1 by omega)
      simp only [Nat.mul_one, Nat.add_zero] at this
      rw [this]
      simp [strF, List.getD, hi]
    · rw [List.getElem?_eq_none (by rw [flatK_len]; omega), List.getElem?_eq_none (by simp; omega)]
  rw [e1]
  exact h
theorem inN_of_own {w : World} {base : Nat} {v : Value} {xs : List Nat} {e : TypeId} (h : w.ownsRow base e 1 v xs.length (xs.map fun x : Nat => Value.int .i64 (x : Int))) : InN w (fun b => v.ownBlock = some b) v xs := by
  refine inK_of_owns (e := e) (base := base) ?_
  have e1 : flatK 1 xs.length (fun i _ => natF xs i) = xs.map fun x : Nat => Value.int .i64 (x : Int) := by
    apply List.ext_getElem?
    intro i
    by_cases hi : i < xs.length
    · have := flatK_at (f := fun i _ => natF xs i) hi (show 0 < 1 by omega)
      simp only [Nat.mul_one, Nat.add_zero] at this
      rw [this]
      simp [natF, List.getD, hi]
    · rw [List.getElem?_eq_none (by rw [flatK_len]; omega), List.getElem?_eq_none (by simp; omega)]
  rw [e1]
  exact h
end Go.Proofs.YtikiimlmoalbcaaGreatDoor
