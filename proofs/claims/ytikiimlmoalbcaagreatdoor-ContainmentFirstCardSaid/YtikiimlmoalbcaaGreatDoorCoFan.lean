/- Contracts of sets of texts: the reference's IsSet, Has, Common, Union, Tokens. Plain: the code points of a text, as a range over it gives them; memory words for a loop that appends beside such a range. No program in sight. Indices: plain, and in memory. Contracts of swapping and turning numbers in place (slices.swapRangeCmpFunc, rotateCmpFunc): the same numbers in some order. Contracts of slices.insertionSortCmpFunc and rotateCmpFunc at numbers: the same numbers in some order. -/
import Derived.Test.YtikiimlmoalbcaaGreatDoorCoFai
import Derived.Lib.RuneCount
import Derived.Test.YtikiimlmoalbcaaGreatDoorCoFah
import Derived.Test.YtikiimlmoalbcaaGreatDoorCoFam
import Derived.Deep.Cut
import Derived.Deep.CutRange
import Derived.Deep.RegionHeld3
import Derived.BigRegion
set_option linter.unusedVariables false
set_option linter.unusedSimpArgs false
namespace Go.Proofs.YtikiimlmoalbcaaGreatDoor
open Go.RowKit
def hasL (xs : List ByteArray) (s : ByteArray) : Bool := xs.any fun x => x.toList == s.toList
theorem hasL_iff (xs : List ByteArray) (s : ByteArray) : hasL xs s = true ↔ s ∈ xs := by
  unfold hasL
  rw [List.any_eq_true]
  constructor
  · rintro ⟨x, hx, h⟩
    have := bytes_ext (by simpa using h : x.toList = s.toList)
    subst this
    exact hx
  · intro h; exact ⟨s, h, by simp⟩
def commonL (xs ys : List ByteArray) : Nat := (xs.filter (hasL ys)).length
theorem mem_getD (xs : List ByteArray) (s : ByteArray) : s ∈ xs ↔ ∃ i, i < xs.length ∧ xs.getD i ⟨#[]⟩ = s := by
  rw [List.mem_iff_getElem]
  constructor
  · rintro ⟨i, h, e⟩; exact ⟨i, h, by simpa [List.getD, h] using e⟩
  · rintro ⟨i, h, e⟩; exact ⟨i, h, by simpa [List.getD, h] using e⟩
set_option maxHeartbeats 1000000 in
theorem ref_Has (v : Value) (xs : List ByteArray) (s : ByteArray) (B : Nat) (w : World) (hv : RdS w B v xs) :
    Calls Tryz.prog 26 #[v, .string s] w (Quiet w (.bool (hasL xs s))) := by
  obtain ⟨a, c, rfl, hc, hm, hx⟩ := hv
  have HM := hid (mem_getD xs s)
  generalize hD : hasL xs s = F
  have HD : Hid (s ∈ xs ↔ F = true) := hid (by rw [← hD, hasL_iff])
  clear hD
  generalize hn : xs.length = n at *
  have HX := hid hx
  clear hn hx
  unfold maxLen at hm
  go_enter Tryz.func26, Tryz.ntmps26
  go_wp2
  go_loopw [9] (fun i w' => ∃ k : Nat, k ≤ n ∧ i = .int .i64 (k : Int) ∧ Hid (∀ j, j < k → xs.getD j ⟨#[]⟩ ≠ s) ∧ w' = w) (fun i _ => n - (intOf i).toNat)
  case atStart => exact ⟨0, by omega, rfl, hid (fun j h => absurd h (by omega)), rfl⟩
  case round =>
    obtain ⟨k, hk, rfl, hall, rfl⟩ := hrel
    by_cases hlt : k < n
    · obtain ⟨b, o, rfl, hb, hcell⟩ := HX.out (by omega)
      have h1 : wr.cell? ⟨b, o + k, none⟩ = some (.string (xs.getD k ⟨#[]⟩)) := hcell k (by omega)
      have HALL := hid (fun (h : xs.getD k ⟨#[]⟩ ≠ s) (j : Nat) (hj : j < k + 1) => (show xs.getD j ⟨#[]⟩ ≠ s from by
        rcases Nat.lt_or_ge j k with h3 | h3
        · exact hall.out j h3
        · obtain rfl : j = k := by omega
          exact h))
      have HYES := hid (fun (h : xs.getD k ⟨#[]⟩ = s) => HD.out.1 (HM.out.2 ⟨k, hlt, h⟩))
      have HW : Hid (wrap64 ((k : Int) + 1) = (k : Int) + 1) := hid (by unfold wrap64; omega)
      clear hcell hall
      generalize xs.getD k ⟨#[]⟩ = x at *
      by_cases he : x = s
      · subst he
        have HY := hid (HYES.out rfl)
        go_wp2
        go_ret
        exact ⟨ret_bool HY.out.symm, 0, rfl⟩
      · have hne : (x.toList == s.toList) = false := by
          cases h : (x.toList == s.toList)
          · rfl
          · exact absurd (bytes_ext (by simpa using h)) he
        go_wp2
        go_roundw
        case rel => exact ⟨k + 1, by omega, by go_num, hid (HALL.out he), by first | rfl | trivial⟩
        case measure =>
          simp [intOf, HW.out]
          omega
    · have hfin : F = false := by
        cases hF : F
        · rfl
        · obtain ⟨i, hi, e⟩ := HM.out.1 (HD.out.2 hF)
          exact absurd e (hall.out i (by omega))
      subst hfin
      go_wp2
      go_ret
      exact ⟨rfl, 0, rfl⟩
end Go.Proofs.YtikiimlmoalbcaaGreatDoor

namespace Go.Proofs.YtikiimlmoalbcaaGreatDoor
open Go.RowKit
def ptsFrom (s : ByteArray) : Nat → Nat → List Nat
  | 0, _ => []
  | fuel + 1, pos => if pos < s.size then (Utf8.decode s pos).1 :: ptsFrom s fuel (pos + (Utf8.decode s pos).2) else []
def pts (s : ByteArray) : List Nat := ptsFrom s s.size 0
def Gives (w : World) (n : Nat) (f : Nat → Value) (e : Ending) (w' : World) : Prop :=
  ∃ a c, e = .returned (.slice a n c) ∧ Rd w' w'.heap.size (.slice a n c) n f ∧ Below w.heap.size w w'
end Go.Proofs.YtikiimlmoalbcaaGreatDoor

namespace Go.Proofs.YtikiimlmoalbcaaGreatDoor
open Go.RowKit
abbrev Cv := (Int × Nat) × List ByteArray
def Cv.z : Cv := ((0, 0), [])
structure Ix where
  ents : List ((Int × Nat) × Nat)
  vals : List ByteArray
  lists : List (List Nat)
def listOfV (cs : List Cv) (v : ByteArray) : List Nat := (List.range cs.length).filter fun i => hasL (cs.getD i Cv.z).2 v
def entsOf (cs : List Cv) : List ((Int × Nat) × Nat) := cs.map fun c => (c.1, c.2.length)
def allOf (cs : List Cv) : List ByteArray := cs.flatMap fun c => c.2
def indexOf (cs : List Cv) : Ix := ⟨entsOf cs, setOfL (allOf cs), (setOfL (allOf cs)).map (listOfV cs)⟩
theorem ents_take {cs : List Cv} {k : Nat} (h : k < cs.length) : entsOf (cs.take (k + 1)) = entsOf (cs.take k) ++ [((cs.getD k Cv.z).1, (cs.getD k Cv.z).2.length)] := by
  unfold entsOf
  rw [List.take_succ_eq_append_getElem h, List.map_append]
  simp [List.getD, h]
theorem all_take {cs : List Cv} {k : Nat} (h : k < cs.length) : allOf (cs.take (k + 1)) = allOf (cs.take k) ++ (cs.getD k Cv.z).2 := by
  unfold allOf
  rw [List.take_succ_eq_append_getElem h, List.flatMap_append]
  simp [List.getD, h]
theorem ents_len (cs : List Cv) : (entsOf cs).length = cs.length := by simp [entsOf]
theorem all_len {cs : List Cv} {m : Nat} (h : ∀ c ∈ cs, c.2.length ≤ m) : (allOf cs).length ≤ cs.length * m := by
  unfold allOf
  induction cs with
  | nil => simp
  | cons c cs ih =>
    rw [List.flatMap_cons, List.length_append, List.length_cons, Nat.succ_mul]
    have h1 := h c (by simp)
    have h2 := ih fun x hx => h x (by simp [hx])
    omega
def listK (cs : List Cv) (v : ByteArray) (k : Nat) : List Nat := (List.range k).filter fun i => hasL (cs.getD i Cv.z).2 v
theorem listK_succ (cs : List Cv) (v : ByteArray) (k : Nat) : listK cs v (k + 1) = if hasL (cs.getD k Cv.z).2 v = true then listK cs v k ++ [k] else listK cs v k := by
  unfold listK
  rw [List.range_succ, List.filter_append, List.filter_cons, List.filter_nil]
  split <;> simp
theorem listK_len (cs : List Cv) (v : ByteArray) (k : Nat) : (listK cs v k).length ≤ k := by
  have := List.length_filter_le (fun i => hasL (cs.getD i Cv.z).2 v) (List.range k)
  simpa [listK] using this
theorem map_take {α β : Type} {f : α → β} {l : List α} {k : Nat} (d : α) (h : k < l.length) : (l.take (k + 1)).map f = (l.take k).map f ++ [f (l.getD k d)] := by
  rw [List.take_succ_eq_append_getElem h, List.map_append]
  simp [List.getD, h]
abbrev natsV (xs : List Nat) : List Value := xs.map fun x : Nat => Value.int .i64 (x : Int)
def InS (w : World) (S : Nat → Prop) (v : Value) (xs : List ByteArray) : Prop := InK 1 w S v xs.length (fun i _ => strF xs i)
def InN (w : World) (S : Nat → Prop) (v : Value) (xs : List Nat) : Prop := InK 1 w S v xs.length (fun i _ => natF xs i)
def cvF (cs : List Cv) (vv : Nat → Value) (i : Nat) : Nat → Value := three (.int .i64 (cs.getD i Cv.z).1.1) (.int .i64 ((cs.getD i Cv.z).1.2 : Int)) (vv i)
def RdCv (w : World) (S : Nat → Prop) (v : Value) (cs : List Cv) : Prop := ∃ vv, InK 3 w S v cs.length (cvF cs vv) ∧ ∀ i, i < cs.length → InS w S (vv i) (cs.getD i Cv.z).2
def entF (es : List ((Int × Nat) × Nat)) (i : Nat) : Nat → Value := three (.int .i64 (es.getD i ((0, 0), 0)).1.1) (.int .i64 ((es.getD i ((0, 0), 0)).1.2 : Int)) (.int .i64 ((es.getD i ((0, 0), 0)).2 : Int))
structure RdIx (w : World) (S : Nat → Prop) (e v l : Value) (x : Ix) : Prop where
  ents : InK 3 w S e x.ents.length (entF x.ents)
  vals : InS w S v x.vals
  lists : ∃ lv : Nat → Value, InK 1 w S l x.lists.length (fun i _ => lv i) ∧ ∀ i, i < x.lists.length → InN w S (lv i) (x.lists.getD i [])
section
variable {w w' : World} {S S' : Nat → Prop} {v : Value}
theorem RdCv.keep {cs : List Cv} (h : RdCv w S v cs) (hk : ∀ p : Addr, S p.block → w'.cell? p = w.cell? p) : RdCv w' S v cs := by
  obtain ⟨cv, h1, h2⟩ := h
  exact ⟨cv, h1.keep hk, fun i hi => InK.keep (h2 i hi) hk⟩
theorem RdCv.more {cs : List Cv} (h : RdCv w S v cs) (hS : ∀ b, S b → S' b) : RdCv w S' v cs := by
  obtain ⟨cv, h1, h2⟩ := h
  exact ⟨cv, h1.more hS, fun i hi => InK.more (h2 i hi) hS⟩
theorem RdIx.keep {e l : Value} {x : Ix} (h : RdIx w S e v l x) (hk : ∀ p : Addr, S p.block → w'.cell? p = w.cell? p) : RdIx w' S e v l x := by
  obtain ⟨h1, h2, lv, h3, h4⟩ := h
  exact ⟨h1.keep hk, InK.keep h2 hk, lv, h3.keep hk, fun i hi => InK.keep (h4 i hi) hk⟩
theorem RdIx.more {e l : Value} {x : Ix} (h : RdIx w S e v l x) (hS : ∀ b, S b → S' b) : RdIx w S' e v l x := by
  obtain ⟨h1, h2, lv, h3, h4⟩ := h
  exact ⟨h1.more hS, InK.more h2 hS, lv, h3.more hS, fun i hi => InK.more (h4 i hi) hS⟩
theorem InS.rds {B : Nat} {xs : List ByteArray} (h : InS w S v xs) (hS : ∀ b, S b → b < B) : RdS w B v xs := InK.rd h hS
end
theorem keeps_s (v : Value) (xs : List ByteArray) : Keeps (fun w S => InS w S v xs) := fun _ _ _ _ h hk hS => (InK.keep h hk).more hS
theorem keeps_n (v : Value) (xs : List Nat) : Keeps (fun w S => InN w S v xs) := fun _ _ _ _ h hk hS => (InK.keep h hk).more hS
theorem ent_push (es : List ((Int × Nat) × Nat)) (x : (Int × Nat) × Nat) : flatK 3 es.length (entF es) ++ [.int .i64 x.1.1, .int .i64 (x.1.2 : Int), .int .i64 (x.2 : Int)] = flatK 3 (es ++ [x]).length (entF (es ++ [x])) := by
  rw [List.length_append, List.length_singleton]
  refine flat_push (fun i hi j hj => ?_) ?_
  · simp [entF, List.getD, List.getElem?_append_left hi]
  · simp [entF, List.getD, List.range_succ, three]
theorem own_apart {w : World} {base base' : Nat} {e e' : TypeId} {size size' n n' : Nat} {v v' : Value} {xs xs' : List Value} (h : w.ownsRow base e size v n xs) (h' : w.ownsRow base' e' size' v' n' xs') (he : e ≠ e') :
    v.ownBlock = none ∨ v.ownBlock ≠ v'.ownBlock := by
  rcases h.2 with ⟨e1, _⟩ | ⟨g1, cap1, cur1, e1, _, hc1, _⟩
  · left; rw [e1]; rfl
  · right
    rcases h'.2 with ⟨e2, _⟩ | ⟨g2, cap2, cur2, e2, _, hc2, _⟩
    · rw [e1, e2]; simp [Value.ownBlock]
    · rw [e1, e2]
      intro h3
      have h4 : g1 = g2 := by simpa [Value.ownBlock] using h3
      rw [h4, hc2] at hc1
      simp at hc1
      exact he hc1.2.symm
theorem inS_of_own {w : World} {base : Nat} {v : Value} {xs : List ByteArray} {e : TypeId} (h : w.ownsRow base e 1 v xs.length (xs.map Value.string)) : InS w (fun b => v.ownBlock = some b) v xs := by
  refine inK_of_owns (e := e) (base := base) ?_
  have e1 : flatK 1 xs.length (fun i _ => strF xs i) = xs.map Value.string := by
    apply List.ext_getElem?
    intro i
    by_cases hi : i < xs.length
    · have := flatK_at (f := fun i _ => strF xs i) hi (show 0 < 1 by omega)
      simp only [Nat.mul_one, Nat.add_zero] at this
      rw [this]
      simp [strF, List.getD, hi]
    · rw [List.getElem?_eq_none (by rw [flatK_len]; omega), List.getElem?_eq_none (by simp; omega)]
  rw [e1]
  exact h
theorem inN_of_own {w : World} {base : Nat} {v : Value} {xs : List Nat} {e : TypeId} (h : w.ownsRow base e 1 v xs.length (xs.map fun x : Nat => Value.int .i64 (x : Int))) : InN w (fun b => v.ownBlock = some b) v xs := by
  refine inK_of_owns (e := e) (base := base) ?_
  have e1 : flatK 1 xs.length (fun i _ => natF xs i) = xs.map fun x : Nat => Value.int .i64 (x : Int) := by
    apply List.ext_getElem?
    intro i
    by_cases hi : i < xs.length
    · have := flatK_at (f := fun i _ => natF xs i) hi (show 0 < 1 by omega)
      simp only [Nat.mul_one, Nat.add_zero] at this
      rw [this]
      simp [natF, List.getD, hi]
    · rw [List.getElem?_eq_none (by rw [flatK_len]; omega), List.getElem?_eq_none (by simp; omega)]
  rw [e1]
  exact h
end Go.Proofs.YtikiimlmoalbcaaGreatDoor

namespace Go.Proofs.YtikiimlmoalbcaaGreatDoor
open Go.RowKit
structure BarZ (w : World) (blk : Nat) (W : World) : Prop where
  os : W.os = w.os
  tape : W.tape = w.tape
  output : W.output = w.output
  size : w.heap.size ≤ W.heap.size
  block : ∀ k, k < w.heap.size → k ≠ blk → W.heap[k]? = w.heap[k]?
theorem BarZ.refl (w : World) (b : Nat) : BarZ w b w := ⟨rfl, rfl, rfl, Nat.le_refl _, fun _ _ _ => rfl⟩
theorem BarZ.trans {a b c : World} {k : Nat} (h : BarZ a k b) (h' : BarZ b k c) : BarZ a k c :=
  ⟨h'.os.trans h.os, h'.tape.trans h.tape, h'.output.trans h.output, Nat.le_trans h.size h'.size, fun x hx hk => (h'.block x (Nat.lt_of_lt_of_le hx h.size) hk).trans (h.block x hx hk)⟩
theorem BarZ.grown {a b c : World} {k : Nat} (h : BarZ a k b) (hg : b.grownBy c (some k)) : BarZ a k c :=
  h.trans ⟨hg.os, hg.tape, hg.output, hg.size, fun x hx hk => hg.block x hx (fun e => hk (Option.some.inj e))⟩
theorem BarZ.quiet {a b c : World} {k : Nat} (h : BarZ a k b) (hb : Below b.heap.size b c) : BarZ a k c :=
  h.trans ⟨hb.os, hb.tape, hb.output, hb.size, fun x hx _ => hb.block x hx⟩
theorem BarZ.drew {a b : World} {k : Nat} (h : BarZ a k b) : BarZ a k b.drew := h.quiet (Below.refl _ _).drew
theorem BarZ.below {w W : World} {blk : Nat} (h : BarZ w blk W) {B : Nat} (h1 : B ≤ w.heap.size) (h2 : B ≤ blk) : Below B w W :=
  ⟨h.os, h.tape, h.output, h.size, fun k hk => h.block k (by omega) (by omega)⟩
theorem BarZ.cell {w W : World} {blk : Nat} (h : BarZ w blk W) {p : Addr} (h1 : p.block < w.heap.size) (h2 : p.block ≠ blk) : W.cell? p = w.cell? p := World.cell?_of_block (h.block _ h1 h2)
theorem ownZ_below {w w' : World} {base : Nat} {e : TypeId} {size n : Nat} {v : Value} {xs : List Value} (h : w.ownsRow base e size v n xs) (hb : Below w.heap.size w w') : w'.ownsRow base e size v n xs := by
  obtain ⟨hl, h⟩ := h
  refine ⟨hl, ?_⟩
  rcases h with ⟨e1, h1⟩ | ⟨g, cap, cur, e1, h2, h3, h4⟩
  · exact .inl ⟨e1, h1⟩
  · exact .inr ⟨g, cap, cur, e1, h2, (hb.block g (Array.getElem?_eq_some_iff.1 h3).1).trans h3, h4⟩
def RowI (w : World) (base b cap n : Nat) (xs : List Nat) : Prop := xs.length = n ∧ w.ownsRow base 3 1 (.slice (some ⟨b, 0, none⟩) n cap) n (natsV xs)
theorem RowI.at {w : World} {base b cap n : Nat} {xs : List Nat} (h : RowI w base b cap n xs) {i : Nat} (hi : i < n) : w.cell? ⟨b, i, none⟩ = some (.int .i64 ((xs.getD i 0 : Nat) : Int)) := by
  rw [h.2.cellAt i (by omega)]
  have h1 : i < xs.length := by rw [h.1]; exact hi
  simp [natsV, List.getD, h1]
theorem RowI.lt {w : World} {base b cap n : Nat} {xs : List Nat} (h : RowI w base b cap n xs) : base ≤ b ∧ b < w.heap.size := h.2.lt b rfl
theorem RowI.later {w w' : World} {base b cap n : Nat} {xs : List Nat} (h : RowI w base b cap n xs) (hb : Below w.heap.size w w') : RowI w' base b cap n xs := ⟨h.1, ownZ_below h.2 hb⟩
def swapN (xs : List Nat) (i j : Nat) : List Nat := (xs.set i (xs.getD j 0)).set j (xs.getD i 0)
theorem swapN_perm {xs : List Nat} {i j : Nat} (hi : i < xs.length) (hj : j < xs.length) : (swapN xs i j).Perm xs := by
  have e1 : xs.getD j 0 = xs[j] := by simp [List.getD, hj]
  have e2 : xs.getD i 0 = xs[i] := by simp [List.getD, hi]
  unfold swapN
  rw [e1, e2]
  exact List.set_set_perm hi hj
theorem RowI.swap {w : World} {base b cap n : Nat} {xs : List Nat} (h : RowI w base b cap n xs) {i j : Nat} (hi : i < n) (hj : j < n) :
    RowI ((w.setCell ⟨b, i, none⟩ (.int .i64 ((xs.getD j 0 : Nat) : Int))).setCell ⟨b, j, none⟩ (.int .i64 ((xs.getD i 0 : Nat) : Int))) base b cap n (swapN xs i j) := by
  have h1 := (h.2.stored i (.int .i64 ((xs.getD j 0 : Nat) : Int))).1
  have h2 := (h1.stored j (.int .i64 ((xs.getD i 0 : Nat) : Int))).1
  refine ⟨by simp [swapN, h.1], ?_⟩
  have e : ((natsV xs).set i (.int .i64 ((xs.getD j 0 : Nat) : Int))).set j (.int .i64 ((xs.getD i 0 : Nat) : Int)) = natsV (swapN xs i j) := by simp [natsV, swapN, List.map_set]
  rw [e] at h2
  exact h2
theorem RowI.swap' {w : World} {base b cap n : Nat} {xs : List Nat} (h : RowI w base b cap n xs) {i j : Nat} (hi : i < n) (hj : j < n) (hij : i ≠ j) :
    RowI ((w.setCell ⟨b, j, none⟩ (.int .i64 ((xs.getD i 0 : Nat) : Int))).setCell ⟨b, i, none⟩ (.int .i64 ((xs.getD j 0 : Nat) : Int))) base b cap n (swapN xs i j) := by
  have h1 := h.swap hj hi
  have e : swapN xs j i = swapN xs i j := by
    unfold swapN
    rw [List.set_comm _ _ (Ne.symm hij)]
  rw [e] at h1
  exact h1
theorem barZ_swap {a w : World} {b : Nat} (h : BarZ a b w) (i j : Nat) (u v : Value) : BarZ a b ((w.setCell ⟨b, i, none⟩ u).setCell ⟨b, j, none⟩ v) := by
  have hg : ∀ (W : World) (i : Nat) (u : Value), W.grownBy (W.setCell ⟨b, i, none⟩ u) (some b) := fun W i u => ⟨rfl, rfl, rfl, by simp, fun k _ hk => Below.heap_setCell _ _ _ _ (fun e => hk (by rw [e]))⟩
  exact (h.grown (hg w i u)).grown (hg _ j v)
def PermP (w : World) (base b cap n : Nat) (xs : List Nat) (e : Ending) (w' : World) : Prop := e = .returned (.tuple #[]) ∧ ∃ ys, ys.Perm xs ∧ RowI w' base b cap n ys ∧ BarZ w b w'
set_option maxRecDepth 100000 in
set_option maxHeartbeats 4000000 in
theorem swap_range (xs : List Nat) (base b cap n x y k : Nat) (f : Value) (w : World) (h : RowI w base b cap n xs) (hx : x + k ≤ n) (hy : y + k ≤ n) (hxy : x ≠ y) (hn : n ≤ 1048576) :
    Calls Tryz.prog 252 #[.slice (some ⟨b, 0, none⟩) n cap, .int .i64 (x : Int), .int .i64 (y : Int), .int .i64 (k : Int), f] w (PermP w base b cap n xs) := by
  have H := hid h
  have hxl := h.1
  clear h
  go_enter Tryz.func252, Tryz.ntmps252
  go_wp2_with fail
  go_loopg [10] k (fun K i wr => ∃ (q : Nat) (ys : List Nat), i = .int .i64 (q : Int) ∧ q + K = k ∧ Hid (ys.Perm xs) ∧ Hid (RowI wr base b cap n ys) ∧ Hid (BarZ w b wr))
  case atStart => exact ⟨0, xs, rfl, by omega, hid (List.Perm.refl _), H, hid (BarZ.refl _ _)⟩
  case round =>
    obtain ⟨q, ys, rfl, hq, HP, HR, HB⟩ := hrel
    by_cases hp : 0 < gk
    · have hqk : (q : Int) < (k : Int) := by omega
      obtain ⟨i, hie⟩ : ∃ i, i = x + q := ⟨_, rfl⟩
      obtain ⟨j, hje⟩ : ∃ j, j = y + q := ⟨_, rfl⟩
      have hi : i < n := by omega
      have hj : j < n := by omega
      have hix : (x : Int) + (q : Int) = (i : Int) := by omega
      have hjx : (y : Int) + (q : Int) = (j : Int) := by omega
      have hii : (i : Int) < (n : Int) := by omega
      have hjj : (j : Int) < (n : Int) := by omega
      have k0 := HR.out.at hi
      have k1 := HR.out.at hj
      have f0 := HR.out.2.frozenAt i
      have f1 := HR.out.2.frozenAt j
      have hne : i ≠ j := by omega
      have HS1 := hid (RowI.swap (w := wr.drew) HR.out hi hj)
      have HS2 := hid (RowI.swap' (w := wr.drew) HR.out hi hj hne)
      have HB1 := hid (fun i j u v => barZ_swap HB.out.drew i j u v)
      have HPM := hid ((swapN_perm (by rw [HR.out.1]; exact hi) (by rw [HR.out.1]; exact hj)).trans HP.out)
      generalize swapN ys i j = zs at *
      generalize ys.getD i 0 = u at *
      generalize ys.getD j 0 = v at *
      clear HP HR HB hie hje hne
      go_upto_region 3 with fail
      go_region
      all_goals
        go_wp2_with fail
        go_roundg (gk - 1)
        case rel => exact ⟨q + 1, zs, by go_num, by omega, HPM, hid (by first | exact HS1.out | exact HS2.out), hid (by first | exact HB1.out _ _ _ _)⟩
        case measure => omega
    · obtain rfl : gk = 0 := by omega
      obtain rfl : q = k := by omega
      have HF : Hid (PermP w base b cap n xs (.returned (.tuple #[])) wr) := hid ⟨rfl, ys, HP.out, HR.out, HB.out⟩
      go_wp2
      go_end0
      exact HF.out
end Go.Proofs.YtikiimlmoalbcaaGreatDoor

namespace Go.Proofs.YtikiimlmoalbcaaGreatDoor
open Go.RowKit
def CmpQ (xs : List Nat) (b xb : Nat) (w : World) : Prop := ∀ W, BarZ w b W → ∀ x ∈ xs, ∀ y ∈ xs,
  Calls Tryz.prog 154 #[.int .i64 (x : Int), .int .i64 (y : Int), .pointer (some ⟨xb, 0, none⟩)] W (fun e w' => (∃ z : Int, e = .returned (.int .i64 z)) ∧ Below W.heap.size W w')
theorem CmpQ.go {xs ys : List Nat} {b xb : Nat} {w W : World} (h : CmpQ xs b xb w) (hp : ys.Perm xs) (hW : BarZ w b W) : CmpQ ys b xb W := fun W' hW' x hx y hy => h W' (hW.trans hW') x (hp.mem_iff.1 hx) y (hp.mem_iff.1 hy)
theorem PermP.after {w w' : World} {base b cap n : Nat} {xs ys : List Nat} {e : Ending} {w2 : World} (hp : ys.Perm xs) (hb : BarZ w b w') (h : PermP w' base b cap n ys e w2) : PermP w base b cap n xs e w2 := by
  obtain ⟨h1, zs, h2, h3, h4⟩ := h
  exact ⟨h1, zs, h2.trans hp, h3, hb.trans h4⟩
set_option maxRecDepth 100000 in
set_option maxHeartbeats 4000000 in
theorem ins_sortN (xs : List Nat) (base b cap n a c xb : Nat) (w : World) (h : RowI w base b cap n xs) (hac : a ≤ c) (hc : c ≤ n) (hn : n ≤ 1048576) (hC : CmpQ xs b xb w) :
  Calls Tryz.prog 214 #[.slice (some ⟨b, 0, none⟩) n cap, .int .i64 (a : Int), .int .i64 (c : Int), .func (.func 154) #[] #[.pointer (some ⟨xb, 0, none⟩)]] w (PermP w base b cap n xs) := by
 have H := hid h
 have HC := hid hC
 clear h hC
 go_enter Tryz.func214, Tryz.ntmps214
 go_wp2_with fail
 go_loopg [8] (c - a) (fun K i wr => ∃ (q : Nat) (ys : List Nat), i = .int .i64 ((a : Int) + 1 + (q : Int)) ∧ (K = c - a - q) ∧ q ≤ c - a ∧ Hid (ys.Perm xs) ∧ Hid (RowI wr base b cap n ys) ∧ Hid (BarZ w b wr))
 case atStart => exact ⟨0, xs, by go_num, by omega, by omega, hid (List.Perm.refl _), H, hid (BarZ.refl _ _)⟩
 case round =>
  obtain ⟨q, ys, rfl, hq, hqc, HP, HR, HB⟩ := hrel
  obtain ⟨i, hie⟩ : ∃ i, i = a + 1 + q := ⟨_, rfl⟩
  have hia : (a : Int) + 1 + (q : Int) = (i : Int) := by omega
  rw [hia]
  clear hia
  obtain ⟨gA, rfl⟩ : ∃ g, g = gk := ⟨gk, rfl⟩
  by_cases hp : i < c
  ·have hpi : (i : Int) < (c : Int) := by omega
   have hie2 := hid hie
   clear hie
   generalize hLB : Code.loop _ = LB
   go_wp2_with fail
   subst hLB
   go_loopg [9] (i - a) (fun K jv wr => ∃ (j : Nat) (ys : List Nat), jv = .int .i64 (j : Int) ∧ j = a + K ∧ j ≤ i ∧ Hid (ys.Perm xs) ∧ Hid (RowI wr base b cap n ys) ∧ Hid (BarZ w b wr))
   case atStart => exact ⟨i, ys, rfl, by have := hie2.out; omega, by omega, HP, HR, HB⟩
   case round =>
    clear HP HR HB
    obtain ⟨j, ys, rfl, hj0, hji, HP, HR, HB⟩ := hrel
    have HJ := hid hj0
    by_cases hp2 : 0 < gk
    ·have hja : (a : Int) < (j : Int) := by omega
     obtain ⟨p, hpe⟩ : ∃ p, j = p + 1 := ⟨j - 1, by omega⟩
     have hi : j < n := by have := hie2.out; omega
     have hj : p < n := by omega
     have hsub : (j : Int) - 1 = (p : Int) := by omega
     have hwr1 : IntKind.i64.wrap ((j : Int) - 1) = (p : Int) := by rw [IntKind.wrap_i64]; omega
     have hwr2 : IntKind.i64.wrap (p : Int) = (p : Int) := by rw [IntKind.wrap_i64]; omega
     have hp0 : (0 : Int) ≤ (p : Int) := by omega
     have hj0p : (0 : Int) ≤ (j : Int) := by omega
     have hii : (j : Int) < (n : Int) := by omega
     have hjj : (p : Int) < (n : Int) := by omega
     have hne : j ≠ p := by omega
     have hpj : p = a + (gk - 1) := by omega
     have hpi2 : p ≤ i := by omega
     have HPJ := hid hpj
     clear hpe hj0 hpj
     have k0 := HR.out.at hi
     have k1 := HR.out.at hj
     have hu : ys.getD j 0 ∈ xs := HP.out.mem_iff.1 (getD_mem (by rw [HR.out.1]; exact hi) 0)
     have hv : ys.getD p 0 ∈ xs := HP.out.mem_iff.1 (getD_mem (by rw [HR.out.1]; exact hj) 0)
     have HG := hid (fun W (hW : Below wr.heap.size wr W) => (⟨(HR.out.later hW).at hi, (HR.out.later hW).at hj⟩ : W.cell? ⟨b, j, none⟩ = some (.int .i64 ((ys.getD j 0 : Nat) : Int)) ∧ W.cell? ⟨b, p, none⟩ = some (.int .i64 ((ys.getD p 0 : Nat) : Int))))
     have HD := hid ((Below.refl wr.heap.size wr).drew)
     have HQ := hid (fun W (hW : Below wr.heap.size wr W) => HC.out W (HB.out.quiet hW) _ hu _ hv)
     generalize hU : ys.getD j 0 = u at *
     generalize hV : ys.getD p 0 = v at *
     have HU := hid hU
     have HV := hid hV
     clear hU hV hu hv
     go_upto_region 4 with fail
     go_region_held3 (fun W => W.cell? ⟨b, j, none⟩ = some (.int .i64 (u : Int)) ∧ W.cell? ⟨b, p, none⟩ = some (.int .i64 (v : Int)))
      (first | exact HG.out _ HD.out | exact HG.out _ HD5.out | go_keep)
      ((go_at_call 154; go_must ((with_reducible refine (HQ.out _ HD.out).mono ?_); rintro e w5 ⟨⟨z, rfl⟩, hb5⟩; have HD5 := hid (HD.out.trans (hb5.mono HD.out.size)); clear hb5)))
     clear k0 k1
     have HR5 := hid (HR.out.later HD5.out)
     have HB5 := hid (HB.out.quiet HD5.out)
     clear HG HQ HD HD5 HR HB
     by_cases hz : z < 0
     ·obtain ⟨wr, rfl⟩ : ∃ W, W = w5 := ⟨w5, rfl⟩
      have HR := HR5
      have HB := HB5
      clear HR5 HB5
      have k0 := HR.out.at hi
      have k1 := HR.out.at hj
      have f0 := HR.out.2.frozenAt j
      have f1 := HR.out.2.frozenAt p
      have HS1 := hid (RowI.swap (w := wr.drew) HR.out hi hj)
      have HS2 := hid (RowI.swap' (w := wr.drew) HR.out hi hj hne)
      have HB1 := hid (fun i j u v => barZ_swap HB.out.drew i j u v)
      have HPM := hid ((swapN_perm (by rw [HR.out.1]; exact hi) (by rw [HR.out.1]; exact hj)).trans HP.out)
      generalize swapN ys j p = zs at *
      rw [HU.out] at k0 HS1 HS2
      rw [HV.out] at k1 HS1 HS2
      clear HP HR HB hne
      go_upto_region 6 with fail
      go_region
      all_goals
       go_wp2_with fail
       go_roundg (gk - 1)
       case rel => exact ⟨p, zs, by go_num, HPJ.out, by omega, HPM, hid (by first | exact HS1.out | exact HS2.out), hid (by first | exact HB1.out _ _ _ _)⟩
       case measure => omega
     ·have hzd : decide (z < 0) = false := decide_eq_false hz
      go_wp2_with fail
      go_roundg (c - a - (q + 1))
      case rel => exact ⟨q + 1, ys, by have := hie2.out; go_num, by omega, by have := hie2.out; omega, HP, HR5, HB5⟩
      case measure => have := hie2.out; omega
    ·have hja : ¬ (a : Int) < (j : Int) := by omega
     clear hj0
     have hjd : decide ((a : Int) < (j : Int)) = false := decide_eq_false hja
     have HBD := hid HB.out.drew
     have HRD := hid (RowI.later HR.out (Below.refl _ _).drew)
     go_upto_region 4 with fail
     refine wp_region_held_drew (S := fun W => W.cell? ⟨b, i, none⟩ = some (.int .i64 ((ys.getD i 0 : Nat) : Int))) (by kernel_rfl) (HRD.out.at (by have := hie2.out; omega)) (fun hHeld => ?_)
     refine wpAnyH_take (i := 0) (v := ?_) (by simp only [List.getElem?_toArray, List.getElem?_cons_zero, List.getElem?_cons_succ]; rfl) (by kernel_rfl) (by kernel_rfl) (by kernel_rfl) (by intro _ _ _ h; exact h) (Or.inl ⟨by rfl, ?_⟩) (by assumption) ?_
     rotate_left
     ·(intro w' hSw; (try dsimp only at hSw); go_simp) <;> with_reducible rfl
     try simp only [Act.put, List.setIfInBounds_toArray, List.set_cons_zero, List.set_cons_succ]
     refine wpAnyH_take (i := 1) (v := ?_) (by simp only [List.getElem?_toArray, List.getElem?_cons_zero, List.getElem?_cons_succ]; rfl) (by kernel_rfl) (by kernel_rfl) (by kernel_rfl) (by intro _ _ _ h; exact h) (Or.inl ⟨by rfl, ?_⟩) (by assumption) ?_
     rotate_left
     ·(intro w' hSw; (try dsimp only at hSw); go_simp) <;> with_reducible rfl
     try simp only [Act.put, List.setIfInBounds_toArray, List.set_cons_zero, List.set_cons_succ]
     refine wpAnyH_take (i := 2) (v := ?_) (by simp only [List.getElem?_toArray, List.getElem?_cons_zero, List.getElem?_cons_succ]; rfl) (by kernel_rfl) (by kernel_rfl) (by kernel_rfl) (by intro _ _ _ h; exact h) (Or.inl ⟨by rfl, ?_⟩) (by assumption) ?_
     rotate_left
     ·(intro w' hSw; (try dsimp only at hSw); go_simp) <;> with_reducible rfl
     try simp only [Act.put, List.setIfInBounds_toArray, List.set_cons_zero, List.set_cons_succ]
     refine wpAnyH_take (i := 3) (v := ?_) (by simp only [List.getElem?_toArray, List.getElem?_cons_zero, List.getElem?_cons_succ]; rfl) (by kernel_rfl) (by kernel_rfl) (by kernel_rfl) (by intro _ _ _ h; exact h) (Or.inl ⟨by rfl, ?_⟩) (by assumption) ?_
     rotate_left
     ·(intro w' hSw; (try dsimp only at hSw); go_simp) <;> with_reducible rfl
     try simp only [Act.put, List.setIfInBounds_toArray, List.set_cons_zero, List.set_cons_succ]
     refine wpAnyH_take (i := 4) (v := undef) (by simp only [List.getElem?_toArray, List.getElem?_cons_zero, List.getElem?_cons_succ]; rfl) (by kernel_rfl) (by kernel_rfl) (by kernel_rfl) (by intro _ _ _ h; exact h) (Or.inr ⟨by rfl, rfl⟩) (by assumption) ?_
     try simp only [Act.put, List.setIfInBounds_toArray, List.set_cons_zero, List.set_cons_succ]
     refine wpAnyH_take (i := 5) (v := undef) (by simp only [List.getElem?_toArray, List.getElem?_cons_zero, List.getElem?_cons_succ]; rfl) (by kernel_rfl) (by kernel_rfl) (by kernel_rfl) (by intro _ _ _ h; exact h) (Or.inr ⟨by rfl, rfl⟩) (by assumption) ?_
     try simp only [Act.put, List.setIfInBounds_toArray, List.set_cons_zero, List.set_cons_succ]
     refine wpAnyH_take (i := 6) (v := undef) (by simp only [List.getElem?_toArray, List.getElem?_cons_zero, List.getElem?_cons_succ]; rfl) (by kernel_rfl) (by kernel_rfl) (by kernel_rfl) (by intro _ _ _ h; exact h) (Or.inr ⟨by rfl, rfl⟩) (by assumption) ?_
     try simp only [Act.put, List.setIfInBounds_toArray, List.set_cons_zero, List.set_cons_succ]
     refine wpAnyH_take (i := 7) (v := undef) (by simp only [List.getElem?_toArray, List.getElem?_cons_zero, List.getElem?_cons_succ]; rfl) (by kernel_rfl) (by kernel_rfl) (by kernel_rfl) (by intro _ _ _ h; exact h) (Or.inr ⟨by rfl, rfl⟩) (by assumption) ?_
     try simp only [Act.put, List.setIfInBounds_toArray, List.set_cons_zero, List.set_cons_succ]
     refine wpAnyH_take (i := 8) (v := undef) (by simp only [List.getElem?_toArray, List.getElem?_cons_zero, List.getElem?_cons_succ]; rfl) (by kernel_rfl) (by kernel_rfl) (by kernel_rfl) (by intro _ _ _ h; exact h) (Or.inr ⟨by rfl, rfl⟩) (by assumption) ?_
     try simp only [Act.put, List.setIfInBounds_toArray, List.set_cons_zero, List.set_cons_succ]
     refine wpAnyH_take (i := 9) (v := undef) (by simp only [List.getElem?_toArray, List.getElem?_cons_zero, List.getElem?_cons_succ]; rfl) (by kernel_rfl) (by kernel_rfl) (by kernel_rfl) (by intro _ _ _ h; exact h) (Or.inr ⟨by rfl, rfl⟩) (by assumption) ?_
     try simp only [Act.put, List.setIfInBounds_toArray, List.set_cons_zero, List.set_cons_succ]
     refine wpAnyH_take (i := 10) (v := undef) (by simp only [List.getElem?_toArray, List.getElem?_cons_zero, List.getElem?_cons_succ]; rfl) (by kernel_rfl) (by kernel_rfl) (by kernel_rfl) (by intro _ _ _ h; exact h) (Or.inr ⟨by rfl, rfl⟩) (by assumption) ?_
     try simp only [Act.put, List.setIfInBounds_toArray, List.set_cons_zero, List.set_cons_succ]
     refine wpAnyH_take (i := 11) (v := undef) (by simp only [List.getElem?_toArray, List.getElem?_cons_zero, List.getElem?_cons_succ]; rfl) (by kernel_rfl) (by kernel_rfl) (by kernel_rfl) (by intro _ _ _ h; exact h) (Or.inr ⟨by rfl, rfl⟩) (by assumption) ?_
     try simp only [Act.put, List.setIfInBounds_toArray, List.set_cons_zero, List.set_cons_succ]
     refine wpAnyH_take (i := 12) (v := undef) (by simp only [List.getElem?_toArray, List.getElem?_cons_zero, List.getElem?_cons_succ]; rfl) (by kernel_rfl) (by kernel_rfl) (by kernel_rfl) (by intro _ _ _ h; exact h) (Or.inr ⟨by rfl, rfl⟩) (by assumption) ?_
     try simp only [Act.put, List.setIfInBounds_toArray, List.set_cons_zero, List.set_cons_succ]
     refine wpAnyH_take (i := 13) (v := undef) (by simp only [List.getElem?_toArray, List.getElem?_cons_zero, List.getElem?_cons_succ]; rfl) (by kernel_rfl) (by kernel_rfl) (by kernel_rfl) (by intro _ _ _ h; exact h) (Or.inr ⟨by rfl, rfl⟩) (by assumption) ?_
     try simp only [Act.put, List.setIfInBounds_toArray, List.set_cons_zero, List.set_cons_succ]
     refine wpAnyH_take (i := 14) (v := undef) (by simp only [List.getElem?_toArray, List.getElem?_cons_zero, List.getElem?_cons_succ]; rfl) (by kernel_rfl) (by kernel_rfl) (by kernel_rfl) (by intro _ _ _ h; exact h) (Or.inr ⟨by rfl, rfl⟩) (by assumption) ?_
     try simp only [Act.put, List.setIfInBounds_toArray, List.set_cons_zero, List.set_cons_succ]
     refine wpAnyH_take (i := 15) (v := undef) (by simp only [List.getElem?_toArray, List.getElem?_cons_zero, List.getElem?_cons_succ]; rfl) (by kernel_rfl) (by kernel_rfl) (by kernel_rfl) (by intro _ _ _ h; exact h) (Or.inr ⟨by rfl, rfl⟩) (by assumption) ?_
     try simp only [Act.put, List.setIfInBounds_toArray, List.set_cons_zero, List.set_cons_succ]
     refine wpAnyH_take (i := 16) (v := ?_) (by simp only [List.getElem?_toArray, List.getElem?_cons_zero, List.getElem?_cons_succ]; rfl) (by kernel_rfl) (by kernel_rfl) (by kernel_rfl) (by intro _ _ _ h; exact h) (Or.inl ⟨by rfl, ?_⟩) (by assumption) ?_
     rotate_left
     ·(intro w' hSw; (try dsimp only at hSw); go_simp) <;> with_reducible rfl
     try simp only [Act.put, List.setIfInBounds_toArray, List.set_cons_zero, List.set_cons_succ]
     refine wpAnyH_done (by kernel_rfl) ?_ _
     go_wp2_with fail
     go_roundg (c - a - (q + 1))
     case rel => exact ⟨q + 1, ys, by have := hie2.out; go_num, by omega, by have := hie2.out; omega, HP, HRD, HBD⟩
     case measure => have := hie2.out; omega
  ·have hpi : ¬ (i : Int) < (c : Int) := by omega
   have HF : Hid (PermP w base b cap n xs (.returned (.tuple #[])) wr) := hid ⟨rfl, ys, HP.out, HR.out, HB.out⟩
   go_wp2
   go_end0
   exact HF.out
set_option maxRecDepth 100000 in
set_option maxHeartbeats 4000000 in
theorem rotateN (xs : List Nat) (base b cap n a m c : Nat) (f : Value) (w : World) (h : RowI w base b cap n xs) (ham : a < m) (hmc : m < c) (hc : c ≤ n) (hn : n ≤ 1048576) :
  Calls Tryz.prog 234 #[.slice (some ⟨b, 0, none⟩) n cap, .int .i64 (a : Int), .int .i64 (m : Int), .int .i64 (c : Int), f] w (PermP w base b cap n xs) := by
 have H := hid h
 clear h
 have HSW := hid (fun (ys : List Nat) x y k W (hr : RowI W base b cap n ys) (hx : x + k ≤ n) (hy : y + k ≤ n) (hxy : x ≠ y) => swap_range ys base b cap n x y k f W hr hx hy hxy hn)
 obtain ⟨i0, hi0⟩ : ∃ i, i = m - a := ⟨_, rfl⟩
 obtain ⟨j0, hj0⟩ : ∃ j, j = c - m := ⟨_, rfl⟩
 have e1 : (m : Int) - (a : Int) = (i0 : Int) := by omega
 have e2 : (c : Int) - (m : Int) = (j0 : Int) := by omega
 have hi0m : i0 ≤ m := by omega
 have hj0m : m + j0 ≤ n := by omega
 have hi0p : 0 < i0 := by omega
 have hj0p : 0 < j0 := by omega
 clear hi0 hj0
 go_enter Tryz.func234, Tryz.ntmps234
 go_wp2_with fail
 go_loopg [10, 11] (i0 + j0) (fun K iv jv wr => ∃ (i j : Nat) (ys : List Nat), iv = .int .i64 (i : Int) ∧ jv = .int .i64 (j : Int) ∧ i + j = K ∧ 0 < i ∧ 0 < j ∧ i ≤ m ∧ m + j ≤ n ∧ Hid (ys.Perm xs) ∧ Hid (RowI wr base b cap n ys) ∧ Hid (BarZ w b wr))
 case atStart => exact ⟨i0, j0, xs, rfl, rfl, rfl, by omega, by omega, by omega, by omega, hid (List.Perm.refl _), H, hid (BarZ.refl _ _)⟩
 case round =>
  obtain ⟨i, j, ys, rfl, rfl, hK, hi, hj, him, hjm, HP, HR, HB⟩ := hrel
  obtain ⟨x, hx⟩ : ∃ x, x = m - i := ⟨_, rfl⟩
  have hxe : (m : Int) - (i : Int) = (x : Int) := by omega
  rcases Nat.lt_trichotomy i j with hij | hij | hij
  ·have hne : ¬ ((i : Int) = (j : Int)) := by omega
   have hned : decide ((i : Int) = (j : Int)) = false := decide_eq_false hne
   have hneb : ((i : Int) == (j : Int)) = false := beq_false_of_ne hne
   have hgt : ¬ (j : Int) < (i : Int) := by omega
   obtain ⟨y, hy⟩ : ∃ y, y = m + j - i := ⟨_, rfl⟩
   have hye : (m : Int) + (j : Int) - (i : Int) = (y : Int) := by omega
   have HC1 := hid (HSW.out ys x y i wr HR.out (by omega) (by omega) (by omega))
   obtain ⟨d, hd⟩ : ∃ d, d = j - i := ⟨_, rfl⟩
   have hde : (j : Int) - (i : Int) = (d : Int) := by omega
   have HY := hid hy
   have HX := hid hx
   have HDE := hid hd
   clear hy hx hd
   go_wp2_with fail
   with_reducible refine HC1.out.mono ?_
   rintro e w5 ⟨rfl, zs, hp5, hr5, hb5⟩
   have HP5 := hid (hp5.trans HP.out)
   have HR5 := hid hr5
   have HB5 := hid (HB.out.trans hb5)
   clear hp5 hr5 hb5
   go_wp2_with fail
   go_roundg (i + d)
   case rel => exact ⟨i, d, zs, rfl, rfl, rfl, by omega, by have := HDE.out; omega, by omega, by have := HDE.out; omega, HP5, HR5, HB5⟩
   case measure => have := HDE.out; omega
  ·subst hij
   have heq : ((i : Int) == (i : Int)) = true := by simp
   have HC1 := hid (HSW.out ys x m i wr HR.out (by omega) (by omega) (by omega))
   have HX := hid hx
   clear hx
   go_wp2_with fail
   with_reducible refine HC1.out.mono ?_
   rintro e w5 ⟨rfl, zs, hp5, hr5, hb5⟩
   have HF : Hid (PermP w base b cap n xs (.returned (.tuple #[])) w5) := hid ⟨rfl, zs, hp5.trans HP.out, hr5, HB.out.trans hb5⟩
   clear hp5 hr5 hb5
   go_wp2
   go_end0
   exact HF.out
  ·have hne : ¬ ((i : Int) = (j : Int)) := by omega
   have hned : decide ((i : Int) = (j : Int)) = false := decide_eq_false hne
   have hneb : ((i : Int) == (j : Int)) = false := beq_false_of_ne hne
   have hgt : (j : Int) < (i : Int) := by omega
   have HC1 := hid (HSW.out ys x m j wr HR.out (by omega) (by omega) (by omega))
   obtain ⟨d, hd⟩ : ∃ d, d = i - j := ⟨_, rfl⟩
   have hde : (i : Int) - (j : Int) = (d : Int) := by omega
   have HX := hid hx
   have HDE := hid hd
   clear hx hd
   go_wp2_with fail
   with_reducible refine HC1.out.mono ?_
   rintro e w5 ⟨rfl, zs, hp5, hr5, hb5⟩
   have HP5 := hid (hp5.trans HP.out)
   have HR5 := hid hr5
   have HB5 := hid (HB.out.trans hb5)
   clear hp5 hr5 hb5
   go_wp2_with fail
   go_roundg (d + j)
   case rel => exact ⟨d, j, zs, rfl, rfl, rfl, by have := HDE.out; omega, by omega, by have := HDE.out; omega, by omega, HP5, HR5, HB5⟩
   case measure => have := HDE.out; omega
end Go.Proofs.YtikiimlmoalbcaaGreatDoor
