/- The reference's Same at any two fractions that are not negative. Plain: rows that are taken one by one; names that are put into their order. -/
import Derived.Test.YthblaeleogdfpaaGreatDoorCToaq
import Derived.Test.YthblaeleogdfpaaGreatDoorCToah
set_option linter.unusedVariables false
set_option linter.unusedSimpArgs false
namespace Go.Proofs.YthblaeleogdfpaaGreatDoor.Fr
open Go.RowKit
set_option maxRecDepth 100000 in
set_option maxHeartbeats 1000000 in
theorem ref_sameBigX (u v : Value) (xs ys : List Nat) (w : World) (hx : Rd32 w u xs) (hy : Rd32 w v ys) :
  Calls Tryz.prog 60 #[.agg #[.bool false, u], .agg #[.bool false, v]] w (Ret w (.bool (decide (xs = ys)))) := by
 obtain ⟨a, c, rfl, hc, hm, hxr, hxc⟩ := hx
 obtain ⟨a', c', rfl, hc', hm', hyr, hyc⟩ := hy
 have HXC := hid hxc
 have HYC := hid hyc
 have HXR := hid hxr
 clear hxc hyc hxr hyr
 have HNO := hid (fun q (h : xs.getD q 0 ≠ ys.getD q 0) (e : xs = ys) => h (by rw [e]))
 have HLE := hid (fun (e : xs = ys) => congrArg List.length e)
 have HEX := hid (fun (hl : xs.length = ys.length) (h : ∀ j, j < xs.length → xs.getD j 0 = ys.getD j 0) => List.ext_getElem hl (fun i h1 h2 => by simpa [List.getD, h1, h2] using h i h1))
 generalize xs.length = n at *
 generalize hn : ys.length = n' at *
 clear hn
 unfold maxLen at hm hm'
 have HB0 := hid (((Below.refl w.heap.size w).alloc (Nat.le_refl _) (.cells #[.bool false, .slice a n c] 47)).alloc (by simp) (.cells #[.bool false, .slice a' n' c'] 47))
 have HX1 := hid ((BoxN.new w #[.bool false, .slice a n c] 47).alloc (.cells #[.bool false, .slice a' n' c'] 47))
 have hx2 := BoxN.new (w.alloc (.cells #[.bool false, .slice a n c] 47)) #[.bool false, .slice a' n' c'] 47
 rw [World.size_alloc] at hx2
 have HX2 := hid hx2
 clear hx2
 by_cases hnn : n = n'
 ·subst hnn
  have hq1 : ((n : Int) != (n : Int)) = false := by simp
  go_enter Tryz.func60, Tryz.ntmps60
  generalize hLA : Code.loop _ = LA
  go_wp2_with fail
  subst hLA
  clear hq1
  generalize (w.alloc (.cells #[.bool false, .slice a n c] 47)).alloc (.cells #[.bool false, .slice a' n c'] 47) = W0 at *
  have d0 := HX2.out.cell 0 rfl
  have d1 := HX2.out.cell 1 rfl
  have c0 := HX1.out.cell 0 rfl
  have c1 := HX1.out.cell 1 rfl
  go_loopg [24] n (fun N i wr => ∃ q : Nat, q + N = n ∧ i = .int .i64 (q : Int) ∧ wr = W0 ∧ Hid (∀ j, j < q → xs.getD j 0 = ys.getD j 0))
  case atStart => exact ⟨0, by omega, rfl, rfl, hid (fun j h => absurd h (by omega))⟩
  case round =>
   obtain ⟨q, hq, rfl, rfl, HALL⟩ := hrel
   by_cases hp : 0 < gk
   ·obtain ⟨b, o, rfl, hb, h1⟩ := HXC.out (by omega)
    obtain ⟨b', o', rfl, hb', h2⟩ := HYC.out (by omega)
    have k1 := (HB0.out.cell (p := ⟨b, o + q, none⟩) hb).trans (h1 q (by omega))
    have k2 := (HB0.out.cell (p := ⟨b', o' + q, none⟩) hb').trans (h2 q (by omega))
    have HN1 := hid (HNO.out q)
    have HA1 : Hid (xs.getD q 0 = ys.getD q 0 → ∀ j, j < q + 1 → xs.getD j 0 = ys.getD j 0) := hid (fun h j hj => by
     rcases Nat.lt_or_ge j q with h3 | h3
     ·exact HALL.out j h3
     ·obtain rfl : j = q := by omega
      exact h)
    clear h1 h2
    generalize xs.getD q 0 = x at *
    generalize ys.getD q 0 = y at *
    by_cases hxy : x = y
    ·have HA2 := hid (HA1.out hxy)
     subst hxy
     have hq2 : ((x : Int) != (x : Int)) = false := by simp
     go_wp2_with fail
     go_roundg (gk - 1)
     case rel => exact ⟨q + 1, by omega, by go_num, rfl, HA2⟩
     case measure => omega
    ·have HN2 := hid (HN1.out hxy)
     have hq2 : ((x : Int) != (y : Int)) = true := by simp; omega
     have hq3 : ((y : Int) != (x : Int)) = true := by simp; omega
     clear hxy
     go_wp2
     go_ret
     exact ⟨by rw [decide_eq_false HN2.out]; rfl, HB0.out⟩
   ·obtain rfl : q = n := by omega
    have HE := hid (HEX.out (by simp) HALL.out)
    go_wp2_with fail
    go_ret
    exact ⟨by rw [decide_eq_true HE.out]; rfl, HB0.out⟩
 ·have hq1 : ((n : Int) != (n' : Int)) = true := by simp; omega
  have HN2 : Hid (xs ≠ ys) := hid (fun e => hnn (HLE.out e))
  go_enter Tryz.func60, Tryz.ntmps60
  generalize hLA : Code.loop _ = LA
  clear hLA
  go_wp2
  go_ret
  exact ⟨by rw [decide_eq_false HN2.out]; rfl, HB0.out⟩
set_option maxRecDepth 100000 in
set_option maxHeartbeats 1000000 in
theorem ref_SameX (u v : Value) (p q p' q' : Nat) (w : World) (hu : RdF w u false p q) (hv : RdF w v false p' q') :
  Calls Tryz.prog 21 #[u, v] w (Ret w (.bool (decide (dig p = dig p') && decide (dig q = dig q')))) := by
 obtain ⟨a1, c1, b1, d1, rfl, ha1, hb1⟩ := hu
 obtain ⟨a2, c2, b2, d2, rfl, ha2, hb2⟩ := hv
 have HS1 := hid (fun W (hW : Below w.heap.size w W) => ref_sameBigX _ _ (dig p) (dig p') W (ha1.kept hW) (ha2.kept hW))
 have HS2 := hid (fun W (hW : Below w.heap.size w W) => ref_sameBigX _ _ (dig q) (dig q') W (hb1.kept hW) (hb2.kept hW))
 clear ha1 ha2 hb1 hb2
 generalize decide (dig p = dig p') = e1 at *
 generalize decide (dig q = dig q') = e2 at *
 generalize (dig p).length = n at *
 generalize (dig q).length = m at *
 generalize (dig p').length = n' at *
 generalize (dig q').length = m' at *
 have HB0 := hid (((Below.refl w.heap.size w).alloc (Nat.le_refl _) (.cells #[.bool false, .slice a1 n c1, .bool false, .slice b1 m d1] 49)).alloc (by simp) (.cells #[.bool false, .slice a2 n' c2, .bool false, .slice b2 m' d2] 49))
 have HX1 := hid ((BoxN.new w #[.bool false, .slice a1 n c1, .bool false, .slice b1 m d1] 49).alloc (.cells #[.bool false, .slice a2 n' c2, .bool false, .slice b2 m' d2] 49))
 have hx2 := BoxN.new (w.alloc (.cells #[.bool false, .slice a1 n c1, .bool false, .slice b1 m d1] 49)) #[.bool false, .slice a2 n' c2, .bool false, .slice b2 m' d2] 49
 rw [World.size_alloc] at hx2
 have HX2 := hid hx2
 have k0 := HX1.out.cell 0 rfl
 have k1 := HX1.out.cell 1 rfl
 have k2 := HX1.out.cell 2 rfl
 have k3 := HX1.out.cell 3 rfl
 have j0 := HX2.out.cell 0 rfl
 have j1 := HX2.out.cell 1 rfl
 have j2 := HX2.out.cell 2 rfl
 have j3 := HX2.out.cell 3 rfl
 clear hx2
 go_enter Tryz.func21, Tryz.ntmps21
 go_wp2_with fail
 generalize (w.alloc (.cells #[.bool false, .slice a1 n c1, .bool false, .slice b1 m d1] 49)).alloc (.cells #[.bool false, .slice a2 n' c2, .bool false, .slice b2 m' d2] 49) = W0 at *
 with_reducible refine (HS1.out _ HB0.out).mono ?_
 clear k0 k1 k2 k3 j0 j1 j2 j3
 rintro e w1 ⟨rfl, hb1⟩
 have HB1 := hid (HB0.out.trans (hb1.mono HB0.out.size))
 have k0 := (HX1.out.below hb1 HX1.out.lt).cell 2 rfl
 have k1 := (HX1.out.below hb1 HX1.out.lt).cell 3 rfl
 have j0 := (HX2.out.below hb1 HX2.out.lt).cell 2 rfl
 have j1 := (HX2.out.below hb1 HX2.out.lt).cell 3 rfl
 clear hb1
 cases e1 with
 | false =>
  go_wp2
  go_ret
  exact ⟨rfl, HB1.out⟩
 | true =>
  go_wp2_with fail
  with_reducible refine (HS2.out _ HB1.out).mono ?_
  rintro e w2 ⟨rfl, hb2⟩
  have HB2 := hid (HB1.out.trans (hb2.mono HB1.out.size))
  clear hb2 k0 k1 j0 j1
  go_wp2_with fail
  go_ret
  exact ⟨rfl, HB2.out⟩
end Go.Proofs.YthblaeleogdfpaaGreatDoor.Fr

namespace Go.Proofs.YthblaeleogdfpaaGreatDoor
open Go.RowKit
section
variable {α : Type} [DecidableEq α]
def leftR (T : Nat → Bool) (R : List α) (d : α) : List α := ((List.range R.length).filter fun y => !T y).map fun y => R.getD y d
omit [DecidableEq α] in
theorem left_none (R : List α) (d : α) : leftR (fun _ => false) R d = R := by
 unfold leftR
 rw [show ((List.range R.length).filter fun y => !(fun _ : Nat => false) y) = List.range R.length from List.filter_eq_self.2 (fun _ _ => rfl)]
 apply List.ext_getElem?
 intro i
 rw [List.getElem?_map]
 by_cases h : i < R.length
 ·simp [h, List.getD]
 ·simp [h]
omit [DecidableEq α] in
theorem left_take {T : Nat → Bool} {R : List α} {d : α} {y : Nat} (hy : y < R.length) (ht : T y = false) : (leftR T R d).Perm (R.getD y d :: leftR (fun z => T z || decide (z = y)) R d) := by
 unfold leftR
 have h1 : y ∈ (List.range R.length).filter fun y => !T y := by simp [hy, ht]
 have hn : ((List.range R.length).filter fun y => !T y).Nodup := List.nodup_range.filter _
 have h2 := List.perm_cons_erase h1
 rw [hn.erase_eq_filter, List.filter_filter] at h2
 have h3 := h2.map fun y => R.getD y d
 rw [List.map_cons] at h3
 refine h3.trans (List.Perm.of_eq ?_)
 congr 2
 apply List.filter_congr
 intro z _
 by_cases e : z = y
 ·subst e; simp
 ·simp [e]
omit [DecidableEq α] in
theorem left_mem {T : Nat → Bool} {R : List α} {d x : α} : x ∈ leftR T R d ↔ ∃ y, y < R.length ∧ T y = false ∧ R.getD y d = x := by
 unfold leftR
 simp [List.mem_map, List.mem_filter, and_assoc]
theorem left_yes {A B R : List α} {n q y : Nat} {T : Nat → Bool} {d : α} (hq : q < A.length) (h : comL A B = n + comL (A.drop q) (leftR T R d)) (hy : y < R.length) (ht : T y = false) (he : R.getD y d = A.getD q d) :
  comL A B = n + 1 + comL (A.drop (q + 1)) (leftR (fun z => T z || decide (z = y)) R d) := by
 have hm : A.getD q d ∈ leftR T R d := left_mem.2 ⟨y, hy, ht, he⟩
 have h1 := comL_step_yes hq (A.getD q d) (by simp [List.getD, hq]) h hm
 rw [h1]
 congr 1
 apply comL_perm_right
 have h2 := left_take (d := d) hy ht
 rw [he] at h2
 have h3 := h2.erase (A.getD q d)
 rw [List.erase_cons_head] at h3
 exact h3
theorem left_no {A B R : List α} {n q : Nat} {T : Nat → Bool} {d : α} (hq : q < A.length) (h : comL A B = n + comL (A.drop q) (leftR T R d)) (hno : ∀ y, y < R.length → T y = false → R.getD y d ≠ A.getD q d) :
  comL A B = n + comL (A.drop (q + 1)) (leftR T R d) :=
 comL_step_no hq (A.getD q d) (by simp [List.getD, hq]) h fun hm => by
  obtain ⟨y, h1, h2, h3⟩ := left_mem.1 hm
  exact hno y h1 h2 h3
end
def Weak (l : List ByteArray) : Prop := l.Pairwise fun a b => sl b a = false
theorem weak_sort {l N : List ByteArray} (hw : Weak l) (hp : l.Perm N) : l = sortL N := by
 have h1 : (l.map listOf).Pairwise (fun x y => x ≤ y) := by
  rw [List.pairwise_map]
  refine hw.imp fun {a b} h => ?_
  rw [sl_lt, decide_eq_false_iff_not] at h
  have : a.toList ≤ b.toList := List.not_lt.1 h
  rwa [Lib.toList_data, Lib.toList_data] at this
 have h2 : l.map listOf = (N.map listOf).mergeSort fun x y => decide (x ≤ y) := by
  refine List.Perm.eq_of_pairwise (le := fun x y : List UInt8 => x ≤ y) (fun a b _ _ h1 h2 => List.le_antisymm h1 h2) h1 (sortL_pair N) ?_
  exact (hp.map listOf).trans (List.mergeSort_perm _ _).symm
 unfold sortL
 rw [← h2, List.map_map]
 exact ((List.map_congr_left fun x _ => bytesOf_listOf x).trans (List.map_id' _)).symm
def putS (l : List ByteArray) (i : Nat) (s : ByteArray) : List ByteArray := l.take i ++ s :: l.drop i
theorem putS_len {l : List ByteArray} {i : Nat} (hi : i ≤ l.length) (s : ByteArray) : (putS l i s).length = l.length + 1 := by
 unfold putS
 rw [List.length_append, List.length_cons, List.length_take, List.length_drop]
 omega
theorem putS_perm (l : List ByteArray) (i : Nat) (s : ByteArray) : (putS l i s).Perm (l ++ [s]) := by
 unfold putS
 have h1 : (l.take i ++ s :: l.drop i).Perm (s :: (l.take i ++ l.drop i)) := List.perm_middle
 rw [List.take_append_drop] at h1
 exact h1.trans (List.perm_append_comm (l₁ := [s]) (l₂ := l))
theorem getD_mem_take {l : List ByteArray} {i : Nat} {x : ByteArray} (h : x ∈ l.take i) : ∃ j, j < i ∧ j < l.length ∧ x = l.getD j ⟨#[]⟩ := by
 obtain ⟨j, hj, rfl⟩ := List.getElem_of_mem h
 rw [List.length_take] at hj
 exact ⟨j, by omega, by omega, by simp [List.getD, show j < l.length by omega]⟩
theorem getD_mem_drop {l : List ByteArray} {i : Nat} {x : ByteArray} (h : x ∈ l.drop i) : ∃ j, i ≤ j ∧ j < l.length ∧ x = l.getD j ⟨#[]⟩ := by
 obtain ⟨j, hj, rfl⟩ := List.getElem_of_mem h
 rw [List.length_drop] at hj
 exact ⟨i + j, by omega, by omega, by simp [List.getD, show i + j < l.length by omega]⟩
theorem weak_at {l : List ByteArray} (hw : Weak l) {i j : Nat} (hij : i < j) (hj : j < l.length) : sl (l.getD j ⟨#[]⟩) (l.getD i ⟨#[]⟩) = false := by
 have h := List.pairwise_iff_getElem.1 hw i j (by omega) hj hij
 simpa [List.getD, hj, show i < l.length by omega] using h
theorem sl_asymm {a b : ByteArray} (h : sl a b = true) : sl b a = false := by
 cases e : sl b a with
 | false => rfl
 | true => have := sl_trans h e; rw [sl_irrefl] at this; cases this
theorem weak_trans {a b c : ByteArray} (h1 : sl b a = false) (h2 : sl c b = false) : sl c a = false := by
 cases e : sl c a with
 | false => rfl
 | true =>
  rcases sl_total b a with h | h | h
  ·rw [h1] at h; cases h
  ·subst h; rw [h2] at e; cases e
  ·have := sl_trans e h; rw [h2] at this; cases this
theorem putS_weak {l : List ByteArray} (hw : Weak l) {i : Nat} {s : ByteArray} (hi : i ≤ l.length) (h1 : ∀ j, i ≤ j → j < l.length → sl s (l.getD j ⟨#[]⟩) = true) (h2 : 0 < i → sl s (l.getD (i - 1) ⟨#[]⟩) = false) : Weak (putS l i s) := by
 unfold Weak putS
 rw [List.pairwise_append, List.pairwise_cons]
 refine ⟨hw.sublist (List.take_sublist _ _), ⟨fun b hb => ?_, hw.sublist (List.drop_sublist _ _)⟩, fun a ha b hb => ?_⟩
 ·obtain ⟨j, h3, h4, rfl⟩ := getD_mem_drop hb
  exact sl_asymm (h1 j h3 h4)
 ·obtain ⟨j, h3, h4, rfl⟩ := getD_mem_take ha
  have hsj : sl s (l.getD j ⟨#[]⟩) = false := by
   by_cases e : j = i - 1
   ·rw [e]; exact h2 (by omega)
   ·exact weak_trans (weak_at hw (by omega) (by omega)) (h2 (by omega))
  rcases List.mem_cons.1 hb with rfl | hb
  ·exact hsj
  ·obtain ⟨k, h5, h6, rfl⟩ := getD_mem_drop hb
   exact weak_at hw (by omega) h6
theorem weak_nodup {l : List ByteArray} (hw : Weak l) : l.Nodup ↔ ∀ i, 0 < i → i < l.length → l.getD i ⟨#[]⟩ ≠ l.getD (i - 1) ⟨#[]⟩ := by
 constructor
 ·intro h i h0 hi e
  have h3 := List.pairwise_iff_getElem.1 h (i - 1) i (by omega) hi (by omega)
  apply h3
  simpa [List.getD, hi, show i - 1 < l.length by omega] using e.symm
 ·intro h
  rw [List.Nodup, List.pairwise_iff_getElem]
  intro i j hi hj hij e
  have e2 : l.getD i ⟨#[]⟩ = l.getD j ⟨#[]⟩ := by simpa [List.getD, hi, hj] using e
  have h3 := h (i + 1) (by omega) (by omega)
  rw [Nat.add_sub_cancel] at h3
  apply h3
  by_cases e3 : i + 1 = j
  ·rw [e3, e2]
  ·have h4 := weak_at hw (show i < i + 1 by omega) (by omega)
   have h5 := weak_at hw (show i + 1 < j by omega) hj
   rw [← e2] at h5
   rcases sl_total (l.getD (i + 1) ⟨#[]⟩) (l.getD i ⟨#[]⟩) with h6 | h6 | h6
   ·rw [h4] at h6; cases h6
   ·exact h6
   ·rw [h5] at h6; cases h6
end Go.Proofs.YthblaeleogdfpaaGreatDoor
