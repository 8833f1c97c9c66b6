/- What every walk of this family uses: the words in which memory is described, small facts. No program in sight. Contracts of the reference's arithmetic of words: cmp, trim, big, ValidBig, FromInt. Contracts of the reference's arithmetic: ValidBig, FromInt, Minus, Whole. -/
import Derived.WalkKit
import Derived.WalkSpells
import Derived.WalkLawsBesides
import Derived.BigRegion
import Derived.BigQuiet
import Derived.Deep.QuietTactic
import Derived.Deep.RegionHeld3
import Derived.Deep.LoopGhost
import Derived.Handy
import Derived.Test.YthblaeleogdfpaaGreatDoorCToai
import Derived.Test.YthblaeleogdfpaaGreatDoorProg
set_option linter.unusedVariables false
set_option linter.unusedSimpArgs false
namespace Go.Proofs.YthblaeleogdfpaaGreatDoor.Fr
open Go.RowKit
theorem hid {p : Prop} (h : p) : Hid p := h
def Rd32 (w : World) (v : Value) (xs : List Nat) : Prop :=
  ∃ a c, v = .slice a xs.length c ∧ xs.length ≤ c ∧ c ≤ maxLen ∧ Digs xs ∧
    (0 < xs.length → ∃ b o, a = some ⟨b, o, none⟩ ∧ b < w.heap.size ∧ ∀ i, i < xs.length → w.cell? ⟨b, o + i, none⟩ = some (.int .u32 ((xs.getD i 0 : Nat) : Int)))
theorem Rd32.kept {w w' : World} {v : Value} {xs : List Nat} (h : Rd32 w v xs) (hb : Below w.heap.size w w') : Rd32 w' v xs := by
 obtain ⟨a, c, e, h1, h2, h3, h4⟩ := h
 refine ⟨a, c, e, h1, h2, h3, fun hp => ?_⟩
 obtain ⟨b, o, e1, h5, h6⟩ := h4 hp
 exact ⟨b, o, e1, Nat.lt_of_lt_of_le h5 hb.size, fun i hi => (hb.cell (p := ⟨b, o + i, none⟩) h5).trans (h6 i hi)⟩
theorem Rd32.nil (w : World) : Rd32 w (.slice none 0 0) [] := ⟨none, 0, rfl, Nat.le_refl _, by simp [maxLen], Digs.nil, fun h => by simp at h⟩
def Off (R : Nat) (v : Value) : Prop := ∀ a n c, v = .slice (some a) n c → 0 < n → a.block ≠ R
theorem Rd32.off {w : World} {v : Value} {xs : List Nat} (h : Rd32 w v xs) {R : Nat} (hR : w.heap.size ≤ R) : Off R v := by
 obtain ⟨a, c, rfl, h1, h2, h3, h4⟩ := h
 intro a' n' c' e hn
 obtain ⟨rfl, rfl, rfl⟩ := Value.slice.inj e
 obtain ⟨b, o, e1, h5, h6⟩ := h4 hn
 cases e1
 intro e2
 simp only at e2
 omega
theorem Off.of_lt {R : Nat} {b o n c : Nat} (h : R < b) : Off R (.slice (some ⟨b, o, none⟩) n c) := by
 intro a n' c' e _
 obtain ⟨e1, _⟩ := Value.slice.inj e
 cases e1
 simp only; omega
theorem Off.nil {R n c : Nat} : Off R (.slice none n c) := by
 intro a n' c' e _
 obtain ⟨e1, _⟩ := Value.slice.inj e
 cases e1
theorem Rd32.setCell {w : World} {v : Value} {xs : List Nat} (h : Rd32 w v xs) {p : Addr} {u : Value} (ho : Off p.block v) : Rd32 (w.setCell p u) v xs := by
 obtain ⟨a, c, rfl, h1, h2, h3, h4⟩ := h
 refine ⟨a, c, rfl, h1, h2, h3, fun hp => ?_⟩
 obtain ⟨b, o, rfl, h5, h6⟩ := h4 hp
 refine ⟨b, o, rfl, by simpa using h5, fun i hi => ?_⟩
 rw [World.cell?_setCell_other, h6 i hi]
 intro e
 have := ho _ _ _ rfl hp
 rw [e] at this
 exact this rfl
theorem Rd32.alloc {w : World} {v : Value} {xs : List Nat} (h : Rd32 w v xs) {o : Obj} : Rd32 (w.alloc o) v xs := h.kept ((Below.refl _ _).alloc (Nat.le_refl _) _)
theorem Rd32.drewN {w : World} {v : Value} {xs : List Nat} (h : Rd32 w v xs) {n : Nat} : Rd32 (w.drewN n) v xs := h
theorem Rd32.drew {w : World} {v : Value} {xs : List Nat} (h : Rd32 w v xs) : Rd32 w.drew v xs := h
def Quiet (w : World) (v : Value) (e : Ending) (w' : World) : Prop := e = .returned v ∧ ∃ k, w' = w.drewN k
theorem Quiet.below {w : World} {v : Value} {e : Ending} {w' : World} (h : Quiet w v e w') : e = .returned v ∧ Below w.heap.size w w' := by
 obtain ⟨he, k, rfl⟩ := h
 exact ⟨he, rfl, rfl, rfl, Nat.le_refl _, fun _ _ => rfl⟩
def Ret (w : World) (v : Value) (e : Ending) (w' : World) : Prop := e = .returned v ∧ Below w.heap.size w w'
theorem Quiet.ret {w : World} {v : Value} {e : Ending} {w' : World} (h : Quiet w v e w') : Ret w v e w' := h.below
theorem Rd32.new1 (w : World) (x : Nat) (t : TypeId) (g : Nat) (hg : g = w.heap.size) (h : x < 4294967296) : Rd32 (w.alloc (.cells #[.int .u32 (x : Int)] t)) (.slice (some ⟨g, 0, none⟩) 1 1) [x] := by
 subst hg
 refine ⟨_, _, rfl, Nat.le_refl _, by simp [maxLen], Digs.cons h Digs.nil, fun _ => ⟨_, _, rfl, by simp, fun i hi => ?_⟩⟩
 obtain rfl : i = 0 := by simpa using hi
 simp
theorem Rd32.new2 (w : World) (x y : Nat) (t : TypeId) (g : Nat) (hg : g = w.heap.size) (h : x < 4294967296) (h' : y < 4294967296) : Rd32 (w.alloc (.cells #[.int .u32 (x : Int), .int .u32 (y : Int)] t)) (.slice (some ⟨g, 0, none⟩) 2 2) [x, y] := by
 subst hg
 refine ⟨_, _, rfl, Nat.le_refl _, by simp [maxLen], Digs.cons h (Digs.cons h' Digs.nil), fun _ => ⟨_, _, rfl, by simp, fun i hi => ?_⟩⟩
 have hi' : i < 2 := by simpa using hi
 obtain rfl | rfl : i = 0 ∨ i = 1 := by omega
 ·simp
 ·simp
abbrev U32 (x : Nat) : Value := .int .u32 (x : Int)
theorem rd_of_owns {w : World} {base : Nat} {e : TypeId} {v : Value} {n : Nat} {xs : List Nat} (h : w.ownsRow base e 1 v n (xs.map U32)) (hd : Digs xs) :
  Rd32 w v xs ∧ (∀ R, R < base → Off R v) ∧ xs.length = n ∧ ∃ a c, v = .slice a n c := by
 obtain ⟨hl, h⟩ := h
 simp only [List.length_map, Nat.mul_one] at hl
 rcases h with ⟨rfl, h0⟩ | ⟨g, cap, cur, rfl, hb, hg, hn, hm, hs, ht⟩
 ·have : xs = [] := List.eq_nil_of_length_eq_zero (by omega)
  subst this
  exact ⟨Rd32.nil w, fun R _ => Off.nil, hl, none, 0, by rw [h0]⟩
 ·subst hl
  refine ⟨⟨_, _, rfl, hn, hm, hd, fun hp => ⟨g, 0, rfl, (Array.getElem?_eq_some_iff.1 hg).1, fun i hi => ?_⟩⟩, fun R hR => Off.of_lt (by omega), rfl, _, _, rfl⟩
  rw [Nat.zero_add, cell_of_row w g i cur e (0, 0) hg]
  have h1 : (xs.map U32)[i]? = some (U32 (xs.getD i 0)) := by simp [List.getD, hi]
  rw [← ht, List.getElem?_take] at h1
  simp only [Nat.mul_one] at h1
  rw [if_pos hi] at h1
  simpa using h1
theorem push_below {B e size n : Nat} {w wr w' : World} {o : Value} {O : Obj} {xs : List Value} (h : Below B w wr) (hB : B ≤ wr.heap.size) (hown : wr.ownsRow B e size o n xs)
  (hg : (wr.alloc O).grownBy w' o.ownBlock) : Below B w w' :=
 (h.alloc hB O).grown hg (by simp; omega) (fun k hk => (hown.lt k hk).1)
def GivesL (w : World) (n : Nat) (e : Ending) (w' : World) : Prop :=
  ∃ a c zs, e = .returned (.slice a zs.length c) ∧ Rd32 w' (.slice a zs.length c) zs ∧ val zs = n ∧ (∀ R, R < w.heap.size → Off R (.slice a zs.length c)) ∧ Below w.heap.size w w'
theorem givesL_of {w w1 : World} {n m : Nat} {v : Value} {e : TypeId} {zs : List Nat} (hown : w1.ownsRow w.heap.size e 1 v m (zs.map U32)) (hd : Digs zs) (hv : val zs = n) (hb : Below w.heap.size w w1) :
  GivesL w n (.returned v) w1 := by
 obtain ⟨h1, h2, rfl, a, c, rfl⟩ := rd_of_owns hown hd
 exact ⟨a, c, zs, rfl, h1, hv, h2, hb⟩
theorem map_snoc (zs : List Nat) (x : Nat) : zs.map U32 ++ [.int .u32 (x : Int)] = (zs ++ [x]).map U32 := by simp
def GivesD (w : World) (n : Nat) (e : Ending) (w' : World) : Prop :=
  ∃ a c, e = .returned (.slice a (dig n).length c) ∧ Rd32 w' (.slice a (dig n).length c) (dig n) ∧ (∀ R, R < w.heap.size → Off R (.slice a (dig n).length c)) ∧ Below w.heap.size w w'
def Own32 (w : World) (g N : Nat) (zs : List Nat) : Prop :=
  zs.length = N ∧ Digs zs ∧ g < w.heap.size ∧ ∀ i, i < N → w.cell? ⟨g, i, none⟩ = some (U32 (zs.getD i 0)) ∧ w.frozen? ⟨g, i, none⟩ = false
theorem Own32.set {w : World} {g N j d : Nat} {zs : List Nat} (h : Own32 w g N zs) (hj : j < N) (hd : d < 4294967296) : Own32 (w.setCell ⟨g, j, none⟩ (U32 d)) g N (zs.set j d) := by
 obtain ⟨h1, h2, h3, h4⟩ := h
 refine ⟨by simpa using h1, h2.set j d hd, by simpa using h3, fun i hi => ?_⟩
 by_cases e : j = i
 ·subst e
  rw [getD_set_self (by omega)]
  exact ⟨World.cell?_setCell_same _ _ _ (h4 j hi).1, by rw [World.frozen?_setCell]; exact (h4 j hi).2⟩
 ·rw [getD_set_other e]
  refine ⟨?_, by rw [World.frozen?_setCell]; exact (h4 i hi).2⟩
  rw [World.cell?_setCell_other _ _ _ _ (by intro h; injection h with _ h2; exact e h2)]
  exact (h4 i hi).1
theorem Own32.drewN {w : World} {g N n : Nat} {zs : List Nat} (h : Own32 w g N zs) : Own32 (w.drewN n) g N zs := h
theorem Own32.drew {w : World} {g N : Nat} {zs : List Nat} (h : Own32 w g N zs) : Own32 w.drew g N zs := h
theorem Own32.alloc {w : World} {g N : Nat} {zs : List Nat} (h : Own32 w g N zs) {o : Obj} : Own32 (w.alloc o) g N zs := by
 obtain ⟨h1, h2, h3, h4⟩ := h
 refine ⟨h1, h2, by simp; omega, fun i hi => ⟨?_, ?_⟩⟩
 ·rw [World.cell?_alloc_lt _ _ _ h3]; exact (h4 i hi).1
 ·rw [World.frozen?_alloc_old _ _ _ (Nat.ne_of_lt h3)]; exact (h4 i hi).2
theorem Own32.rd {w : World} {g N c : Nat} {zs : List Nat} (h : Own32 w g N zs) (hc : N ≤ c) (hm : c ≤ maxLen) : Rd32 w (.slice (some ⟨g, 0, none⟩) N c) zs := by
 obtain ⟨rfl, h2, h3, h4⟩ := h
 exact ⟨_, _, rfl, hc, hm, h2, fun _ => ⟨g, 0, rfl, h3, fun i hi => by rw [Nat.zero_add]; exact (h4 i hi).1⟩⟩
theorem Own32.of_made {w : World} {base g N : Nat} {e : TypeId} (h : w.ownsRow base e 1 (.slice (some ⟨g, 0, none⟩) N N) N (madeCells #[Value.int .u32 0] N).toList) : Own32 w g N (List.replicate N 0) := by
 have hz : ∀ i : Nat, (List.replicate N 0).getD i 0 = 0 := fun i => by
  simp only [List.getD, List.getElem?_replicate]; split <;> rfl
 rcases h.2 with ⟨h1, _⟩ | ⟨g', cap, cur, e1, hb, hg, hn, hm, hs, ht⟩
 ·simp at h1
 ·obtain ⟨e2, _, rfl⟩ := Value.slice.inj e1
  cases e2
  refine ⟨by simp, fun i => by rw [hz]; omega, (Array.getElem?_eq_some_iff.1 hg).1, fun i hi => ⟨?_, ?_⟩⟩
  ·rw [cell_of_row w g i cur e (0, 0) hg, hz]
   have h1 : (cur.toList.take (N * 1))[i]? = (madeCells #[Value.int .u32 0] N).toList[i]? := by rw [ht]
   rw [List.getElem?_take, if_pos (by omega)] at h1
   have h2 : (madeCells #[Value.int .u32 0] N).toList[i]? = some (U32 0) := by
    simp [madeCells, Value.cells, hi, Nat.mod_one]
   rw [h2] at h1
   simpa using h1
  ·simp [World.frozen?, hg]
theorem own32_of_owns {w : World} {base : Nat} {e : TypeId} {v : Value} {n : Nat} {zs : List Nat} (h : w.ownsRow base e 1 v n (zs.map U32)) (hd : Digs zs) (hn : 0 < n) :
  ∃ g cap, v = .slice (some ⟨g, 0, none⟩) n cap ∧ n ≤ cap ∧ cap ≤ maxLen ∧ base ≤ g ∧ Own32 w g n zs := by
 obtain ⟨hl, h⟩ := h
 simp only [List.length_map, Nat.mul_one] at hl
 rcases h with ⟨rfl, h0⟩ | ⟨g, cap, cur, rfl, hb, hg, hn', hm, hs, ht⟩
 ·omega
 ·refine ⟨g, cap, rfl, hn', hm, hb, hl, hd, (Array.getElem?_eq_some_iff.1 hg).1, fun i hi => ⟨?_, by simp [World.frozen?, hg]⟩⟩
  rw [cell_of_row w g i cur e (0, 0) hg]
  have h1 : (zs.map U32)[i]? = some (U32 (zs.getD i 0)) := by simp [List.getD, hl, hi]
  rw [← ht, List.getElem?_take] at h1
  simp only [Nat.mul_one] at h1
  rw [if_pos hi] at h1
  simpa using h1
theorem Rd32.news {w : World} {b o n c : Nat} {xs : List Nat} (h : ∀ i, i < xs.length → w.cell? ⟨b, o + i, none⟩ = some (U32 (xs.getD i 0))) :
  ∀ j u, (xs.map U32)[j]? = some u → w.cell? ((⟨b, o, none⟩ : Addr).add j) = some u := by
 intro j u hu
 have hj : j < xs.length := by
  have := (List.getElem?_eq_some_iff.1 hu).1
  simpa using this
 rw [Addr.add_lit, h j hj]
 have e : (xs.map U32)[j]? = some (U32 (xs.getD j 0)) := by simp [List.getD, hj]
 rw [e] at hu
 exact hu
theorem u32_one (xs : List Nat) : ∀ u ∈ xs.map U32, u.oneCell' = true := by
 intro u hu
 obtain ⟨_, _, rfl⟩ := List.mem_map.1 hu
 rfl
theorem frozen_later {w wx : World} {a : Addr} {v : Value} (hb : Below w.heap.size w wx) (hc : w.cell? a = some v) (h : w.frozen? a = false) : wx.frozen? a = false :=
 (hb.frozen (World.block_lt_of_cell? _ _ hc)).trans h
def slen : Value → Nat | .slice _ n _ => n | _ => 0
theorem ret_int {k : IntKind} {a b : Int} (h : a = b) : Ending.returned (.int k a) = .returned (.int k b) := by rw [h]
theorem ret_bool {a b : Bool} (h : a = b) : Ending.returned (.bool a) = .returned (.bool b) := by rw [h]
theorem below_drewN {B n : Nat} {a w : World} (h : Below B a w) : Below B a (w.drewN n) := ⟨h.os, h.tape, h.output, h.size, h.block⟩
theorem bcell {B : Nat} {W w1 : World} (hb : Below B W w1) : (∀ b o, b < B → w1.cell? ⟨b, o, none⟩ = W.cell? ⟨b, o, none⟩) ∧ (∀ b o, b < B → w1.frozen? ⟨b, o, none⟩ = W.frozen? ⟨b, o, none⟩) :=
 ⟨fun b o h => hb.cell (p := ⟨b, o, none⟩) h, fun b o h => hb.frozen (p := ⟨b, o, none⟩) h⟩
end Go.Proofs.YthblaeleogdfpaaGreatDoor.Fr

namespace Go.Proofs.YthblaeleogdfpaaGreatDoor.Fr
open Go.RowKit
theorem info_u32 : (Tryz.prog.info? 157).map (fun i => (i.zero, i.size, i.bytes)) = some (some (.int .u32 0), 1, 4) := by kernel_rfl
set_option maxHeartbeats 400000 in
theorem ref_cmp (u v : Value) (xs ys : List Nat) (w : World) (hx : Rd32 w u xs) (hy : Rd32 w v ys) :
  Calls Tryz.prog 246 #[u, v] w (Quiet w (.int .i64 (cmpL xs ys))) := by
 obtain ⟨a, c, rfl, hc, hm, hxr, hxc⟩ := hx
 obtain ⟨a', c', rfl, hc', hm', hyr, hyc⟩ := hy
 obtain ⟨n, hn⟩ : ∃ n, n = xs.length := ⟨_, rfl⟩
 obtain ⟨n', hn'⟩ : ∃ n, n = ys.length := ⟨_, rfl⟩
 have HF : Hid (cmpL xs ys = if n = n' then cmpTop xs ys n else if n < n' then -1 else 1) := by simp [Hid, cmpL, hn, hn']
 generalize cmpL xs ys = F at *
 rw [← hn] at hc hxc ⊢
 rw [← hn'] at hc' hyc ⊢
 clear hn hn'
 unfold maxLen at hm hm'
 by_cases hl : n = n'
 ·subst hl
  have HF' := HF.out
  rw [if_pos rfl] at HF'
  have HF2 := hid HF'
  clear HF' HF
  go_enter Tryz.func246, Tryz.ntmps246
  go_wp2
  go_loopw [5] (fun i w' => ∃ k : Nat, k ≤ n ∧ i = .int .i64 ((k : Int) - 1) ∧ F = cmpTop xs ys k ∧ ∃ m, w' = w.drewN m) (fun i _ => (intOf i + 1).toNat)
  case atStart => exact ⟨n, Nat.le_refl _, rfl, HF2.out, 0, rfl⟩
  case round =>
   clear HF2
   obtain ⟨k, hk, rfl, hf, m, rfl⟩ := hrel
   have HC := hid hf
   clear hf
   rcases k with _ | k
   ·go_wp2
    go_ret
    exact ⟨ret_int HC.out.symm, _, rfl⟩
   ·obtain ⟨b, o, rfl, hb, hcell⟩ := hxc (by omega)
    obtain ⟨b', o', rfl, hb', hcell'⟩ := hyc (by omega)
    have h1 := hcell k (by omega)
    have h2 := hcell' k (by omega)
    have e1 : ((k + 1 : Nat) : Int) - 1 = (k : Int) := by omega
    rw [e1]
    have hF := HC.out
    rw [cmpTop] at hF
    generalize hX : xs.getD k 0 = x at *
    generalize hY : ys.getD k 0 = y at *
    have HF3 := hid hF
    clear hcell hcell' hF hX hY HC hxc hyc
    by_cases hlt : x < y
    ·go_wp2
     go_quiet (fail)
     go_wp2
     go_ret
     exact ⟨ret_int (by rw [HF3.out, if_pos hlt]), _, World.drewN_drewN _ _ _⟩
    ·by_cases hgt : y < x
     ·go_wp2
      go_quiet (fail)
      go_wp2
      go_quiet (fail)
      go_wp2
      go_ret
      exact ⟨ret_int (by rw [HF3.out, if_neg hlt, if_pos hgt]), _, by rw [World.drewN_drewN, World.drewN_drewN]⟩
     ·go_wp2
      go_quiet (fail)
      go_wp2
      go_quiet (fail)
      go_wp2
      go_roundw
      case rel => exact ⟨k, by omega, rfl, by rw [HF3.out, if_neg hlt, if_neg hgt], _, rfl⟩
      case measure => simp [intOf]
 ·have hF := HF.out
  rw [if_neg hl] at hF
  have hne : (((n : Int) != (n' : Int))) = true := by simp; omega
  have HF2 := hid hF
  clear hF HF
  by_cases hlt : n < n'
  ·go_enter Tryz.func246, Tryz.ntmps246
   go_wp2
   go_ret
   exact ⟨ret_int (by rw [HF2.out, if_pos hlt]), 0, rfl⟩
  ·go_enter Tryz.func246, Tryz.ntmps246
   go_wp2
   go_ret
   exact ⟨ret_int (by rw [HF2.out, if_neg hlt]), 0, rfl⟩
theorem Rd32.take {w : World} {a : Option Addr} {c : Nat} {xs : List Nat} (h : Rd32 w (.slice a xs.length c) xs) (k : Nat) (hk : k ≤ xs.length) : Rd32 w (.slice a k c) (xs.take k) := by
 obtain ⟨a', c', e, h1, h2, h3, h4⟩ := h
 obtain ⟨rfl, _, rfl⟩ := Value.slice.inj e
 have e : (xs.take k).length = k := by simp; omega
 refine ⟨a, c, by rw [e], by omega, h2, h3.take k, fun hp => ?_⟩
 obtain ⟨b, o, e1, h5, h6⟩ := h4 (by omega)
 refine ⟨b, o, e1, h5, fun i hi => ?_⟩
 rw [h6 i (by omega)]
 have : (xs.take k).getD i 0 = xs.getD i 0 := by rw [e] at hi; simp [List.getD, List.getElem?_take, hi]
 rw [this]
def QuietDig (w : World) (u : Value) (xs : List Nat) (e : Ending) (w' : World) : Prop :=
  ∃ a c, e = .returned (.slice a (dig (val xs)).length c) ∧ (∀ W, Rd32 W u xs → Rd32 W (.slice a (dig (val xs)).length c) (dig (val xs))) ∧ (∀ R, Off R u → Off R (.slice a (dig (val xs)).length c)) ∧ ∃ k, w' = w.drewN k
theorem Off.take {R n m c : Nat} {a : Option Addr} (h : Off R (.slice a n c)) (hm : m ≤ n) : Off R (.slice a m c) := by
 intro a' n' c' e hn
 obtain ⟨rfl, rfl, rfl⟩ := Value.slice.inj e
 exact h _ _ _ rfl (by omega)
set_option maxHeartbeats 400000 in
theorem ref_trim (u : Value) (xs : List Nat) (w : World) (hx : Rd32 w u xs) :
  Calls Tryz.prog 235 #[u] w (QuietDig w u xs) := by
 obtain ⟨a, c, rfl, hc, hm, hxr, hxc⟩ := hx
 have HT := hid (take_trimK hxr)
 have HL := hid (trimK_length hxr)
 have HR : Hid (∀ W, Rd32 W (.slice a xs.length c) xs → ∀ k, k ≤ xs.length → Rd32 W (.slice a k c) (xs.take k)) := fun W h k hk => h.take k hk
 clear hxr
 generalize hV : val xs = V at *
 obtain ⟨n, hn⟩ : ∃ n, n = xs.length := ⟨_, rfl⟩
 rw [← hn] at hc hxc HR HT HL
 have HN := hid hn
 have HVV := hid hV
 rw [show Value.slice a xs.length c = Value.slice a n c from by rw [hn]]
 clear hn hV
 unfold maxLen at hm
 go_enter Tryz.func235, Tryz.ntmps235
 go_wp2
 go_loopw [0] (fun v w' => ∃ k : Nat, k ≤ n ∧ v = .slice a k c ∧ trimK xs n = trimK xs k ∧ w' = w) (fun v _ => slen v)
 case atStart => exact ⟨n, Nat.le_refl _, rfl, rfl, rfl⟩
 case round =>
  obtain ⟨k, hk, rfl, hf, rfl⟩ := hrel
  have HC := hid hf
  clear hf
  rcases k with _ | k
  ·go_wp2
   go_ret
   have e0 : (dig (val xs)).length = 0 := by rw [HVV.out, ← HL.out, HC.out]; rfl
   exact ⟨_, _, by rw [e0]; rfl, fun W hW => by have := HR.out W hW 0 (by omega); rw [e0, HVV.out, ← HT.out, HC.out]; exact this, fun R h => by rw [e0]; exact h.take (by omega), 0, rfl⟩
  ·obtain ⟨b, o, rfl, hb, hcell⟩ := hxc (by omega)
   have h1 := hcell k (by omega)
   have hF := HC.out
   rw [trimK] at hF
   generalize hX : xs.getD k 0 = x at *
   have HF3 := hid hF
   clear hcell hF HC hxc hX
   have e1 : ((k + 1 : Nat) : Int) - 1 = (k : Int) := by omega
   by_cases hz : x = 0
   ·go_wp2
    go_roundw
    case rel => exact ⟨k, by omega, rfl, by rw [HF3.out, if_pos hz], by trivial⟩
    case measure => simp [slen]
   ·go_wp2
    go_ret
    have e0 : (dig (val xs)).length = k + 1 := by rw [HVV.out, ← HL.out, HF3.out, if_neg hz]
    exact ⟨_, _, by rw [e0]; rfl, fun W hW => by have := HR.out W hW (k + 1) (by omega); rw [e0, HVV.out, ← HT.out, HF3.out, if_neg hz]; exact this, fun R h => by rw [e0]; exact h.take (by omega), 0, rfl⟩
def GivesZ (us : List Value) (w : World) (neg : Bool) (n : Nat) (e : Ending) (w' : World) : Prop :=
  ∃ a c, e = .returned (.agg #[.bool (neg && decide (0 < n)), .slice a (dig n).length c]) ∧ Rd32 w' (.slice a (dig n).length c) (dig n) ∧
    (∀ R, R < w.heap.size → (∀ u ∈ us, Off R u) → Off R (.slice a (dig n).length c)) ∧ Below w.heap.size w w'
set_option maxHeartbeats 400000 in
theorem ref_big (neg : Bool) (u : Value) (xs : List Nat) (w : World) (hx : Rd32 w u xs) :
  Calls Tryz.prog 175 #[.bool neg, u] w (GivesZ [u] w neg (val xs)) := by
 go_enter Tryz.func175, Tryz.ntmps175
 go_wp2_with fail
 refine (ref_trim _ _ _ hx.alloc).mono ?_
 rintro e w' ⟨a, c, rfl, hv, ho, k, rfl⟩
 have HR := hid (hv w hx)
 have HO := hid (ho w.heap.size (hx.off (Nat.le_refl _)))
 have HO2 := hid ho
 clear hv ho
 by_cases hV : 0 < val xs
 ·have hp := dig_length_pos.2 hV
  generalize val xs = V at *
  cases neg
  all_goals
   go_wp2
   go_returns
   exact ⟨_, _, by simp [hV], ((HR.out.alloc.drewN (n := k)).setCell HO.out).setCell HO.out, fun R _ h => HO2.out R (h u (by simp)), by repeat' (first | (with_reducible exact Below.refl _ _) | (with_reducible assumption) | (with_reducible refine below_drewN ?_) | (with_reducible refine Below.alloc ?_ ?_ _) | (with_reducible refine Below.drew ?_) | (with_reducible refine Below.setCell ?_ ?_ _) | (with_reducible refine Below.trans ?_ (Below.mono (by with_reducible assumption) ?_)) | go_size)⟩
 ·have hp : ¬ 0 < (dig (val xs)).length := fun h => hV (dig_length_pos.1 h)
  generalize val xs = V at *
  cases neg
  all_goals
   go_wp2
   go_returns
   exact ⟨_, _, by simp [hV], ((HR.out.alloc.drewN (n := k)).setCell HO.out).setCell HO.out, fun R _ h => HO2.out R (h u (by simp)), by repeat' (first | (with_reducible exact Below.refl _ _) | (with_reducible assumption) | (with_reducible refine below_drewN ?_) | (with_reducible refine Below.alloc ?_ ?_ _) | (with_reducible refine Below.drew ?_) | (with_reducible refine Below.setCell ?_ ?_ _) | (with_reducible refine Below.trans ?_ (Below.mono (by with_reducible assumption) ?_)) | go_size)⟩
end Go.Proofs.YthblaeleogdfpaaGreatDoor.Fr

namespace Go.Proofs.YthblaeleogdfpaaGreatDoor.Fr
open Go.RowKit
def RdB (w : World) (v : Value) (neg : Bool) (xs : List Nat) : Prop := ∃ a c, v = .agg #[.bool neg, .slice a xs.length c] ∧ Rd32 w (.slice a xs.length c) xs
def okBig (neg : Bool) (xs : List Nat) : Bool := decide (xs.length ≤ 256 ∧ (xs.length = 0 ∧ neg = false ∨ 0 < xs.length ∧ xs.getD (xs.length - 1) 0 ≠ 0))
set_option maxRecDepth 100000 in
set_option maxHeartbeats 400000 in
theorem ref_ValidBig (v : Value) (neg : Bool) (xs : List Nat) (w : World) (hx : RdB w v neg xs) :
  Calls Tryz.prog 173 #[v] w (Ret w (.bool (okBig neg xs))) := by
 obtain ⟨a, c, rfl, hx⟩ := hx
 obtain ⟨a', c', e, hc, hm, hxr, hxc⟩ := hx
 obtain ⟨rfl, _, rfl⟩ := Value.slice.inj e
 clear e
 obtain ⟨n, hn⟩ : ∃ n, n = xs.length := ⟨_, rfl⟩
 have HF : Hid (okBig neg xs = decide (n ≤ 256 ∧ (n = 0 ∧ neg = false ∨ 0 < n ∧ xs.getD (n - 1) 0 ≠ 0))) := by simp [Hid, okBig, hn]
 generalize okBig neg xs = F at *
 rw [← hn] at hc hxc ⊢
 clear hn hxr
 unfold maxLen at hm
 rcases n with _ | n
 ·cases neg
  ·go_enter Tryz.func173, Tryz.ntmps173
   go_wp2
   go_ret
   exact ⟨ret_bool (by rw [HF.out]; simp), by repeat' (first | (with_reducible exact Below.refl _ _) | (with_reducible assumption) | (with_reducible refine below_drewN ?_) | (with_reducible refine Below.alloc ?_ ?_ _) | (with_reducible refine Below.drew ?_) | (with_reducible refine Below.setCell ?_ ?_ _) | (with_reducible refine Below.trans ?_ (Below.mono (by with_reducible assumption) ?_)) | go_size)⟩
  ·go_enter Tryz.func173, Tryz.ntmps173
   go_wp2
   go_ret
   exact ⟨ret_bool (by rw [HF.out]; simp), by repeat' (first | (with_reducible exact Below.refl _ _) | (with_reducible assumption) | (with_reducible refine below_drewN ?_) | (with_reducible refine Below.alloc ?_ ?_ _) | (with_reducible refine Below.drew ?_) | (with_reducible refine Below.setCell ?_ ?_ _) | (with_reducible refine Below.trans ?_ (Below.mono (by with_reducible assumption) ?_)) | go_size)⟩
 ·obtain ⟨b, o, rfl, hb, hcell⟩ := hxc (by omega)
  have h1 := hcell n (by omega)
  have HF2 := HF.out
  rw [show n + 1 - 1 = n from rfl] at HF2
  generalize xs.getD n 0 = x at *
  have HF3 := hid HF2
  clear HF2 HF hxc hcell
  have e1 : ((n + 1 : Nat) : Int) - 1 = (n : Int) := by omega
  by_cases hle : n + 1 ≤ 256
  ·have hne : (((n + 1 : Nat) : Int) == 0) = false := by simp; omega
   by_cases hz : x = 0
   ·subst hz
    go_enter Tryz.func173, Tryz.ntmps173
    go_wp2
    go_ret
    exact ⟨ret_bool (by rw [HF3.out]; simp), by repeat' (first | (with_reducible exact Below.refl _ _) | (with_reducible assumption) | (with_reducible refine below_drewN ?_) | (with_reducible refine Below.alloc ?_ ?_ _) | (with_reducible refine Below.drew ?_) | (with_reducible refine Below.setCell ?_ ?_ _) | (with_reducible refine Below.trans ?_ (Below.mono (by with_reducible assumption) ?_)) | go_size)⟩
   ·have hne2 : (((x : Nat) : Int) != 0) = true := by simp; omega
    have HZ := hid hz
    clear hz
    go_enter Tryz.func173, Tryz.ntmps173
    go_wp2
    go_ret
    exact ⟨ret_bool (by rw [HF3.out]; have := HZ.out; simp; omega), by repeat' (first | (with_reducible exact Below.refl _ _) | (with_reducible assumption) | (with_reducible refine below_drewN ?_) | (with_reducible refine Below.alloc ?_ ?_ _) | (with_reducible refine Below.drew ?_) | (with_reducible refine Below.setCell ?_ ?_ _) | (with_reducible refine Below.trans ?_ (Below.mono (by with_reducible assumption) ?_)) | go_size)⟩
  ·go_enter Tryz.func173, Tryz.ntmps173
   go_wp2
   go_ret
   exact ⟨ret_bool (by rw [HF3.out]; simp; omega), by repeat' (first | (with_reducible exact Below.refl _ _) | (with_reducible assumption) | (with_reducible refine below_drewN ?_) | (with_reducible refine Below.alloc ?_ ?_ _) | (with_reducible refine Below.drew ?_) | (with_reducible refine Below.setCell ?_ ?_ _) | (with_reducible refine Below.trans ?_ (Below.mono (by with_reducible assumption) ?_)) | go_size)⟩
theorem wrapneg_u64 (m : Nat) (h : m < 9223372036854775808) (h0 : 0 < m) : IntKind.u64.wrap (-IntKind.u64.wrap (-(m : Int))) = (m : Int) := by
 simp only [IntKind.wrap_u64]; omega
theorem val_two' (m : Nat) : val [m % 4294967296, m / 4294967296] = m := by simp only [val]; omega
theorem val_two (m : Nat) (h : m < 9223372036854775808) : val [m % 4294967296, m / 4294967296 % 4294967296] = m := by simp only [val]; omega
set_option maxHeartbeats 400000 in
theorem ref_FromInt (n : Int) (w : World) (h : -9223372036854775808 < n) (h' : n < 9223372036854775808) :
  Calls Tryz.prog 124 #[.int .i64 n] w (GivesZ [] w (decide (n < 0)) n.natAbs) := by
 by_cases hneg : n < 0
 ·obtain ⟨m, rfl⟩ : ∃ m : Nat, n = -(m : Int) := ⟨n.natAbs, by omega⟩
  have hm : m < 9223372036854775808 := by omega
  have H := hid (wrapneg_u64 m hm (by omega))
  rw [show (-(m : Int)).natAbs = m from by omega, decide_eq_true hneg]
  go_enter Tryz.func124, Tryz.ntmps124
  go_wp2_with fail
  rw [H.out, show ((m : Int) / 4294967296 % 4294967296) = ((m / 4294967296 % 4294967296 : Nat) : Int) from by omega, show ((m : Int) % 4294967296) = ((m % 4294967296 : Nat) : Int) from by omega]
  with_reducible refine (ref_big true _ [m % 4294967296, m / 4294967296 % 4294967296] _ (Rd32.new2 _ _ _ _ _ (by simp) (by omega) (by omega))).mono ?_
  rintro e w1 ⟨a, c, rfl, hv, ho, hb⟩
  rw [val_two m hm] at hv ho
  have HV := hid hv
  have HO := hid ho
  clear hv ho
  rw [val_two m hm]
  obtain ⟨hc, hf⟩ := bcell hb
  have q0 : w1.cell? ⟨w.heap.size, 0, none⟩ = some (.bool false) := by rw [hc _ _ (by simp; omega)]; simp
  have q1 : w1.cell? ⟨w.heap.size, 1, none⟩ = some (.slice none 0 0) := by rw [hc _ _ (by simp; omega)]; simp
  have hz := hb.size
  simp at hz
  have hoff : Off w.heap.size (.slice a (dig m).length c) := HO.out _ (by simp; omega) (fun u hu => by simp at hu; subst hu; exact Off.of_lt (by omega))
  have HOF := hid hoff
  clear hoff
  go_wp2
  refine bodyPost_ret (by simp [results, Tryz.results124, go_sem, q0, q1]; rfl) rfl ?_
  exact ⟨_, _, by rw [show decide (0 < m) = true from decide_eq_true (by omega)]; rfl, (HV.out.setCell HOF.out).setCell HOF.out, fun R hR _ => HO.out R (by simp; omega) (fun u hu => by simp at hu; subst hu; exact Off.of_lt (by omega)), by repeat' (first | (with_reducible exact Below.refl _ _) | (with_reducible assumption) | (with_reducible refine below_drewN ?_) | (with_reducible refine Below.alloc ?_ ?_ _) | (with_reducible refine Below.drew ?_) | (with_reducible refine Below.setCell ?_ ?_ _) | (with_reducible refine Below.trans ?_ (Below.mono (by with_reducible assumption) ?_)) | go_size)⟩
 ·obtain ⟨m, rfl⟩ : ∃ m : Nat, n = (m : Int) := ⟨n.natAbs, by omega⟩
  have hm : m < 9223372036854775808 := by omega
  rw [show (m : Int).natAbs = m from by omega, decide_eq_false hneg]
  go_enter Tryz.func124, Tryz.ntmps124
  go_wp2_with fail
  rw [show ((m : Int) / 4294967296) = ((m / 4294967296 : Nat) : Int) from by omega, show ((m : Int) % 4294967296) = ((m % 4294967296 : Nat) : Int) from by omega]
  with_reducible refine (ref_big false _ [m % 4294967296, m / 4294967296] _ (Rd32.new2 _ _ _ _ _ (by simp) (by omega) (by omega))).mono ?_
  rintro e w1 ⟨a, c, rfl, hv, ho, hb⟩
  rw [val_two' m] at hv ho
  have HV := hid hv
  have HO := hid ho
  clear hv ho
  rw [val_two' m]
  obtain ⟨hc, hf⟩ := bcell hb
  have q0 : w1.cell? ⟨w.heap.size, 0, none⟩ = some (.bool false) := by rw [hc _ _ (by simp; omega)]; simp
  have q1 : w1.cell? ⟨w.heap.size, 1, none⟩ = some (.slice none 0 0) := by rw [hc _ _ (by simp; omega)]; simp
  have hz := hb.size
  simp at hz
  have hoff : Off w.heap.size (.slice a (dig m).length c) := HO.out _ (by simp; omega) (fun u hu => by simp at hu; subst hu; exact Off.of_lt (by omega))
  have HOF := hid hoff
  clear hoff
  go_wp2
  refine bodyPost_ret (by simp [results, Tryz.results124, go_sem, q0, q1]; rfl) rfl ?_
  exact ⟨_, _, rfl, (HV.out.setCell HOF.out).setCell HOF.out, fun R hR _ => HO.out R (by simp; omega) (fun u hu => by simp at hu; subst hu; exact Off.of_lt (by omega)), by repeat' (first | (with_reducible exact Below.refl _ _) | (with_reducible assumption) | (with_reducible refine below_drewN ?_) | (with_reducible refine Below.alloc ?_ ?_ _) | (with_reducible refine Below.drew ?_) | (with_reducible refine Below.setCell ?_ ?_ _) | (with_reducible refine Below.trans ?_ (Below.mono (by with_reducible assumption) ?_)) | go_size)⟩
end Go.Proofs.YthblaeleogdfpaaGreatDoor.Fr
