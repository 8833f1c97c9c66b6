/- Contracts of relation.Turn and of the reference's Turn. Contracts of relation.Contained and of the reference's Contained where something is common, and of graph.enough. DERIVED: THE SHELF's CONTRACTS AT THIS DUMP, IN PLAIN WORDS (tools/lay-plain.mjs out of 'YtaajpliifdlokaaGreatDoorShSL.lean', which tools/lay-shelf.mjs wrote): THE SAME DECLARATIONS UNDER THE SAME NAMES: 'import', 'namespace', 'open', 'def', 'theorem' AND NOTHING ELSE: no command of the shelf's: FOR A HAND-IN. Each laying: the table of numbers ('.._ren') and one theorem, a field a fact of the dump's own or the kernel's comparison; each contract: ONE APPLICATION. -/
import Derived.Test.YtaajpliifdlokaaGreatDoorGFraw
import Derived.Deep.RegionHeld3
import Derived.Test.YtaajpliifdlokaaGreatDoorGFrar
import Derived.Shelf.SlSortCmp.WholeK
import Derived.Ground.SlsfProg
import Derived.Test.YtaajpliifdlokaaGreatDoorProg
set_option linter.unusedVariables false
set_option linter.unusedSimpArgs false
namespace Go.Proofs.YtaajpliifdlokaaGreatDoor
open Go.RowKit
set_option maxRecDepth 100000 in
set_option maxHeartbeats 1000000 in
theorem rel_Turn (r : Rl) (w : World) : Calls Tryz.prog 48 #[r.val] w (Ret w r.turn.val) := by
  obtain ⟨ta, ca, tb, cb, co, oa, ob, ma, mb, la, lb⟩ := r
  simp only [Rl.val, Rl.cs, Rl.turn]
  go_enter Tryz.func48, Tryz.ntmps48
  go_wp2
  refine bodyPost_ret (by simp [results, Tryz.results48, go_sem]; rfl) rfl ?_
  exact ⟨rfl, by repeat' (first | (with_reducible exact Below.refl _ _) | (with_reducible assumption) | (with_reducible refine below_drewN ?_) | (with_reducible refine Below.alloc ?_ ?_ _) | (with_reducible refine Below.drew ?_) | (with_reducible refine Below.setCell ?_ ?_ _) | (with_reducible refine Below.trans ?_ (Below.mono (by with_reducible assumption) ?_)) | go_size)⟩
set_option maxRecDepth 100000 in
set_option maxHeartbeats 1000000 in
theorem ref_Turn (r : Rl) (w : World) : Calls Tryz.prog 17 #[r.val] w (Ret w r.turn.val) := by
  obtain ⟨ta, ca, tb, cb, co, oa, ob, ma, mb, la, lb⟩ := r
  simp only [Rl.val, Rl.cs, Rl.turn]
  go_enter Tryz.func17, Tryz.ntmps17
  go_wp2
  refine bodyPost_ret (by simp [results, Tryz.results17, go_sem]; rfl) rfl ?_
  exact ⟨rfl, by repeat' (first | (with_reducible exact Below.refl _ _) | (with_reducible assumption) | (with_reducible refine below_drewN ?_) | (with_reducible refine Below.alloc ?_ ?_ _) | (with_reducible refine Below.drew ?_) | (with_reducible refine Below.setCell ?_ ?_ _) | (with_reducible refine Below.trans ?_ (Below.mono (by with_reducible assumption) ?_)) | go_size)⟩
end Go.Proofs.YtaajpliifdlokaaGreatDoor

namespace Go.Proofs.YtaajpliifdlokaaGreatDoor.Fr
open Go.RowKit
set_option maxRecDepth 100000 in
set_option maxHeartbeats 4000000 in
theorem rel_Contained (ta ca tb cb : Int) (c o : Nat) (ob ma mb la lb : Int) (w : World) (h0 : 0 < c) (hl : c + o < 4294967296) :
    Calls Tryz.prog 88 #[(⟨ta, ca, tb, cb, (c : Int), (o : Int), ob, ma, mb, la, lb⟩ : Rl).val] w (GivesF w false (c / Nat.gcd c (c + o)) ((c + o) / Nat.gcd c (c + o))) := by
  have HOF : Hid (∀ W, Calls Tryz.prog 41 #[.int .i64 (c : Int), .int .i64 ((c : Int) + (o : Int))] W (GivesF W false (c / Nat.gcd c (c + o)) ((c + o) / Nat.gcd c (c + o)))) := hid (fun W => by
    have h := num_Of c (c + o) W (by omega) (by omega) (by omega)
    rw [Int.natCast_add] at h
    exact h)
  generalize c / Nat.gcd c (c + o) = p at *
  generalize (c + o) / Nat.gcd c (c + o) = q at *
  have q0 : ¬ ((c : Int) + (o : Int) = 0) := by omega
  have q1 : ((c : Int) + (o : Int) == 0) = false := beq_false_of_ne q0
  simp only [Rl.val, Rl.cs]
  go_enter Tryz.func88, Tryz.ntmps88
  go_wp2_with fail
  refine (HOF.out _).mono ?_
  rintro e w3 ⟨a3, c3, a4, c4, rfl, hN, hb3⟩
  have HN := hid hN
  have HB3 := hid hb3
  have hz3 := hb3.size
  have m0 := cell_later hb3 (a := ⟨w.heap.size + 1, 0, none⟩) (v := .bool false) (by go_cell)
  have m1 := cell_later hb3 (a := ⟨w.heap.size + 1, 1, none⟩) (v := .slice none 0 0) (by go_cell)
  have m2 := cell_later hb3 (a := ⟨w.heap.size + 1, 2, none⟩) (v := .bool false) (by go_cell)
  have m3 := cell_later hb3 (a := ⟨w.heap.size + 1, 3, none⟩) (v := .slice none 0 0) (by go_cell)
  have fm0 := frozen_later hb3 (a := ⟨w.heap.size + 1, 0, none⟩) (v := .bool false) (by go_cell) (by simp [go_sem])
  have fm1 := frozen_later hb3 (a := ⟨w.heap.size + 1, 1, none⟩) (v := .slice none 0 0) (by go_cell) (by simp [go_sem])
  have fm2 := frozen_later hb3 (a := ⟨w.heap.size + 1, 2, none⟩) (v := .bool false) (by go_cell) (by simp [go_sem])
  have fm3 := frozen_later hb3 (a := ⟨w.heap.size + 1, 3, none⟩) (v := .slice none 0 0) (by go_cell) (by simp [go_sem])
  clear hN hb3
  simp at hz3
  have hlt : w.heap.size + 1 < w3.heap.size := by omega
  have hne : w.heap.size + 1 ≠ w3.heap.size := by omega
  go_wp2
  refine bodyPost_ret (by simp [results, Tryz.results88, go_sem, m0, m1, m2, m3, hne, hlt]; rfl) rfl ?_
  exact ⟨a3, c3, a4, c4, by first | rfl | simp, ((((HN.out.setCell (by simp)).setCell (by simp)).setCell (by simp)).setCell (by simp)).mono (by simp; omega), by have h3 := HB3.out; repeat' (first | (with_reducible exact Below.refl _ _) | (with_reducible assumption) | (with_reducible refine below_drewN ?_) | (with_reducible refine Below.alloc ?_ ?_ _) | (with_reducible refine Below.drew ?_) | (with_reducible refine Below.setCell ?_ ?_ _) | (with_reducible refine Below.trans ?_ (Below.mono (by with_reducible assumption) ?_)) | go_size)⟩
set_option maxRecDepth 100000 in
set_option maxHeartbeats 4000000 in
theorem ref_Contained (ta ca tb cb : Int) (c o : Nat) (ob ma mb la lb : Int) (w : World) (h0 : 0 < c) (hl : c + o < 4294967296) :
    Calls Tryz.prog 16 #[(⟨ta, ca, tb, cb, (c : Int), (o : Int), ob, ma, mb, la, lb⟩ : Rl).val] w (GivesF w false (c / Nat.gcd c (c + o)) ((c + o) / Nat.gcd c (c + o))) := by
  have HOF : Hid (∀ W, Calls Tryz.prog 12 #[.int .i64 (c : Int), .int .i64 ((c : Int) + (o : Int))] W (GivesF W false (c / Nat.gcd c (c + o)) ((c + o) / Nat.gcd c (c + o)))) := hid (fun W => by
    have h := ref_Part c (c + o) W (by omega) (by omega) (by omega)
    rw [Int.natCast_add] at h
    exact h)
  generalize c / Nat.gcd c (c + o) = p at *
  generalize (c + o) / Nat.gcd c (c + o) = q at *
  have q0 : ¬ ((c : Int) + (o : Int) = 0) := by omega
  have q1 : ((c : Int) + (o : Int) == 0) = false := beq_false_of_ne q0
  simp only [Rl.val, Rl.cs]
  go_enter Tryz.func16, Tryz.ntmps16
  go_wp2_with fail
  refine (HOF.out _).mono ?_
  rintro e w3 ⟨a3, c3, a4, c4, rfl, hN, hb3⟩
  have HN := hid hN
  have HB3 := hid hb3
  have hz3 := hb3.size
  have m0 := cell_later hb3 (a := ⟨w.heap.size + 1, 0, none⟩) (v := .bool false) (by go_cell)
  have m1 := cell_later hb3 (a := ⟨w.heap.size + 1, 1, none⟩) (v := .slice none 0 0) (by go_cell)
  have m2 := cell_later hb3 (a := ⟨w.heap.size + 1, 2, none⟩) (v := .bool false) (by go_cell)
  have m3 := cell_later hb3 (a := ⟨w.heap.size + 1, 3, none⟩) (v := .slice none 0 0) (by go_cell)
  have fm0 := frozen_later hb3 (a := ⟨w.heap.size + 1, 0, none⟩) (v := .bool false) (by go_cell) (by simp [go_sem])
  have fm1 := frozen_later hb3 (a := ⟨w.heap.size + 1, 1, none⟩) (v := .slice none 0 0) (by go_cell) (by simp [go_sem])
  have fm2 := frozen_later hb3 (a := ⟨w.heap.size + 1, 2, none⟩) (v := .bool false) (by go_cell) (by simp [go_sem])
  have fm3 := frozen_later hb3 (a := ⟨w.heap.size + 1, 3, none⟩) (v := .slice none 0 0) (by go_cell) (by simp [go_sem])
  clear hN hb3
  simp at hz3
  have hlt : w.heap.size + 1 < w3.heap.size := by omega
  have hne : w.heap.size + 1 ≠ w3.heap.size := by omega
  go_wp2
  refine bodyPost_ret (by simp [results, Tryz.results16, go_sem, m0, m1, m2, m3, hne, hlt]; rfl) rfl ?_
  exact ⟨a3, c3, a4, c4, by first | rfl | simp, ((((HN.out.setCell (by simp)).setCell (by simp)).setCell (by simp)).setCell (by simp)).mono (by simp; omega), by have h3 := HB3.out; repeat' (first | (with_reducible exact Below.refl _ _) | (with_reducible assumption) | (with_reducible refine below_drewN ?_) | (with_reducible refine Below.alloc ?_ ?_ _) | (with_reducible refine Below.drew ?_) | (with_reducible refine Below.setCell ?_ ?_ _) | (with_reducible refine Below.trans ?_ (Below.mono (by with_reducible assumption) ?_)) | go_size)⟩
def enR (c o1 o2 p q : Nat) : Bool := decide (0 < c) && (decide (p * (c + o1) ≤ c * q) || decide (p * (c + o2) ≤ c * q))
theorem share_sgn {c d p q : Nat} (hd : 0 < d) : (0 : Int) ≤ sgn (c / Nat.gcd c d * q) (p * (d / Nat.gcd c d)) ↔ p * d ≤ c * q := by
  have hg : 0 < Nat.gcd c d := Nat.gcd_pos_of_pos_right _ hd
  have e1 : c / Nat.gcd c d * Nat.gcd c d = c := Nat.div_mul_cancel (Nat.gcd_dvd_left _ _)
  have e2 : d / Nat.gcd c d * Nat.gcd c d = d := Nat.div_mul_cancel (Nat.gcd_dvd_right _ _)
  generalize c / Nat.gcd c d = x at *
  generalize d / Nat.gcd c d = y at *
  generalize Nat.gcd c d = g at *
  have h1 : p * d = p * y * g := by rw [← e2, Nat.mul_assoc]
  have h2 : c * q = x * q * g := by rw [← e1, Nat.mul_assoc, Nat.mul_comm g q, ← Nat.mul_assoc]
  rw [h1, h2]
  generalize x * q = X
  generalize p * y = Y
  rw [Nat.mul_le_mul_right_iff hg]
  rcases Nat.lt_trichotomy X Y with h | h | h
  · rw [sgn_lt h]; omega
  · rw [show X = Y from h, sgn_self]; omega
  · rw [sgn_gt h]; omega
set_option maxRecDepth 100000 in
set_option maxHeartbeats 8000000 in
theorem graph_enough (ta ca tb cb : Int) (c o1 o2 : Nat) (ma mb la lb : Int) (u : Value) (p q : Nat) (w : World) (hl1 : c + o1 < 4294967296) (hl2 : c + o2 < 4294967296) (hu : RdF w u false p q) (s : Sml p q) (h1 : OneAt w) :
  Calls Tryz.prog 43 #[(⟨ta, ca, tb, cb, (c : Int), (o1 : Int), (o2 : Int), ma, mb, la, lb⟩ : Rl).val, u] w (Ret w (.bool (enR c o1 o2 p q))) := by
 have HC1 := hid (fun W (h0 : 0 < c) => rel_Contained ta ca tb cb c o1 (o2 : Int) ma mb la lb W h0 hl1)
 have HC2 := hid (fun W (h0 : 0 < c) => rel_Contained tb cb ta ca c o2 (o1 : Int) mb ma lb la W h0 hl2)
 have HTU := hid (fun W => rel_Turn ⟨ta, ca, tb, cb, (c : Int), (o1 : Int), (o2 : Int), ma, mb, la, lb⟩ W)
 have HM1 := hid (fun W v (h0 : 0 < c) (hW : Below w.heap.size w W) (hv : RdF W v false (c / Nat.gcd c (c + o1)) ((c + o1) / Nat.gcd c (c + o1))) => frac_Cmp v u _ _ p q W hv (hu.kept hW) (sml_of (by omega) (by omega) hl1) s (h1.below hW))
 have HM2 := hid (fun W v (h0 : 0 < c) (hW : Below w.heap.size w W) (hv : RdF W v false (c / Nat.gcd c (c + o2)) ((c + o2) / Nat.gcd c (c + o2))) => frac_Cmp v u _ _ p q W hv (hu.kept hW) (sml_of (by omega) (by omega) hl2) s (h1.below hW))
 have HS1 := hid (fun (h0 : 0 < c) => @share_sgn c (c + o1) p q (by omega))
 have HS2 := hid (fun (h0 : 0 < c) => @share_sgn c (c + o2) p q (by omega))
 obtain ⟨a1, c1, b1, d1, rfl, -, -⟩ := hu
 clear s h1
 unfold enR
 generalize c / Nat.gcd c (c + o1) = x1 at *
 generalize (c + o1) / Nat.gcd c (c + o1) = y1 at *
 generalize c / Nat.gcd c (c + o2) = x2 at *
 generalize (c + o2) / Nat.gcd c (c + o2) = y2 at *
 generalize sgn (x1 * q) (p * y1) = g1 at *
 generalize sgn (x2 * q) (p * y2) = g2 at *
 generalize p * (c + o1) = P1 at *
 generalize p * (c + o2) = P2 at *
 generalize c * q = Q at *
 generalize (dig p).length = l1 at *
 generalize (dig q).length = k1 at *
 simp only [Rl.val, Rl.cs, Rl.turn] at HC1 HC2 HTU ⊢
 have hx1 := (BoxN.new w #[.int .i64 ta, .int .i64 ca, .int .i64 tb, .int .i64 cb, .int .i64 (c : Int), .int .i64 (o1 : Int), .int .i64 (o2 : Int), .int .i64 ma, .int .i64 mb, .int .i64 la, .int .i64 lb] 44).alloc (.cells #[.bool false, .slice a1 l1 c1, .bool false, .slice b1 k1 d1] 33)
 have hx2 := BoxN.new (w.alloc (.cells #[.int .i64 ta, .int .i64 ca, .int .i64 tb, .int .i64 cb, .int .i64 (c : Int), .int .i64 (o1 : Int), .int .i64 (o2 : Int), .int .i64 ma, .int .i64 mb, .int .i64 la, .int .i64 lb] 44)) #[.bool false, .slice a1 l1 c1, .bool false, .slice b1 k1 d1] 33
 have hs0 := ((Below.refl w.heap.size w).alloc (Nat.le_refl _) (.cells #[.int .i64 ta, .int .i64 ca, .int .i64 tb, .int .i64 cb, .int .i64 (c : Int), .int .i64 (o1 : Int), .int .i64 (o2 : Int), .int .i64 ma, .int .i64 mb, .int .i64 la, .int .i64 lb] 44)).alloc (by simp) (.cells #[.bool false, .slice a1 l1 c1, .bool false, .slice b1 k1 d1] 33)
 simp only [World.size_alloc] at hx2
 obtain ⟨W0, hW0⟩ : ∃ W, W = (w.alloc (.cells #[.int .i64 ta, .int .i64 ca, .int .i64 tb, .int .i64 cb, .int .i64 (c : Int), .int .i64 (o1 : Int), .int .i64 (o2 : Int), .int .i64 ma, .int .i64 mb, .int .i64 la, .int .i64 lb] 44)).alloc (.cells #[.bool false, .slice a1 l1 c1, .bool false, .slice b1 k1 d1] 33) := ⟨_, rfl⟩
 rw [← hW0] at hx1 hx2 hs0
 have HS0 := hid hs0
 have HG := hid (fun W (hW : Below W0.heap.size W0 W) => (⟨(hx1.below hW hx1.lt).cell 0 rfl, (hx1.below hW hx1.lt).cell 1 rfl, (hx1.below hW hx1.lt).cell 2 rfl, (hx1.below hW hx1.lt).cell 3 rfl, (hx1.below hW hx1.lt).cell 4 rfl, (hx1.below hW hx1.lt).cell 5 rfl, (hx1.below hW hx1.lt).cell 6 rfl, (hx1.below hW hx1.lt).cell 7 rfl, (hx1.below hW hx1.lt).cell 8 rfl, (hx1.below hW hx1.lt).cell 9 rfl, (hx1.below hW hx1.lt).cell 10 rfl, (hx2.below hW hx2.lt).cell 0 rfl, (hx2.below hW hx2.lt).cell 1 rfl, (hx2.below hW hx2.lt).cell 2 rfl, (hx2.below hW hx2.lt).cell 3 rfl⟩ : W.cell? ⟨w.heap.size, 0, none⟩ = some (.int .i64 ta) ∧ W.cell? ⟨w.heap.size, 1, none⟩ = some (.int .i64 ca) ∧ W.cell? ⟨w.heap.size, 2, none⟩ = some (.int .i64 tb) ∧ W.cell? ⟨w.heap.size, 3, none⟩ = some (.int .i64 cb) ∧ W.cell? ⟨w.heap.size, 4, none⟩ = some (.int .i64 (c : Int)) ∧ W.cell? ⟨w.heap.size, 5, none⟩ = some (.int .i64 (o1 : Int)) ∧ W.cell? ⟨w.heap.size, 6, none⟩ = some (.int .i64 (o2 : Int)) ∧ W.cell? ⟨w.heap.size, 7, none⟩ = some (.int .i64 ma) ∧ W.cell? ⟨w.heap.size, 8, none⟩ = some (.int .i64 mb) ∧ W.cell? ⟨w.heap.size, 9, none⟩ = some (.int .i64 la) ∧ W.cell? ⟨w.heap.size, 10, none⟩ = some (.int .i64 lb) ∧ W.cell? ⟨w.heap.size + 1, 0, none⟩ = some (.bool false) ∧ W.cell? ⟨w.heap.size + 1, 1, none⟩ = some (.slice a1 l1 c1) ∧ W.cell? ⟨w.heap.size + 1, 2, none⟩ = some (.bool false) ∧ W.cell? ⟨w.heap.size + 1, 3, none⟩ = some (.slice b1 k1 d1)))
 have a4 := hx1.cell 4 rfl
 rw [hW0] at a4
 clear hx1 hx2 hs0
 go_enter Tryz.func43, Tryz.ntmps43
 by_cases hc : 0 < c
 ·have hci : ¬ ((c : Int) = 0) := by omega
  have hcb : ((c : Int) == 0) = false := beq_false_of_ne hci
  have HD := hid (show Below W0.heap.size W0 W0.drew from (Below.refl W0.heap.size W0).drew)
  rw [show decide (0 < c) = true from decide_eq_true hc, Bool.true_and]
  go_upto_region 3 with fail
  rw [← hW0]
  clear hW0 a4
  by_cases hp : P1 ≤ Q
  ·have hg1 : (0 : Int) ≤ g1 := (HS1.out hc).2 hp
   have hgd : decide ((0 : Int) ≤ g1) = true := decide_eq_true hg1
   refine wp_region_held_drew (S := fun W => W.cell? ⟨w.heap.size, 0, none⟩ = some (.int .i64 ta) ∧ W.cell? ⟨w.heap.size, 1, none⟩ = some (.int .i64 ca) ∧ W.cell? ⟨w.heap.size, 2, none⟩ = some (.int .i64 tb) ∧ W.cell? ⟨w.heap.size, 3, none⟩ = some (.int .i64 cb) ∧ W.cell? ⟨w.heap.size, 4, none⟩ = some (.int .i64 (c : Int)) ∧ W.cell? ⟨w.heap.size, 5, none⟩ = some (.int .i64 (o1 : Int)) ∧ W.cell? ⟨w.heap.size, 6, none⟩ = some (.int .i64 (o2 : Int)) ∧ W.cell? ⟨w.heap.size, 7, none⟩ = some (.int .i64 ma) ∧ W.cell? ⟨w.heap.size, 8, none⟩ = some (.int .i64 mb) ∧ W.cell? ⟨w.heap.size, 9, none⟩ = some (.int .i64 la) ∧ W.cell? ⟨w.heap.size, 10, none⟩ = some (.int .i64 lb) ∧ W.cell? ⟨w.heap.size + 1, 0, none⟩ = some (.bool false) ∧ W.cell? ⟨w.heap.size + 1, 1, none⟩ = some (.slice a1 l1 c1) ∧ W.cell? ⟨w.heap.size + 1, 2, none⟩ = some (.bool false) ∧ W.cell? ⟨w.heap.size + 1, 3, none⟩ = some (.slice b1 k1 d1)) (by kernel_rfl) (HG.out _ HD.out) (fun hHeld => ?_)
   refine wpAnyH_take (i := 0) (v := ?_) (by simp only [List.getElem?_toArray, List.getElem?_cons_zero, List.getElem?_cons_succ]; rfl) (by kernel_rfl) (by kernel_rfl) (by kernel_rfl) (by intro _ _ _ h; exact h) (Or.inl ⟨by rfl, ?_⟩) (by assumption) ?_
   rotate_left
   ·(intro w' hSw; (try dsimp only at hSw); go_simp) <;> with_reducible rfl
   try simp only [Act.put, List.setIfInBounds_toArray, List.set_cons_zero, List.set_cons_succ]
   refine wpAnyH_take (i := 2) (v := ?_) (by simp only [List.getElem?_toArray, List.getElem?_cons_zero, List.getElem?_cons_succ]; rfl) (by kernel_rfl) (by kernel_rfl) (by kernel_rfl) (by intro _ _ _ h; exact h) (Or.inl ⟨by rfl, ?_⟩) (by assumption) ?_
   rotate_left
   ·(intro w' hSw; (try dsimp only at hSw); go_simp) <;> with_reducible rfl
   try simp only [Act.put, List.setIfInBounds_toArray, List.set_cons_zero, List.set_cons_succ]
   refine wpAnyH_ready (rs := [1]) (by kernel_rfl) (by simp) ?_
   refine AllReadyH.cons (by simp only [List.getElem?_toArray, List.getElem?_cons_zero, List.getElem?_cons_succ]; rfl) (fun K hK => ?_) AllReadyH.nil
   go_simp
   go_at_call 88
   go_must ((with_reducible refine (HC1.out _ hc).mono ?_); rintro e w5 ⟨a5, c5, b5, d5, rfl, hN, hb5⟩; have HD5 := hid (belowT HD.out hb5); have HN5 := hid (hN.rd false); clear hN hb5)
   (try go_wp2_with fail)
   refine hK.out _ _ (HG.out _ HD5.out) (fun hHeld => ?_)
   clear hK K
   try simp only [Act.put, List.setIfInBounds_toArray, List.set_cons_zero, List.set_cons_succ]
   refine wpAnyH_ready (rs := [3]) (by kernel_rfl) (by simp) ?_
   refine AllReadyH.cons (by simp only [List.getElem?_toArray, List.getElem?_cons_zero, List.getElem?_cons_succ]; rfl) (fun K hK => ?_) AllReadyH.nil
   go_simp
   go_at_call 40
   go_must ((with_reducible refine (HM1.out _ _ hc (belowT HS0.out HD5.out) HN5.out).mono ?_); rintro e w6 ⟨rfl, hb6⟩; have HD6 := hid (belowT HD5.out hb6); clear hb6)
   (try go_wp2_with fail)
   refine hK.out _ _ (HG.out _ HD6.out) (fun hHeld => ?_)
   clear hK K
   try simp only [Act.put, List.setIfInBounds_toArray, List.set_cons_zero, List.set_cons_succ]
   refine wpAnyH_take (i := 4) (v := ?_) (by simp only [List.getElem?_toArray, List.getElem?_cons_zero, List.getElem?_cons_succ]; rfl) (by kernel_rfl) (by kernel_rfl) (by kernel_rfl) (by intro _ _ _ h; exact h) (Or.inl ⟨by rfl, ?_⟩) (by assumption) ?_
   rotate_left
   ·(intro w' hSw; (try dsimp only at hSw); go_simp) <;> with_reducible rfl
   try simp only [Act.put, List.setIfInBounds_toArray, List.set_cons_zero, List.set_cons_succ]
   refine wpAnyH_take (i := 5) (v := ?_) (by simp only [List.getElem?_toArray, List.getElem?_cons_zero, List.getElem?_cons_succ]; rfl) (by kernel_rfl) (by kernel_rfl) (by kernel_rfl) (by intro _ _ _ h; exact h) (Or.inl ⟨by rfl, ?_⟩) (by assumption) ?_
   rotate_left
   ·(intro w' hSw; (try dsimp only at hSw); go_simp) <;> with_reducible rfl
   try simp only [Act.put, List.setIfInBounds_toArray, List.set_cons_zero, List.set_cons_succ]
   refine wpAnyH_take (i := 6) (v := undef) (by simp only [List.getElem?_toArray, List.getElem?_cons_zero, List.getElem?_cons_succ]; rfl) (by kernel_rfl) (by kernel_rfl) (by kernel_rfl) (by intro _ _ _ h; exact h) (Or.inr ⟨by rfl, rfl⟩) (by assumption) ?_
   try simp only [Act.put, List.setIfInBounds_toArray, List.set_cons_zero, List.set_cons_succ]
   refine wpAnyH_take (i := 7) (v := undef) (by simp only [List.getElem?_toArray, List.getElem?_cons_zero, List.getElem?_cons_succ]; rfl) (by kernel_rfl) (by kernel_rfl) (by kernel_rfl) (by intro _ _ _ h; exact h) (Or.inr ⟨by rfl, rfl⟩) (by assumption) ?_
   try simp only [Act.put, List.setIfInBounds_toArray, List.set_cons_zero, List.set_cons_succ]
   refine wpAnyH_take (i := 8) (v := undef) (by simp only [List.getElem?_toArray, List.getElem?_cons_zero, List.getElem?_cons_succ]; rfl) (by kernel_rfl) (by kernel_rfl) (by kernel_rfl) (by intro _ _ _ h; exact h) (Or.inr ⟨by rfl, rfl⟩) (by assumption) ?_
   try simp only [Act.put, List.setIfInBounds_toArray, List.set_cons_zero, List.set_cons_succ]
   refine wpAnyH_take (i := 9) (v := undef) (by simp only [List.getElem?_toArray, List.getElem?_cons_zero, List.getElem?_cons_succ]; rfl) (by kernel_rfl) (by kernel_rfl) (by kernel_rfl) (by intro _ _ _ h; exact h) (Or.inr ⟨by rfl, rfl⟩) (by assumption) ?_
   try simp only [Act.put, List.setIfInBounds_toArray, List.set_cons_zero, List.set_cons_succ]
   refine wpAnyH_take (i := 10) (v := undef) (by simp only [List.getElem?_toArray, List.getElem?_cons_zero, List.getElem?_cons_succ]; rfl) (by kernel_rfl) (by kernel_rfl) (by kernel_rfl) (by intro _ _ _ h; exact h) (Or.inr ⟨by rfl, rfl⟩) (by assumption) ?_
   try simp only [Act.put, List.setIfInBounds_toArray, List.set_cons_zero, List.set_cons_succ]
   refine wpAnyH_take (i := 11) (v := undef) (by simp only [List.getElem?_toArray, List.getElem?_cons_zero, List.getElem?_cons_succ]; rfl) (by kernel_rfl) (by kernel_rfl) (by kernel_rfl) (by intro _ _ _ h; exact h) (Or.inr ⟨by rfl, rfl⟩) (by assumption) ?_
   try simp only [Act.put, List.setIfInBounds_toArray, List.set_cons_zero, List.set_cons_succ]
   refine wpAnyH_take (i := 12) (v := ?_) (by simp only [List.getElem?_toArray, List.getElem?_cons_zero, List.getElem?_cons_succ]; rfl) (by kernel_rfl) (by kernel_rfl) (by kernel_rfl) (by intro _ _ _ h; exact h) (Or.inl ⟨by rfl, ?_⟩) (by assumption) ?_
   rotate_left
   ·(intro w' hSw; (try dsimp only at hSw); go_simp) <;> with_reducible rfl
   try simp only [Act.put, List.setIfInBounds_toArray, List.set_cons_zero, List.set_cons_succ]
   refine wpAnyH_take (i := 13) (v := ?_) (by simp only [List.getElem?_toArray, List.getElem?_cons_zero, List.getElem?_cons_succ]; rfl) (by kernel_rfl) (by kernel_rfl) (by kernel_rfl) (by intro _ _ _ h; exact h) (Or.inl ⟨by rfl, ?_⟩) (by assumption) ?_
   rotate_left
   ·(intro w' hSw; (try dsimp only at hSw); go_simp) <;> with_reducible rfl
   try simp only [Act.put, List.setIfInBounds_toArray, List.set_cons_zero, List.set_cons_succ]
   refine wpAnyH_done (by kernel_rfl) ?_ _
   go_wp2
   go_ret
   exact ⟨by rw [decide_eq_true hp, Bool.true_or]; rfl, belowT HS0.out HD6.out⟩
  ·have hg1 : ¬ (0 : Int) ≤ g1 := fun h => hp ((HS1.out hc).1 h)
   have hgd : decide ((0 : Int) ≤ g1) = false := decide_eq_false hg1
   have hg2 : decide ((0 : Int) ≤ g2) = decide (P2 ≤ Q) := by
    by_cases h : P2 ≤ Q
    ·rw [decide_eq_true h, decide_eq_true ((HS2.out hc).2 h)]
    ·rw [decide_eq_false h, decide_eq_false fun e => h ((HS2.out hc).1 e)]
   have HG2 := hid hg2
   clear hg2
   go_region_held3 (fun W => W.cell? ⟨w.heap.size, 0, none⟩ = some (.int .i64 ta) ∧ W.cell? ⟨w.heap.size, 1, none⟩ = some (.int .i64 ca) ∧ W.cell? ⟨w.heap.size, 2, none⟩ = some (.int .i64 tb) ∧ W.cell? ⟨w.heap.size, 3, none⟩ = some (.int .i64 cb) ∧ W.cell? ⟨w.heap.size, 4, none⟩ = some (.int .i64 (c : Int)) ∧ W.cell? ⟨w.heap.size, 5, none⟩ = some (.int .i64 (o1 : Int)) ∧ W.cell? ⟨w.heap.size, 6, none⟩ = some (.int .i64 (o2 : Int)) ∧ W.cell? ⟨w.heap.size, 7, none⟩ = some (.int .i64 ma) ∧ W.cell? ⟨w.heap.size, 8, none⟩ = some (.int .i64 mb) ∧ W.cell? ⟨w.heap.size, 9, none⟩ = some (.int .i64 la) ∧ W.cell? ⟨w.heap.size, 10, none⟩ = some (.int .i64 lb) ∧ W.cell? ⟨w.heap.size + 1, 0, none⟩ = some (.bool false) ∧ W.cell? ⟨w.heap.size + 1, 1, none⟩ = some (.slice a1 l1 c1) ∧ W.cell? ⟨w.heap.size + 1, 2, none⟩ = some (.bool false) ∧ W.cell? ⟨w.heap.size + 1, 3, none⟩ = some (.slice b1 k1 d1))
    (first | exact HG.out _ HD.out | exact HG.out _ HD5.out | exact HG.out _ HD6.out | exact HG.out _ HD7.out | exact HG.out _ HD8.out | exact HG.out _ HD9.out | go_keep)
    (first
     | (go_at_call 88; go_must (first
       | ((with_reducible refine (HC1.out _ hc).mono ?_); rintro e w5 ⟨a5, c5, b5, d5, rfl, hN, hb5⟩; have HD5 := hid (belowT HD.out hb5); have HN5 := hid (hN.rd false); clear hN hb5)
       | ((with_reducible refine (HC2.out _ hc).mono ?_); rintro e w8 ⟨a8, c8, b8, d8, rfl, hN, hb8⟩; have HD8 := hid (belowT HD7.out hb8); have HN8 := hid (hN.rd false); clear hN hb8)))
     | (go_at_call 48; go_must ((with_reducible refine (HTU.out _).mono ?_); rintro e w7 ⟨rfl, hb7⟩; have HD7 := hid (belowT HD6.out hb7); clear hb7))
     | (go_at_call 40; go_must (first
       | ((with_reducible refine (HM2.out _ _ hc (belowT HS0.out HD8.out) HN8.out).mono ?_); rintro e w9 ⟨rfl, hb9⟩; have HD9 := hid (belowT HD8.out hb9); clear hb9)
       | ((with_reducible refine (HM1.out _ _ hc (belowT HS0.out HD5.out) HN5.out).mono ?_); rintro e w6 ⟨rfl, hb6⟩; have HD6 := hid (belowT HD5.out hb6); clear hb6))))
   all_goals
    go_wp2
    go_ret
    exact ⟨by rw [decide_eq_false hp, Bool.false_or, ← HG2.out]; rfl, belowT HS0.out HD9.out⟩
 ·obtain rfl : c = 0 := by omega
  have HD := hid (Below.refl W0.heap.size W0)
  go_wp2
  go_ret
  exact ⟨by simp, by have h := HS0.out; rw [hW0] at h; simpa using h⟩
end Go.Proofs.YtaajpliifdlokaaGreatDoor.Fr

namespace Go.Proofs
open Go.Shelf
def Tryz.sortRel_ren : Go.Shelf.Ren := ⟨fun | 6 => 44 | 15 => 90 | 14 => 89 | 28 => 144 | 29 => 145 | 20 => 136 | 21 => 137 | 22 => 138 | 23 => 139 | 24 => 140 | 25 => 141 | 26 => 142 | 27 => 143 | 46 => 199 | 47 => 200 | 48 => 201 | 49 => 202 | 50 => 203 | 57 => 233 | n => n, fun | 22 => 37 | 24 => 44 | 25 => 98 | 3 => 3 | 39 => 135 | 0 => 0 | 53 => 159 | 55 => 157 | 4 => 4 | 46 => 173 | 45 => 172 | 50 => 66 | 5 => 5 | 9 => 9 | 66 => 215 | 70 => 219 | 76 => 248 | 77 => 249 | n => n, fun | n => n⟩
theorem Tryz.sortRel : Go.Proofs.SlLaysF0.n6 Tryz.prog Tryz.sortRel_ren := {
 mixed := by kernel_rfl
 f6 := ⟨Tryz.f44.name, by decide, Tryz.func44.trans (congrArg some (by kernel_rfl))⟩
 f14 := ⟨Tryz.f89.name, by decide, Tryz.func89.trans (congrArg some (by kernel_rfl))⟩
 f15 := Tryz.func90.trans (congrArg some (by kernel_rfl))
 f20 := ⟨Tryz.f136.name, by decide, Tryz.func136.trans (congrArg some (by kernel_rfl))⟩
 f21 := ⟨Tryz.f137.name, by decide, Tryz.func137.trans (congrArg some (by kernel_rfl))⟩
 f22 := ⟨Tryz.f138.name, by decide, Tryz.func138.trans (congrArg some (by kernel_rfl))⟩
 f23 := ⟨Tryz.f139.name, by decide, Tryz.func139.trans (congrArg some (by kernel_rfl))⟩
 f24 := ⟨Tryz.f140.name, by decide, Tryz.func140.trans (congrArg some (by kernel_rfl))⟩
 f25 := ⟨Tryz.f141.name, by decide, Tryz.func141.trans (congrArg some (by kernel_rfl))⟩
 f26 := ⟨Tryz.f142.name, by decide, Tryz.func142.trans (congrArg some (by kernel_rfl))⟩
 f27 := ⟨Tryz.f143.name, by decide, Tryz.func143.trans (congrArg some (by kernel_rfl))⟩
 f28 := Tryz.func144.trans (congrArg some (by kernel_rfl))
 f29 := Tryz.func145.trans (congrArg some (by kernel_rfl))
 f46 := ⟨Tryz.f199.name, by decide, Tryz.func199.trans (congrArg some (by kernel_rfl))⟩
 f47 := Tryz.func200.trans (congrArg some (by kernel_rfl))
 f48 := Tryz.func201.trans (congrArg some (by kernel_rfl))
 f49 := ⟨Tryz.f202.name, by decide, Tryz.func202.trans (congrArg some (by kernel_rfl))⟩
 f50 := ⟨Tryz.f203.name, by decide, Tryz.func203.trans (congrArg some (by kernel_rfl))⟩
 f57 := ⟨Tryz.f233.name, by decide, Tryz.func233.trans (congrArg some (by kernel_rfl))⟩
 t0 := Tryz.underlying0
 a0 := Tryz.isAgg0
 z0 := Tryz.sizeOf0
 v0 := Tryz.zeroValue0
 t3 := Tryz.underlying3
 a3 := Tryz.isAgg3
 z3 := Tryz.sizeOf3
 v3 := Tryz.zeroValue3
 t4 := Tryz.underlying4
 a4 := Tryz.isAgg4
 z4 := Tryz.sizeOf4
 v4 := Tryz.zeroValue4
 t5 := Tryz.underlying5
 a5 := Tryz.isAgg5
 z5 := Tryz.sizeOf5
 v5 := Tryz.zeroValue5
 t9 := Tryz.underlying9
 a9 := Tryz.isAgg9
 z9 := Tryz.sizeOf9
 v9 := Tryz.zeroValue9
 t22 := Tryz.underlying37
 a22 := Tryz.isAgg37
 z22 := Tryz.sizeOf37
 v22 := Tryz.zeroValue37
 t25 := Tryz.underlying98
 a25 := Tryz.isAgg98
 z25 := Tryz.sizeOf98
 v25 := Tryz.zeroValue98
 t39 := Tryz.underlying135
 a39 := Tryz.isAgg135
 z39 := Tryz.sizeOf135
 v39 := Tryz.zeroValue135
 t45 := Tryz.underlying172
 a45 := Tryz.isAgg172
 z45 := Tryz.sizeOf172
 v45 := Tryz.zeroValue172
 t46 := Tryz.underlying173
 a46 := Tryz.isAgg173
 z46 := Tryz.sizeOf173
 v46 := Tryz.zeroValue173
 t50 := Tryz.underlying66
 a50 := Tryz.isAgg66
 z50 := Tryz.sizeOf66
 v50 := Tryz.zeroValue66
 t53 := Tryz.underlying159
 a53 := Tryz.isAgg159
 z53 := Tryz.sizeOf159
 v53 := Tryz.zeroValue159
 t55 := Tryz.underlying157
 a55 := Tryz.isAgg157
 z55 := Tryz.sizeOf157
 v55 := Tryz.zeroValue157
 t66 := Tryz.underlying215
 a66 := Tryz.isAgg215
 z66 := Tryz.sizeOf215
 v66 := Tryz.zeroValue215
 t70 := Tryz.underlying219
 a70 := Tryz.isAgg219
 z70 := Tryz.sizeOf219
 v70 := Tryz.zeroValue219
 t76 := Tryz.underlying248
 a76 := Tryz.isAgg248
 z76 := Tryz.sizeOf248
 v76 := Tryz.zeroValue248
 t77 := Tryz.underlying249
 a77 := Tryz.isAgg249
 z77 := Tryz.sizeOf249
 v77 := Tryz.zeroValue249 }
end Go.Proofs
