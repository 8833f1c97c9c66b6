/- The reference's Int, Zero, Less at fractions that are not negative; boxes with fractions. Contracts of num.Zero, num.Sign, lists.Positive, lists.Scores and of the reference's Less, at short fractions. -/
import Derived.Test.YthblaeleogdfpaaGreatDoorCToaq
import Derived.Test.YthblaeleogdfpaaGreatDoorCTobc
import Derived.Test.YthblaeleogdfpaaGreatDoorCToat
set_option linter.unusedVariables false
set_option linter.unusedSimpArgs false
namespace Go.Proofs.YthblaeleogdfpaaGreatDoor.Fr
open Go.RowKit
theorem small_pow {n : Nat} (h : n < 4294967296) : n < 4294967296 ^ 256 :=
 Nat.lt_of_lt_of_le h (by have := Nat.pow_le_pow_right (n := 4294967296) (by omega) (show 1 ≤ 256 by omega); rwa [Nat.pow_one] at this)
theorem okF_of {c d : Nat} (hd : 0 < d) (hc : c < 4294967296) (hd2 : d < 4294967296) : OkF false (c / Nat.gcd c d) (d / Nat.gcd c d) where
 pos := Nat.div_pos (Nat.gcd_le_right _ hd) (Nat.gcd_pos_of_pos_right _ hd)
 low := by
  have h := Nat.gcd_div (Nat.gcd_dvd_left c d) (Nat.gcd_dvd_right c d)
  rw [h, Nat.div_self (Nat.gcd_pos_of_pos_right _ hd)]
 sign := fun _ => rfl
 num := small_pow (Nat.lt_of_le_of_lt (Nat.div_le_self _ _) hc)
 den := small_pow (Nat.lt_of_le_of_lt (Nat.div_le_self _ _) hd2)
set_option maxRecDepth 100000 in
set_option maxHeartbeats 1000000 in
theorem ref_Int (n : Nat) (w : World) (hn : n < 9223372036854775808) : Calls Tryz.prog 36 #[.int .i64 (n : Int)] w (GivesF w false n 1) := by
 have HPA := hid (fun W => ref_Part n 1 W hn (by omega) (by omega))
 simp only [Nat.gcd_one_right, Nat.div_one, Nat.div_self (show 0 < 1 by omega)] at HPA
 go_enter Tryz.func36, Tryz.ntmps36
 go_wp2_with fail
 refine (HPA.out _).mono ?_
 rintro e w3 ⟨a3, c3, a4, c4, rfl, hN, hb3⟩
 have HN := hid hN
 have HB3 := hid hb3
 have hz3 := hb3.size
 have m0 := cell_later hb3 (a := ⟨w.heap.size, 0, none⟩) (v := .bool false) (by go_cell)
 have m1 := cell_later hb3 (a := ⟨w.heap.size, 1, none⟩) (v := .slice none 0 0) (by go_cell)
 have m2 := cell_later hb3 (a := ⟨w.heap.size, 2, none⟩) (v := .bool false) (by go_cell)
 have m3 := cell_later hb3 (a := ⟨w.heap.size, 3, none⟩) (v := .slice none 0 0) (by go_cell)
 have fm0 := frozen_later hb3 (a := ⟨w.heap.size, 0, none⟩) (v := .bool false) (by go_cell) (by simp [go_sem])
 have fm1 := frozen_later hb3 (a := ⟨w.heap.size, 1, none⟩) (v := .slice none 0 0) (by go_cell) (by simp [go_sem])
 have fm2 := frozen_later hb3 (a := ⟨w.heap.size, 2, none⟩) (v := .bool false) (by go_cell) (by simp [go_sem])
 have fm3 := frozen_later hb3 (a := ⟨w.heap.size, 3, none⟩) (v := .slice none 0 0) (by go_cell) (by simp [go_sem])
 clear hN hb3
 simp at hz3
 have hlt : w.heap.size < w3.heap.size := by omega
 have hne : w.heap.size ≠ w3.heap.size := by omega
 go_wp2
 refine bodyPost_ret (by simp [results, Tryz.results36, go_sem, m0, m1, m2, m3, hne, hlt]; rfl) rfl ?_
 exact ⟨a3, c3, a4, c4, by first | rfl | simp, (((((HN.out.setCell (by simp)).setCell (by simp)).setCell (by simp)).setCell (by simp))).mono (by simp), by have h3 := HB3.out; repeat' (first | (with_reducible exact Below.refl _ _) | (with_reducible assumption) | (with_reducible refine below_drewN ?_) | (with_reducible refine Below.alloc ?_ ?_ _) | (with_reducible refine Below.drew ?_) | (with_reducible refine Below.setCell ?_ ?_ _) | (with_reducible refine Below.trans ?_ (Below.mono (by with_reducible assumption) ?_)) | go_size)⟩
set_option maxRecDepth 100000 in
set_option maxHeartbeats 1000000 in
theorem ref_Zero (w : World) : Calls Tryz.prog 35 #[] w (GivesF w false 0 1) := by
 have HPA := hid (fun W => ref_Int 0 W (by omega))
 go_enter Tryz.func35, Tryz.ntmps35
 go_wp2_with fail
 refine (HPA.out _).mono ?_
 rintro e w3 ⟨a3, c3, a4, c4, rfl, hN, hb3⟩
 have HN := hid hN
 have HB3 := hid hb3
 have hz3 := hb3.size
 have m0 := cell_later hb3 (a := ⟨w.heap.size, 0, none⟩) (v := .bool false) (by go_cell)
 have m1 := cell_later hb3 (a := ⟨w.heap.size, 1, none⟩) (v := .slice none 0 0) (by go_cell)
 have m2 := cell_later hb3 (a := ⟨w.heap.size, 2, none⟩) (v := .bool false) (by go_cell)
 have m3 := cell_later hb3 (a := ⟨w.heap.size, 3, none⟩) (v := .slice none 0 0) (by go_cell)
 have fm0 := frozen_later hb3 (a := ⟨w.heap.size, 0, none⟩) (v := .bool false) (by go_cell) (by simp [go_sem])
 have fm1 := frozen_later hb3 (a := ⟨w.heap.size, 1, none⟩) (v := .slice none 0 0) (by go_cell) (by simp [go_sem])
 have fm2 := frozen_later hb3 (a := ⟨w.heap.size, 2, none⟩) (v := .bool false) (by go_cell) (by simp [go_sem])
 have fm3 := frozen_later hb3 (a := ⟨w.heap.size, 3, none⟩) (v := .slice none 0 0) (by go_cell) (by simp [go_sem])
 clear hN hb3
 simp at hz3
 have hlt : w.heap.size < w3.heap.size := by omega
 have hne : w.heap.size ≠ w3.heap.size := by omega
 go_wp2
 refine bodyPost_ret (by simp [results, Tryz.results35, go_sem, m0, m1, m2, m3, hne, hlt]; rfl) rfl ?_
 exact ⟨a3, c3, a4, c4, by first | rfl | simp, (((((HN.out.setCell (by simp)).setCell (by simp)).setCell (by simp)).setCell (by simp))).mono (by simp), by have h3 := HB3.out; repeat' (first | (with_reducible exact Below.refl _ _) | (with_reducible assumption) | (with_reducible refine below_drewN ?_) | (with_reducible refine Below.alloc ?_ ?_ _) | (with_reducible refine Below.drew ?_) | (with_reducible refine Below.setCell ?_ ?_ _) | (with_reducible refine Below.trans ?_ (Below.mono (by with_reducible assumption) ?_)) | go_size)⟩
def FrB (W : World) (b : Nat) (u v : Value) (p q : Nat) : Prop := BoxN W b 49 #[.bool false, u, .bool false, v] ∧ RdF W (.agg #[.bool false, u, .bool false, v]) false p q
theorem FrB.below {W W' : World} {b : Nat} {u v : Value} {p q : Nat} (h : FrB W b u v p q) (hb : Below W.heap.size W W') : FrB W' b u v p q := ⟨h.1.below hb h.1.lt, h.2.kept hb⟩
theorem FrB.new {W : World} {u v : Value} {p q : Nat} (h : RdF W (.agg #[.bool false, u, .bool false, v]) false p q) : FrB (W.alloc (.cells #[.bool false, u, .bool false, v] 49)) W.heap.size u v p q :=
 ⟨BoxN.new W _ _, h.kept ((Below.refl _ _).alloc (Nat.le_refl _) _)⟩
end Go.Proofs.YthblaeleogdfpaaGreatDoor.Fr
namespace Go.Proofs.YthblaeleogdfpaaGreatDoor
open Go.RowKit
def TaB (W : World) (b : Nat) (id : Int) (nm : ByteArray) (v : Value) (xs : List Co) : Prop := BoxN W b 24 #[.int .i64 id, .string nm, v] ∧ RdCo W (· < W.heap.size) v xs
theorem TaB.below {W W' : World} {b : Nat} {id : Int} {nm : ByteArray} {v : Value} {xs : List Co} (h : TaB W b id nm v xs) (hb : Below W.heap.size W W') : TaB W' b id nm v xs :=
 ⟨h.1.below hb h.1.lt, (h.2.keep fun p (hp : p.block < W.heap.size) => hb.cell (p := p) hp).more fun b hb' => Nat.lt_of_lt_of_le hb' hb.size⟩
structure OrdSt (w W : World) (A B C : Nat) (va vb vc : Value) (nm nc : ByteArray) (xs ys zs : List Co) : Prop where
  bel : Below w.heap.size w W
  a : TaB W A 1 nm va xs
  b : TaB W B 2 ⟨#[]⟩ vb ys
  c : TaB W C 3 nc vc zs
theorem OrdSt.below {w W W' : World} {A B C : Nat} {va vb vc : Value} {nm nc : ByteArray} {xs ys zs : List Co} (h : OrdSt w W A B C va vb vc nm nc xs ys zs) (hb : Below W.heap.size W W') : OrdSt w W' A B C va vb vc nm nc xs ys zs :=
 ⟨h.bel.trans (hb.mono h.bel.size), h.a.below hb, h.b.below hb, h.c.below hb⟩
end Go.Proofs.YthblaeleogdfpaaGreatDoor

namespace Go.Proofs.YthblaeleogdfpaaGreatDoor.Fr
open Go.RowKit
theorem sml_one : Sml 0 1 := ⟨by omega, by omega, by omega, by decide⟩
theorem Sml.ok {p q : Nat} (h : Sml p q) : OkF false p q := ⟨h.pos, h.low, fun _ => rfl, small_pow h.num, small_pow h.den⟩
theorem sml_of {c d : Nat} (hd : 0 < d) (hc : c < 4294967296) (hd2 : d < 4294967296) : Sml (c / Nat.gcd c d) (d / Nat.gcd c d) :=
 ⟨Nat.lt_of_le_of_lt (Nat.div_le_self _ _) hc, (okF_of hd hc hd2).pos, Nat.lt_of_le_of_lt (Nat.div_le_self _ _) hd2, (okF_of hd hc hd2).low⟩
set_option maxRecDepth 100000 in
set_option maxHeartbeats 1000000 in
theorem num_Zero (w : World) : Calls Tryz.prog 108 #[] w (GivesF w false 0 1) := by
 have HOF : Hid (∀ W, Calls Tryz.prog 107 #[.int .i64 0, .int .i64 1] W (GivesFE W false 0 1 (.int .i64 0))) := hid (fun W => by
  have h := frac_Of1 0 1 W (by omega) (by omega) (by omega)
  simp only [Nat.zero_div, Nat.gcd_one_right, Nat.div_one] at h
  exact h)
 go_enter Tryz.func108, Tryz.ntmps108
 go_wp2_with fail
 refine (HOF.out _).mono ?_
 rintro e w3 ⟨a3, c3, a4, c4, rfl, hN, hb3⟩
 have HN := hid hN
 have HB3 := hid hb3
 have hz3 := hb3.size
 have m0 := cell_later hb3 (a := ⟨w.heap.size, 0, none⟩) (v := .bool false) (by go_cell)
 have m1 := cell_later hb3 (a := ⟨w.heap.size, 1, none⟩) (v := .slice none 0 0) (by go_cell)
 have m2 := cell_later hb3 (a := ⟨w.heap.size, 2, none⟩) (v := .bool false) (by go_cell)
 have m3 := cell_later hb3 (a := ⟨w.heap.size, 3, none⟩) (v := .slice none 0 0) (by go_cell)
 have fm0 := frozen_later hb3 (a := ⟨w.heap.size, 0, none⟩) (v := .bool false) (by go_cell) (by simp [go_sem])
 have fm1 := frozen_later hb3 (a := ⟨w.heap.size, 1, none⟩) (v := .slice none 0 0) (by go_cell) (by simp [go_sem])
 have fm2 := frozen_later hb3 (a := ⟨w.heap.size, 2, none⟩) (v := .bool false) (by go_cell) (by simp [go_sem])
 have fm3 := frozen_later hb3 (a := ⟨w.heap.size, 3, none⟩) (v := .slice none 0 0) (by go_cell) (by simp [go_sem])
 clear hN hb3
 simp at hz3
 have hlt : w.heap.size < w3.heap.size := by omega
 have hne : w.heap.size ≠ w3.heap.size := by omega
 go_wp2
 refine bodyPost_ret (by simp [results, Tryz.results108, go_sem, m0, m1, m2, m3, hne, hlt]; rfl) rfl ?_
 exact ⟨a3, c3, a4, c4, by first | rfl | simp, (((((HN.out.setCell (by simp)).setCell (by simp)).setCell (by simp)).setCell (by simp)).kept ((Below.refl _ _).alloc (Nat.le_refl _) _)).mono (by simp), by have h3 := HB3.out; repeat' (first | (with_reducible exact Below.refl _ _) | (with_reducible assumption) | (with_reducible refine below_drewN ?_) | (with_reducible refine Below.alloc ?_ ?_ _) | (with_reducible refine Below.drew ?_) | (with_reducible refine Below.setCell ?_ ?_ _) | (with_reducible refine Below.trans ?_ (Below.mono (by with_reducible assumption) ?_)) | go_size)⟩
set_option maxRecDepth 100000 in
set_option maxHeartbeats 1000000 in
theorem num_Sign (u : Value) (p q : Nat) (w : World) (hu : RdF w u false p q) (s : Sml p q) (h1 : OneAt w) : Calls Tryz.prog 75 #[u] w (Ret w (.int .i64 (sgn p 0))) := by
 have HCM := hid (fun W v (hW : Below w.heap.size w W) (hv : RdF W v false 0 1) => frac_Cmp u v p q 0 1 W (hu.kept hW) hv s sml_one (h1.below hW))
 simp only [Nat.mul_one, Nat.zero_mul] at HCM
 have HZE := hid (fun W => num_Zero W)
 obtain ⟨a1, c1, b1, d1, rfl, -, -⟩ := hu
 clear s h1
 generalize sgn p 0 = sg at *
 generalize (dig p).length = l1 at *
 generalize (dig q).length = k1 at *
 have HX := hid (BoxN.new w #[.bool false, .slice a1 l1 c1, .bool false, .slice b1 k1 d1] 49)
 have HB0 := hid ((Below.refl w.heap.size w).alloc (Nat.le_refl _) (.cells #[.bool false, .slice a1 l1 c1, .bool false, .slice b1 k1 d1] 49))
 go_enter Tryz.func75, Tryz.ntmps75
 go_upto_region 1 with fail
 generalize w.alloc (.cells #[.bool false, .slice a1 l1 c1, .bool false, .slice b1 k1 d1] 49) = W0 at *
 have HG := hid (fun W (hW : Below W0.heap.size W0 W) => (⟨(HX.out.below hW HX.out.lt).cell 0 rfl, (HX.out.below hW HX.out.lt).cell 1 rfl, (HX.out.below hW HX.out.lt).cell 2 rfl, (HX.out.below hW HX.out.lt).cell 3 rfl⟩ : W.cell? ⟨w.heap.size, 0, none⟩ = some (.bool false) ∧ W.cell? ⟨w.heap.size, 1, none⟩ = some (.slice a1 l1 c1) ∧ W.cell? ⟨w.heap.size, 2, none⟩ = some (.bool false) ∧ W.cell? ⟨w.heap.size, 3, none⟩ = some (.slice b1 k1 d1)))
 have HC := hid (show Below W0.heap.size W0 W0.drew by have h1 := Below.refl W0.heap.size W0; repeat' (first | (with_reducible exact Below.refl _ _) | (with_reducible assumption) | (with_reducible refine below_drewN ?_) | (with_reducible refine Below.alloc ?_ ?_ _) | (with_reducible refine Below.drew ?_) | (with_reducible refine Below.setCell ?_ ?_ _) | (with_reducible refine Below.trans ?_ (Below.mono (by with_reducible assumption) ?_)) | go_size))
 go_region_held3 (fun w' => w'.cell? ⟨w.heap.size, 0, none⟩ = some (.bool false) ∧ w'.cell? ⟨w.heap.size, 1, none⟩ = some (.slice a1 l1 c1) ∧ w'.cell? ⟨w.heap.size, 2, none⟩ = some (.bool false) ∧ w'.cell? ⟨w.heap.size, 3, none⟩ = some (.slice b1 k1 d1))
  (first | exact HG.out _ HC.out | go_keep)
  (first
   | (go_at_call 108; go_must ((with_reducible refine (HZE.out _).mono ?_); rintro e w5 ⟨a5, c5, b5, d5, rfl, hN, hb5⟩; have HC := hid (belowT HC.out hb5); have HN := hid (hN.rd false); clear hN hb5))
   | (go_at_call 76; go_must ((with_reducible refine (HCM.out _ _ (belowT HB0.out HC.out) HN.out).mono ?_); rintro e w6 ⟨rfl, hb6⟩; have HC := hid (belowT HC.out hb6); clear hb6)))
 all_goals
  go_wp2
  go_ret
  exact ⟨rfl, belowT HB0.out HC.out⟩
set_option maxHeartbeats 1000000 in
theorem lists_Positive (u : Value) (p q : Nat) (w : World) (hu : RdF w u false p q) (s : Sml p q) (h1 : OneAt w) : Calls Tryz.prog 88 #[u] w (Ret w (.bool (decide (0 < p)))) := by
 have HSI := hid (fun W (hW : Below w.heap.size w W) => num_Sign u p q W (hu.kept hW) s (h1.below hW))
 obtain ⟨a1, c1, b1, d1, rfl, -, -⟩ := hu
 have hd : decide ((0 : Int) < sgn p 0) = decide (0 < p) := by
  by_cases h : 0 < p
  ·rw [sgn_gt h]; simp [h]
  ·rw [show p = 0 by omega, sgn_self]; simp
 clear s h1
 generalize decide (0 < p) = r at *
 generalize sgn p 0 = sg at *
 generalize (dig p).length = l1 at *
 generalize (dig q).length = k1 at *
 have HB0 := hid ((Below.refl w.heap.size w).alloc (Nat.le_refl _) (.cells #[.bool false, .slice a1 l1 c1, .bool false, .slice b1 k1 d1] 49))
 go_enter Tryz.func88, Tryz.ntmps88
 go_wp2_with fail
 with_reducible refine (HSI.out _ HB0.out).mono ?_
 rintro e w3 ⟨rfl, hb3⟩
 have HB3 := hid (belowT HB0.out hb3)
 clear hb3
 go_wp2
 go_ret
 exact ⟨by rw [← hd]; rfl, HB3.out⟩
set_option maxRecDepth 100000 in
set_option maxHeartbeats 1000000 in
theorem lists_Scores (u v : Value) (p1 q1 p2 q2 : Nat) (w : World) (hu : RdF w u false p1 q1) (hv : RdF w v false p2 q2) (s1 : Sml p1 q1) (s2 : Sml p2 q2) (h1 : OneAt w) :
  Calls Tryz.prog 138 #[u, v] w (Ret w (.int .i64 (sgn (p2 * q1) (p1 * q2)))) := by
 have HCM := hid (fun W (hW : Below w.heap.size w W) => frac_Cmp v u p2 q2 p1 q1 W (hv.kept hW) (hu.kept hW) s2 s1 (h1.below hW))
 clear h1
 obtain ⟨a1, c1, b1, d1, rfl, -, -⟩ := hu
 obtain ⟨a2, c2, b2, d2, rfl, -, -⟩ := hv
 clear s1 s2
 generalize (dig p1).length = l1 at *
 generalize (dig q1).length = k1 at *
 generalize (dig p2).length = l2 at *
 generalize (dig q2).length = k2 at *
 generalize p1 * q2 = X at *
 generalize p2 * q1 = Y at *
 generalize sgn Y X = sg at *
 have HB0 := hid (((Below.refl w.heap.size w).alloc (Nat.le_refl _) (.cells #[.bool false, .slice a1 l1 c1, .bool false, .slice b1 k1 d1] 49)).alloc (by simp) (.cells #[.bool false, .slice a2 l2 c2, .bool false, .slice b2 k2 d2] 49))
 go_enter Tryz.func138, Tryz.ntmps138
 go_wp2_with fail
 with_reducible refine (HCM.out _ HB0.out).mono ?_
 rintro e w3 ⟨rfl, hb3⟩
 have HB3 := hid (belowT HB0.out hb3)
 clear hb3
 go_wp2
 go_ret
 exact ⟨rfl, HB3.out⟩
set_option maxRecDepth 100000 in
set_option maxHeartbeats 1000000 in
theorem ref_Less (u v : Value) (p1 q1 p2 q2 : Nat) (w : World) (hu : RdF w u false p1 q1) (hv : RdF w v false p2 q2) (s1 : Sml p1 q1) (s2 : Sml p2 q2) :
  Calls Tryz.prog 84 #[u, v] w (Ret w (.bool (decide (p1 * q2 < p2 * q1)))) := by
 have HCM := hid (fun W (hW : Below w.heap.size w W) => ref_Cmp u v false false p1 q1 p2 q2 W (hu.kept hW) (hv.kept hW) s1.ok s2.ok)
 have e1 : isgn (zF false p1 * (q2 : Int)) (zF false p2 * (q1 : Int)) = sgn (p1 * q2) (p2 * q1) := by
  have h1 : zF false p1 * (q2 : Int) = ((p1 * q2 : Nat) : Int) := by simp [zF]
  have h2 : zF false p2 * (q1 : Int) = ((p2 * q1 : Nat) : Int) := by simp [zF]
  rw [h1, h2, isgn_nat]
 rw [e1] at HCM
 clear e1
 obtain ⟨a1, c1, b1, d1, rfl, -, -⟩ := hu
 obtain ⟨a2, c2, b2, d2, rfl, -, -⟩ := hv
 clear s1 s2
 generalize (dig p1).length = l1 at *
 generalize (dig q1).length = k1 at *
 generalize (dig p2).length = l2 at *
 generalize (dig q2).length = k2 at *
 generalize p1 * q2 = X at *
 generalize p2 * q1 = Y at *
 have hsg : decide (sgn X Y < 0) = decide (X < Y) := by
  rcases Nat.lt_trichotomy X Y with h | h | h
  ·rw [sgn_lt h]; simp [h]
  ·rw [show X = Y from h, sgn_self]; simp
  ·rw [sgn_gt h, show decide (X < Y) = false from decide_eq_false (by omega)]; rfl
 generalize decide (X < Y) = r at *
 generalize sgn X Y = sg at *
 have HB0 := hid (((Below.refl w.heap.size w).alloc (Nat.le_refl _) (.cells #[.bool false, .slice a1 l1 c1, .bool false, .slice b1 k1 d1] 49)).alloc (by simp) (.cells #[.bool false, .slice a2 l2 c2, .bool false, .slice b2 k2 d2] 49))
 go_enter Tryz.func84, Tryz.ntmps84
 go_wp2_with fail
 with_reducible refine (HCM.out _ HB0.out).mono ?_
 rintro e w3 ⟨rfl, hb3⟩
 have HB3 := hid (belowT HB0.out hb3)
 clear hb3
 go_wp2
 go_ret
 exact ⟨by rw [← hsg]; rfl, HB3.out⟩
end Go.Proofs.YthblaeleogdfpaaGreatDoor.Fr
