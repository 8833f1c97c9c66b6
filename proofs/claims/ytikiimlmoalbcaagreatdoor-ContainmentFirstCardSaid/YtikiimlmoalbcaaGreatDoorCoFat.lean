/- Contract of bounded's positive at containment's scores. -/
import Derived.Deep.RegionHeld3
import Derived.Test.YtikiimlmoalbcaaGreatDoorCoFas
set_option linter.unusedVariables false
set_option linter.unusedSimpArgs false
namespace Go.Proofs.YtikiimlmoalbcaaGreatDoor.Fr
open Go.RowKit
def PosP (w : World) (n d : Nat) (e : Ending) (w' : World) : Prop :=
  ∃ (s1 s2 : Bool) (a b : Option Addr) (c k l1 l2 : Nat), e = .returned (.tuple #[.agg #[.bool s1, .slice a l1 c, .bool s2, .slice b l2 k], .bool (decide (0 < n))]) ∧ Below w.heap.size w w' ∧
    (0 < n → s1 = false ∧ s2 = false ∧ l1 = (dig (n / Nat.gcd n d)).length ∧ l2 = (dig (d / Nat.gcd n d)).length ∧ NewF w.heap.size w' a c b k (n / Nat.gcd n d) (d / Nat.gcd n d))
set_option maxRecDepth 100000 in
set_option maxHeartbeats 8000000 in
theorem pos_score (n d kb qb : Nat) (sz : Int) (w : World) (hd : 0 < n → 0 < d) (HS0 : ∀ W, Below w.heap.size w W → Calls Tryz.prog 111 #[.int .i64 (n : Int), .int .i64 sz, .pointer (some ⟨kb, 0, none⟩), .pointer (some ⟨qb, 0, none⟩)] W (ScoreA W n d)) :
  Calls Tryz.prog 143 #[.func (.func 111) #[] #[.pointer (some ⟨kb, 0, none⟩), .pointer (some ⟨qb, 0, none⟩)], .int .i64 (n : Int), .int .i64 sz] w (PosP w n d) := by
 have HS := hid HS0
 clear HS0
 have hx := BoxN.new w #[.bool false, .slice none 0 0, .bool false, .slice none 0 0] 45
 have hb0 := (Below.refl w.heap.size w).alloc (Nat.le_refl _) (.cells #[.bool false, .slice none 0 0, .bool false, .slice none 0 0] 45)
 obtain ⟨W0, hW0⟩ : ∃ W, W = w.alloc (.cells #[.bool false, .slice none 0 0, .bool false, .slice none 0 0] 45) := ⟨_, rfl⟩
 have hz0 : W0.heap.size = w.heap.size + 1 := by rw [hW0, World.size_alloc]
 rw [← hW0] at hx hb0
 have HX0 := hid hx
 have HB0 := hid hb0
 have HZ0 := hid hz0
 clear hx hb0 hz0
 go_enter Tryz.func143, Tryz.ntmps143
 go_wp2_with fail
 rw [← hW0]
 clear hW0
 with_reducible refine (HS.out W0 HB0.out).mono ?_
 rintro e w1 ⟨s1, s2, ok, a, b, c, k, l1, l2, rfl, hb1, hpos, hzero⟩
 have HB1 := hid (HB0.out.trans (hb1.mono (by have := HZ0.out; omega)))
 have hx1 := HX0.out.below hb1 HX0.out.lt
 have hlt : w.heap.size < w1.heap.size := hx1.lt
 have hxn := BoxN.new w1 #[.bool s1, .slice a l1 c, .bool s2, .slice b l2 k] 45
 have hbn := (Below.refl w1.heap.size w1).alloc (Nat.le_refl _) (.cells #[.bool s1, .slice a l1 c, .bool s2, .slice b l2 k] 45)
 obtain ⟨W1, hW1⟩ : ∃ W, W = w1.alloc (.cells #[.bool s1, .slice a l1 c, .bool s2, .slice b l2 k] 45) := ⟨_, rfl⟩
 go_upto_region 2 with fail
 rw [← hW1]
 rw [← hW1] at hxn hbn
 clear hW1
 have HXR := hid (hx1.below hbn hlt)
 have HXN := hid hxn
 have HB2 := hid (HB1.out.trans (hbn.mono (by omega)))
 have HPOS := hid (fun (h : 0 < n) => (by
  obtain ⟨r1, r2, r3, r4, r5, hN⟩ := hpos h
  exact ⟨r1, r2, r3, r4, r5, hN.kept hbn⟩ : s1 = false ∧ s2 = false ∧ ok = true ∧ l1 = (dig (n / Nat.gcd n d)).length ∧ l2 = (dig (d / Nat.gcd n d)).length ∧ NewF W0.heap.size W1 a c b k (n / Nat.gcd n d) (d / Nat.gcd n d)))
 have HZ := hid hzero
 have HG := hid (fun W (hW : Below W1.heap.size W1 W) => (by
  have h1 := HXN.out.below hW HXN.out.lt
  exact ⟨h1.cell 0 rfl, h1.cell 1 rfl, h1.cell 2 rfl, h1.cell 3 rfl⟩ : W.cell? ⟨w1.heap.size, 0, none⟩ = some (.bool s1) ∧ W.cell? ⟨w1.heap.size, 1, none⟩ = some (.slice a l1 c) ∧ W.cell? ⟨w1.heap.size, 2, none⟩ = some (.bool s2) ∧ W.cell? ⟨w1.heap.size, 3, none⟩ = some (.slice b l2 k)))
 have HD := hid (show Below W1.heap.size W1 W1.drew from (Below.refl W1.heap.size W1).drew)
 clear hb1 hx1 hpos hzero hxn hbn
 have HX := hid (show BoxN W1.drew w.heap.size 45 #[.bool false, .slice none 0 0, .bool false, .slice none 0 0] from HXR.out)
 have hx2 : BoxN W1.drew w1.heap.size 45 #[.bool s1, .slice a l1 c, .bool s2, .slice b l2 k] := HXN.out
 generalize hWd : W1.drew = Wd at *
 have g0 : BoxN (Wd.setCell ⟨w.heap.size, 0, none⟩ (.bool s1)) w.heap.size 45 #[.bool s1, .slice none 0 0, .bool false, .slice none 0 0] := HX.out.set 0 _
 have o0 : BoxN (Wd.setCell ⟨w.heap.size, 0, none⟩ (.bool s1)) w1.heap.size 45 #[.bool s1, .slice a l1 c, .bool s2, .slice b l2 k] := hx2.other (p := ⟨w.heap.size, 0, none⟩) (by show w.heap.size ≠ w1.heap.size; omega) _
 have g1 : BoxN ((Wd.setCell ⟨w.heap.size, 0, none⟩ (.bool s1)).setCell ⟨w.heap.size, 1, none⟩ (.slice a l1 c)) w.heap.size 45 #[.bool s1, .slice a l1 c, .bool false, .slice none 0 0] := g0.set 1 _
 have o1 : BoxN ((Wd.setCell ⟨w.heap.size, 0, none⟩ (.bool s1)).setCell ⟨w.heap.size, 1, none⟩ (.slice a l1 c)) w1.heap.size 45 #[.bool s1, .slice a l1 c, .bool s2, .slice b l2 k] := o0.other (p := ⟨w.heap.size, 1, none⟩) (by show w.heap.size ≠ w1.heap.size; omega) _
 have g2 : BoxN (((Wd.setCell ⟨w.heap.size, 0, none⟩ (.bool s1)).setCell ⟨w.heap.size, 1, none⟩ (.slice a l1 c)).setCell ⟨w.heap.size, 2, none⟩ (.bool s2)) w.heap.size 45 #[.bool s1, .slice a l1 c, .bool s2, .slice none 0 0] := g1.set 2 _
 have o2 : BoxN (((Wd.setCell ⟨w.heap.size, 0, none⟩ (.bool s1)).setCell ⟨w.heap.size, 1, none⟩ (.slice a l1 c)).setCell ⟨w.heap.size, 2, none⟩ (.bool s2)) w1.heap.size 45 #[.bool s1, .slice a l1 c, .bool s2, .slice b l2 k] := o1.other (p := ⟨w.heap.size, 2, none⟩) (by show w.heap.size ≠ w1.heap.size; omega) _
 have g3 : BoxN ((((Wd.setCell ⟨w.heap.size, 0, none⟩ (.bool s1)).setCell ⟨w.heap.size, 1, none⟩ (.slice a l1 c)).setCell ⟨w.heap.size, 2, none⟩ (.bool s2)).setCell ⟨w.heap.size, 3, none⟩ (.slice b l2 k)) w.heap.size 45 #[.bool s1, .slice a l1 c, .bool s2, .slice b l2 k] := g2.set 3 _
 have o3 : BoxN ((((Wd.setCell ⟨w.heap.size, 0, none⟩ (.bool s1)).setCell ⟨w.heap.size, 1, none⟩ (.slice a l1 c)).setCell ⟨w.heap.size, 2, none⟩ (.bool s2)).setCell ⟨w.heap.size, 3, none⟩ (.slice b l2 k)) w1.heap.size 45 #[.bool s1, .slice a l1 c, .bool s2, .slice b l2 k] := o2.other (p := ⟨w.heap.size, 3, none⟩) (by show w.heap.size ≠ w1.heap.size; omega) _
 have HX4 := hid g3
 have HG2 : Hid (((((Wd.setCell ⟨w.heap.size, 0, none⟩ (.bool s1)).setCell ⟨w.heap.size, 1, none⟩ (.slice a l1 c)).setCell ⟨w.heap.size, 2, none⟩ (.bool s2)).setCell ⟨w.heap.size, 3, none⟩ (.slice b l2 k)).cell? ⟨w1.heap.size, 0, none⟩ = some (.bool s1) ∧ ((((Wd.setCell ⟨w.heap.size, 0, none⟩ (.bool s1)).setCell ⟨w.heap.size, 1, none⟩ (.slice a l1 c)).setCell ⟨w.heap.size, 2, none⟩ (.bool s2)).setCell ⟨w.heap.size, 3, none⟩ (.slice b l2 k)).cell? ⟨w1.heap.size, 1, none⟩ = some (.slice a l1 c) ∧ ((((Wd.setCell ⟨w.heap.size, 0, none⟩ (.bool s1)).setCell ⟨w.heap.size, 1, none⟩ (.slice a l1 c)).setCell ⟨w.heap.size, 2, none⟩ (.bool s2)).setCell ⟨w.heap.size, 3, none⟩ (.slice b l2 k)).cell? ⟨w1.heap.size, 2, none⟩ = some (.bool s2) ∧ ((((Wd.setCell ⟨w.heap.size, 0, none⟩ (.bool s1)).setCell ⟨w.heap.size, 1, none⟩ (.slice a l1 c)).setCell ⟨w.heap.size, 2, none⟩ (.bool s2)).setCell ⟨w.heap.size, 3, none⟩ (.slice b l2 k)).cell? ⟨w1.heap.size, 3, none⟩ = some (.slice b l2 k)) := hid ⟨o3.cell 0 rfl, o3.cell 1 rfl, o3.cell 2 rfl, o3.cell 3 rfl⟩
 have hbw : Below w.heap.size w Wd := by rw [← hWd]; exact HB2.out.drew
 have hb4 := (((hbw.setCell (p := ⟨w.heap.size, 0, none⟩) (Nat.le_refl _) (.bool s1)).setCell (p := ⟨w.heap.size, 1, none⟩) (Nat.le_refl _) (.slice a l1 c)).setCell (p := ⟨w.heap.size, 2, none⟩) (Nat.le_refl _) (.bool s2)).setCell (p := ⟨w.heap.size, 3, none⟩) (Nat.le_refl _) (.slice b l2 k)
 have HPN := hid (fun (h : 0 < n) => (by
  obtain ⟨r1, r2, r3, r4, r5, hN⟩ := HPOS.out h
  refine ⟨r1, r2, r4, r5, ?_⟩
  have hl0 : w.heap.size < W0.heap.size := by have := HZ0.out; omega
  have hN2 : NewF W0.heap.size Wd a c b k (n / Nat.gcd n d) (d / Nat.gcd n d) := by rw [← hWd]; exact hN
  exact ((((hN2.setCell (x := ⟨w.heap.size, 0, none⟩) hl0).setCell (x := ⟨w.heap.size, 1, none⟩) hl0).setCell (x := ⟨w.heap.size, 2, none⟩) hl0).setCell (x := ⟨w.heap.size, 3, none⟩) hl0).mono (by omega) : s1 = false ∧ s2 = false ∧ l1 = (dig (n / Nat.gcd n d)).length ∧ l2 = (dig (d / Nat.gcd n d)).length ∧ NewF w.heap.size ((((Wd.setCell ⟨w.heap.size, 0, none⟩ (.bool s1)).setCell ⟨w.heap.size, 1, none⟩ (.slice a l1 c)).setCell ⟨w.heap.size, 2, none⟩ (.bool s2)).setCell ⟨w.heap.size, 3, none⟩ (.slice b l2 k)) a c b k (n / Nat.gcd n d) (d / Nat.gcd n d)))
 have HFF := hid (fun (v : Bool) (hv : v = decide (0 < n)) => (⟨s1, s2, a, b, c, k, l1, l2, by rw [hv], hb4, HPN.out⟩ : PosP w n d (.returned (.tuple #[.agg #[.bool s1, .slice a l1 c, .bool s2, .slice b l2 k], .bool v])) ((((Wd.setCell ⟨w.heap.size, 0, none⟩ (.bool s1)).setCell ⟨w.heap.size, 1, none⟩ (.slice a l1 c)).setCell ⟨w.heap.size, 2, none⟩ (.bool s2)).setCell ⟨w.heap.size, 3, none⟩ (.slice b l2 k))))
 subst hWd
 clear g0 g1 g2 g3 o0 o1 o2 o3 hbw hb4 HPN hx2 HB2 HXR HXN HB1
 by_cases hn : 0 < n
 ·obtain ⟨-, -, rfl, hl1, -⟩ := HPOS.out hn
  have hlp : 0 < l1 := by
   rw [hl1]
   exact dig_length_pos.2 (Nat.div_pos (Nat.le_of_dvd hn (Nat.gcd_dvd_left _ _)) (Nat.gcd_pos_of_pos_left _ hn))
  have hli : (0 : Int) < (l1 : Int) := by omega
  have HF := hid (HFF.out true (decide_eq_true hn).symm)
  clear hl1 HPOS HFF HZ hd hn
  refine wp_region_held_drew (S := fun W => W.cell? ⟨w1.heap.size, 0, none⟩ = some (.bool s1) ∧ W.cell? ⟨w1.heap.size, 1, none⟩ = some (.slice a l1 c) ∧ W.cell? ⟨w1.heap.size, 2, none⟩ = some (.bool s2) ∧ W.cell? ⟨w1.heap.size, 3, none⟩ = some (.slice b l2 k)) (by kernel_rfl) (HG.out _ HD.out) (fun hHeld => ?_)
  generalize W1.drew = Wd at *
  refine wpAnyH_take (i := 0) (v := ?_) (by simp only [List.getElem?_toArray, List.getElem?_cons_zero, List.getElem?_cons_succ]; rfl) (by kernel_rfl) (by kernel_rfl) (by kernel_rfl) (by intro _ _ _ h; exact h) (Or.inl ⟨by rfl, ?_⟩) (by assumption) ?_
  rotate_left
  ·(intro w' hSw; (try dsimp only at hSw); go_simp) <;> with_reducible rfl
  try simp only [Act.put, List.setIfInBounds_toArray, List.set_cons_zero, List.set_cons_succ]
  refine wpAnyH_take (i := 1) (v := ?_) (by simp only [List.getElem?_toArray, List.getElem?_cons_zero, List.getElem?_cons_succ]; rfl) (by kernel_rfl) (by kernel_rfl) (by kernel_rfl) (by intro _ _ _ h; exact h) (Or.inl ⟨by rfl, ?_⟩) (by assumption) ?_
  rotate_left
  ·(intro w' hSw; (try dsimp only at hSw); go_simp) <;> with_reducible rfl
  try simp only [Act.put, List.setIfInBounds_toArray, List.set_cons_zero, List.set_cons_succ]
  refine wpAnyH_take (i := 2) (v := ?_) (by simp only [List.getElem?_toArray, List.getElem?_cons_zero, List.getElem?_cons_succ]; rfl) (by kernel_rfl) (by kernel_rfl) (by kernel_rfl) (by intro _ _ _ h; exact h) (Or.inl ⟨by rfl, ?_⟩) (by assumption) ?_
  rotate_left
  ·(intro w' hSw; (try dsimp only at hSw); go_simp) <;> with_reducible rfl
  try simp only [Act.put, List.setIfInBounds_toArray, List.set_cons_zero, List.set_cons_succ]
  refine wpAnyH_take (i := 3) (v := ?_) (by simp only [List.getElem?_toArray, List.getElem?_cons_zero, List.getElem?_cons_succ]; rfl) (by kernel_rfl) (by kernel_rfl) (by kernel_rfl) (by intro _ _ _ h; exact h) (Or.inl ⟨by rfl, ?_⟩) (by assumption) ?_
  rotate_left
  ·(intro w' hSw; (try dsimp only at hSw); go_simp) <;> with_reducible rfl
  try simp only [Act.put, List.setIfInBounds_toArray, List.set_cons_zero, List.set_cons_succ]
  refine wpAnyH_take (i := 4) (v := ?_) (by simp only [List.getElem?_toArray, List.getElem?_cons_zero, List.getElem?_cons_succ]; rfl) (by kernel_rfl) (by kernel_rfl) (by kernel_rfl) (by intro _ _ _ h; exact h) (Or.inl ⟨by rfl, ?_⟩) (by assumption) ?_
  rotate_left
  ·(intro w' hSw; (try dsimp only at hSw); go_simp) <;> with_reducible rfl
  try simp only [Act.put, List.setIfInBounds_toArray, List.set_cons_zero, List.set_cons_succ]
  refine wpAnyH_take (i := 5) (v := ?_) (by simp only [List.getElem?_toArray, List.getElem?_cons_zero, List.getElem?_cons_succ]; rfl) (by kernel_rfl) (by kernel_rfl) (by kernel_rfl) (by intro _ _ _ h; exact h) (Or.inl ⟨by rfl, ?_⟩) (by assumption) ?_
  rotate_left
  ·(intro w' hSw; (try dsimp only at hSw); go_simp) <;> with_reducible rfl
  try simp only [Act.put, List.setIfInBounds_toArray, List.set_cons_zero, List.set_cons_succ]
  refine wpAnyH_take (i := 6) (v := ?_) (by simp only [List.getElem?_toArray, List.getElem?_cons_zero, List.getElem?_cons_succ]; rfl) (by kernel_rfl) (by kernel_rfl) (by kernel_rfl) (by intro _ _ _ h; exact h) (Or.inl ⟨by rfl, ?_⟩) (by assumption) ?_
  rotate_left
  ·(intro w' hSw; (try dsimp only at hSw); go_simp) <;> with_reducible rfl
  try simp only [Act.put, List.setIfInBounds_toArray, List.set_cons_zero, List.set_cons_succ]
  refine wpAnyH_take (i := 7) (v := ?_) (by simp only [List.getElem?_toArray, List.getElem?_cons_zero, List.getElem?_cons_succ]; rfl) (by kernel_rfl) (by kernel_rfl) (by kernel_rfl) (by intro _ _ _ h; exact h) (Or.inl ⟨by rfl, ?_⟩) (by assumption) ?_
  rotate_left
  ·(intro w' hSw; (try dsimp only at hSw); go_simp) <;> with_reducible rfl
  try simp only [Act.put, List.setIfInBounds_toArray, List.set_cons_zero, List.set_cons_succ]
  refine wpAnyH_take (i := 8) (v := ?_) (by simp only [List.getElem?_toArray, List.getElem?_cons_zero, List.getElem?_cons_succ]; rfl) (by kernel_rfl) (by kernel_rfl) (by kernel_rfl) (by intro _ _ _ h; exact h) (Or.inl ⟨by rfl, ?_⟩) (by assumption) ?_
  rotate_left
  ·(intro w' hSw; (try dsimp only at hSw); go_simp) <;> with_reducible rfl
  try simp only [Act.put, List.setIfInBounds_toArray, List.set_cons_zero, List.set_cons_succ]
  refine wpAnyH_ready (rs := [9]) (by kernel_rfl) (by simp) ?_
  refine AllReadyH.cons (by simp only [List.getElem?_toArray, List.getElem?_cons_zero, List.getElem?_cons_succ]; rfl) (fun K hK => ?_) AllReadyH.nil
  have e0 := HX.out.cell 0 rfl
  have f0 := HX.out.frozen 0
  have e1 := HX.out.cell 1 rfl
  have f1 := HX.out.frozen 1
  have e2 := HX.out.cell 2 rfl
  have f2 := HX.out.frozen 2
  have e3 := HX.out.cell 3 rfl
  have f3 := HX.out.frozen 3
  go_simp
  refine hK.out _ _ (HG2.out) (fun hHeld => ?_)
  clear hK K
  try simp only [Act.put, List.setIfInBounds_toArray, List.set_cons_zero, List.set_cons_succ]
  refine wpAnyH_take (i := 10) (v := ?_) (by simp only [List.getElem?_toArray, List.getElem?_cons_zero, List.getElem?_cons_succ]; rfl) (by kernel_rfl) (by kernel_rfl) (by kernel_rfl) (by intro _ _ _ h; exact h) (Or.inl ⟨by rfl, ?_⟩) (by assumption) ?_
  rotate_left
  ·(intro w' hSw; (try dsimp only at hSw); go_simp) <;> with_reducible rfl
  try simp only [Act.put, List.setIfInBounds_toArray, List.set_cons_zero, List.set_cons_succ]
  refine wpAnyH_done (by kernel_rfl) ?_ _
  clear e0 e1 e2 e3 f0 f1 f2 f3
  have q0 := HX4.out.cell 0 rfl
  have q1 := HX4.out.cell 1 rfl
  have q2 := HX4.out.cell 2 rfl
  have q3 := HX4.out.cell 3 rfl
  go_wp2
  refine bodyPost_ret (v := .tuple #[.agg #[.bool s1, .slice a l1 c, .bool s2, .slice b l2 k], .bool true]) (by simp [results, Tryz.results143, go_sem, q0, q1, q2, q3]) rfl HF.out
 ·have hn0 : n = 0 := by omega
  have hl0 := HZ.out hn0
  have HF := hid (HFF.out false (decide_eq_false hn).symm)
  clear HPOS HFF HZ hd hn0 hn
  subst hl0
  cases ok with
  | true =>
   refine wp_region_held_drew (S := fun W => W.cell? ⟨w1.heap.size, 0, none⟩ = some (.bool s1) ∧ W.cell? ⟨w1.heap.size, 1, none⟩ = some (.slice a 0 c) ∧ W.cell? ⟨w1.heap.size, 2, none⟩ = some (.bool s2) ∧ W.cell? ⟨w1.heap.size, 3, none⟩ = some (.slice b l2 k)) (by kernel_rfl) (HG.out _ HD.out) (fun hHeld => ?_)
   generalize W1.drew = Wd at *
   refine wpAnyH_take (i := 0) (v := ?_) (by simp only [List.getElem?_toArray, List.getElem?_cons_zero, List.getElem?_cons_succ]; rfl) (by kernel_rfl) (by kernel_rfl) (by kernel_rfl) (by intro _ _ _ h; exact h) (Or.inl ⟨by rfl, ?_⟩) (by assumption) ?_
   rotate_left
   ·(intro w' hSw; (try dsimp only at hSw); go_simp) <;> with_reducible rfl
   try simp only [Act.put, List.setIfInBounds_toArray, List.set_cons_zero, List.set_cons_succ]
   refine wpAnyH_take (i := 1) (v := ?_) (by simp only [List.getElem?_toArray, List.getElem?_cons_zero, List.getElem?_cons_succ]; rfl) (by kernel_rfl) (by kernel_rfl) (by kernel_rfl) (by intro _ _ _ h; exact h) (Or.inl ⟨by rfl, ?_⟩) (by assumption) ?_
   rotate_left
   ·(intro w' hSw; (try dsimp only at hSw); go_simp) <;> with_reducible rfl
   try simp only [Act.put, List.setIfInBounds_toArray, List.set_cons_zero, List.set_cons_succ]
   refine wpAnyH_take (i := 2) (v := ?_) (by simp only [List.getElem?_toArray, List.getElem?_cons_zero, List.getElem?_cons_succ]; rfl) (by kernel_rfl) (by kernel_rfl) (by kernel_rfl) (by intro _ _ _ h; exact h) (Or.inl ⟨by rfl, ?_⟩) (by assumption) ?_
   rotate_left
   ·(intro w' hSw; (try dsimp only at hSw); go_simp) <;> with_reducible rfl
   try simp only [Act.put, List.setIfInBounds_toArray, List.set_cons_zero, List.set_cons_succ]
   refine wpAnyH_take (i := 3) (v := ?_) (by simp only [List.getElem?_toArray, List.getElem?_cons_zero, List.getElem?_cons_succ]; rfl) (by kernel_rfl) (by kernel_rfl) (by kernel_rfl) (by intro _ _ _ h; exact h) (Or.inl ⟨by rfl, ?_⟩) (by assumption) ?_
   rotate_left
   ·(intro w' hSw; (try dsimp only at hSw); go_simp) <;> with_reducible rfl
   try simp only [Act.put, List.setIfInBounds_toArray, List.set_cons_zero, List.set_cons_succ]
   refine wpAnyH_take (i := 4) (v := ?_) (by simp only [List.getElem?_toArray, List.getElem?_cons_zero, List.getElem?_cons_succ]; rfl) (by kernel_rfl) (by kernel_rfl) (by kernel_rfl) (by intro _ _ _ h; exact h) (Or.inl ⟨by rfl, ?_⟩) (by assumption) ?_
   rotate_left
   ·(intro w' hSw; (try dsimp only at hSw); go_simp) <;> with_reducible rfl
   try simp only [Act.put, List.setIfInBounds_toArray, List.set_cons_zero, List.set_cons_succ]
   refine wpAnyH_take (i := 5) (v := ?_) (by simp only [List.getElem?_toArray, List.getElem?_cons_zero, List.getElem?_cons_succ]; rfl) (by kernel_rfl) (by kernel_rfl) (by kernel_rfl) (by intro _ _ _ h; exact h) (Or.inl ⟨by rfl, ?_⟩) (by assumption) ?_
   rotate_left
   ·(intro w' hSw; (try dsimp only at hSw); go_simp) <;> with_reducible rfl
   try simp only [Act.put, List.setIfInBounds_toArray, List.set_cons_zero, List.set_cons_succ]
   refine wpAnyH_take (i := 6) (v := ?_) (by simp only [List.getElem?_toArray, List.getElem?_cons_zero, List.getElem?_cons_succ]; rfl) (by kernel_rfl) (by kernel_rfl) (by kernel_rfl) (by intro _ _ _ h; exact h) (Or.inl ⟨by rfl, ?_⟩) (by assumption) ?_
   rotate_left
   ·(intro w' hSw; (try dsimp only at hSw); go_simp) <;> with_reducible rfl
   try simp only [Act.put, List.setIfInBounds_toArray, List.set_cons_zero, List.set_cons_succ]
   refine wpAnyH_take (i := 7) (v := ?_) (by simp only [List.getElem?_toArray, List.getElem?_cons_zero, List.getElem?_cons_succ]; rfl) (by kernel_rfl) (by kernel_rfl) (by kernel_rfl) (by intro _ _ _ h; exact h) (Or.inl ⟨by rfl, ?_⟩) (by assumption) ?_
   rotate_left
   ·(intro w' hSw; (try dsimp only at hSw); go_simp) <;> with_reducible rfl
   try simp only [Act.put, List.setIfInBounds_toArray, List.set_cons_zero, List.set_cons_succ]
   refine wpAnyH_take (i := 8) (v := ?_) (by simp only [List.getElem?_toArray, List.getElem?_cons_zero, List.getElem?_cons_succ]; rfl) (by kernel_rfl) (by kernel_rfl) (by kernel_rfl) (by intro _ _ _ h; exact h) (Or.inl ⟨by rfl, ?_⟩) (by assumption) ?_
   rotate_left
   ·(intro w' hSw; (try dsimp only at hSw); go_simp) <;> with_reducible rfl
   try simp only [Act.put, List.setIfInBounds_toArray, List.set_cons_zero, List.set_cons_succ]
   refine wpAnyH_ready (rs := [9]) (by kernel_rfl) (by simp) ?_
   refine AllReadyH.cons (by simp only [List.getElem?_toArray, List.getElem?_cons_zero, List.getElem?_cons_succ]; rfl) (fun K hK => ?_) AllReadyH.nil
   have e0 := HX.out.cell 0 rfl
   have f0 := HX.out.frozen 0
   have e1 := HX.out.cell 1 rfl
   have f1 := HX.out.frozen 1
   have e2 := HX.out.cell 2 rfl
   have f2 := HX.out.frozen 2
   have e3 := HX.out.cell 3 rfl
   have f3 := HX.out.frozen 3
   go_simp
   refine hK.out _ _ (HG2.out) (fun hHeld => ?_)
   clear hK K
   try simp only [Act.put, List.setIfInBounds_toArray, List.set_cons_zero, List.set_cons_succ]
   refine wpAnyH_take (i := 10) (v := ?_) (by simp only [List.getElem?_toArray, List.getElem?_cons_zero, List.getElem?_cons_succ]; rfl) (by kernel_rfl) (by kernel_rfl) (by kernel_rfl) (by intro _ _ _ h; exact h) (Or.inl ⟨by rfl, ?_⟩) (by assumption) ?_
   rotate_left
   ·(intro w' hSw; (try dsimp only at hSw); go_simp) <;> with_reducible rfl
   try simp only [Act.put, List.setIfInBounds_toArray, List.set_cons_zero, List.set_cons_succ]
   refine wpAnyH_done (by kernel_rfl) ?_ _
   clear e0 e1 e2 e3 f0 f1 f2 f3
   have q0 := HX4.out.cell 0 rfl
   have q1 := HX4.out.cell 1 rfl
   have q2 := HX4.out.cell 2 rfl
   have q3 := HX4.out.cell 3 rfl
   go_wp2
   refine bodyPost_ret (v := .tuple #[.agg #[.bool s1, .slice a 0 c, .bool s2, .slice b l2 k], .bool false]) (by simp [results, Tryz.results143, go_sem, q0, q1, q2, q3]) rfl HF.out
  | false =>
   refine wp_region_held_drew (S := fun W => W.cell? ⟨w1.heap.size, 0, none⟩ = some (.bool s1) ∧ W.cell? ⟨w1.heap.size, 1, none⟩ = some (.slice a 0 c) ∧ W.cell? ⟨w1.heap.size, 2, none⟩ = some (.bool s2) ∧ W.cell? ⟨w1.heap.size, 3, none⟩ = some (.slice b l2 k)) (by kernel_rfl) (HG.out _ HD.out) (fun hHeld => ?_)
   generalize W1.drew = Wd at *
   refine wpAnyH_take (i := 0) (v := ?_) (by simp only [List.getElem?_toArray, List.getElem?_cons_zero, List.getElem?_cons_succ]; rfl) (by kernel_rfl) (by kernel_rfl) (by kernel_rfl) (by intro _ _ _ h; exact h) (Or.inl ⟨by rfl, ?_⟩) (by assumption) ?_
   rotate_left
   ·(intro w' hSw; (try dsimp only at hSw); go_simp) <;> with_reducible rfl
   try simp only [Act.put, List.setIfInBounds_toArray, List.set_cons_zero, List.set_cons_succ]
   refine wpAnyH_take (i := 1) (v := ?_) (by simp only [List.getElem?_toArray, List.getElem?_cons_zero, List.getElem?_cons_succ]; rfl) (by kernel_rfl) (by kernel_rfl) (by kernel_rfl) (by intro _ _ _ h; exact h) (Or.inl ⟨by rfl, ?_⟩) (by assumption) ?_
   rotate_left
   ·(intro w' hSw; (try dsimp only at hSw); go_simp) <;> with_reducible rfl
   try simp only [Act.put, List.setIfInBounds_toArray, List.set_cons_zero, List.set_cons_succ]
   refine wpAnyH_take (i := 2) (v := ?_) (by simp only [List.getElem?_toArray, List.getElem?_cons_zero, List.getElem?_cons_succ]; rfl) (by kernel_rfl) (by kernel_rfl) (by kernel_rfl) (by intro _ _ _ h; exact h) (Or.inl ⟨by rfl, ?_⟩) (by assumption) ?_
   rotate_left
   ·(intro w' hSw; (try dsimp only at hSw); go_simp) <;> with_reducible rfl
   try simp only [Act.put, List.setIfInBounds_toArray, List.set_cons_zero, List.set_cons_succ]
   refine wpAnyH_take (i := 3) (v := undef) (by simp only [List.getElem?_toArray, List.getElem?_cons_zero, List.getElem?_cons_succ]; rfl) (by kernel_rfl) (by kernel_rfl) (by kernel_rfl) (by intro _ _ _ h; exact h) (Or.inr ⟨by rfl, rfl⟩) (by assumption) ?_
   try simp only [Act.put, List.setIfInBounds_toArray, List.set_cons_zero, List.set_cons_succ]
   refine wpAnyH_take (i := 4) (v := undef) (by simp only [List.getElem?_toArray, List.getElem?_cons_zero, List.getElem?_cons_succ]; rfl) (by kernel_rfl) (by kernel_rfl) (by kernel_rfl) (by intro _ _ _ h; exact h) (Or.inr ⟨by rfl, rfl⟩) (by assumption) ?_
   try simp only [Act.put, List.setIfInBounds_toArray, List.set_cons_zero, List.set_cons_succ]
   refine wpAnyH_take (i := 5) (v := undef) (by simp only [List.getElem?_toArray, List.getElem?_cons_zero, List.getElem?_cons_succ]; rfl) (by kernel_rfl) (by kernel_rfl) (by kernel_rfl) (by intro _ _ _ h; exact h) (Or.inr ⟨by rfl, rfl⟩) (by assumption) ?_
   try simp only [Act.put, List.setIfInBounds_toArray, List.set_cons_zero, List.set_cons_succ]
   refine wpAnyH_take (i := 6) (v := undef) (by simp only [List.getElem?_toArray, List.getElem?_cons_zero, List.getElem?_cons_succ]; rfl) (by kernel_rfl) (by kernel_rfl) (by kernel_rfl) (by intro _ _ _ h; exact h) (Or.inr ⟨by rfl, rfl⟩) (by assumption) ?_
   try simp only [Act.put, List.setIfInBounds_toArray, List.set_cons_zero, List.set_cons_succ]
   refine wpAnyH_take (i := 7) (v := undef) (by simp only [List.getElem?_toArray, List.getElem?_cons_zero, List.getElem?_cons_succ]; rfl) (by kernel_rfl) (by kernel_rfl) (by kernel_rfl) (by intro _ _ _ h; exact h) (Or.inr ⟨by rfl, rfl⟩) (by assumption) ?_
   try simp only [Act.put, List.setIfInBounds_toArray, List.set_cons_zero, List.set_cons_succ]
   refine wpAnyH_take (i := 8) (v := ?_) (by simp only [List.getElem?_toArray, List.getElem?_cons_zero, List.getElem?_cons_succ]; rfl) (by kernel_rfl) (by kernel_rfl) (by kernel_rfl) (by intro _ _ _ h; exact h) (Or.inl ⟨by rfl, ?_⟩) (by assumption) ?_
   rotate_left
   ·(intro w' hSw; (try dsimp only at hSw); go_simp) <;> with_reducible rfl
   try simp only [Act.put, List.setIfInBounds_toArray, List.set_cons_zero, List.set_cons_succ]
   refine wpAnyH_ready (rs := [9]) (by kernel_rfl) (by simp) ?_
   refine AllReadyH.cons (by simp only [List.getElem?_toArray, List.getElem?_cons_zero, List.getElem?_cons_succ]; rfl) (fun K hK => ?_) AllReadyH.nil
   have e0 := HX.out.cell 0 rfl
   have f0 := HX.out.frozen 0
   have e1 := HX.out.cell 1 rfl
   have f1 := HX.out.frozen 1
   have e2 := HX.out.cell 2 rfl
   have f2 := HX.out.frozen 2
   have e3 := HX.out.cell 3 rfl
   have f3 := HX.out.frozen 3
   go_simp
   refine hK.out _ _ (HG2.out) (fun hHeld => ?_)
   clear hK K
   try simp only [Act.put, List.setIfInBounds_toArray, List.set_cons_zero, List.set_cons_succ]
   refine wpAnyH_take (i := 10) (v := ?_) (by simp only [List.getElem?_toArray, List.getElem?_cons_zero, List.getElem?_cons_succ]; rfl) (by kernel_rfl) (by kernel_rfl) (by kernel_rfl) (by intro _ _ _ h; exact h) (Or.inl ⟨by rfl, ?_⟩) (by assumption) ?_
   rotate_left
   ·(intro w' hSw; (try dsimp only at hSw); go_simp) <;> with_reducible rfl
   try simp only [Act.put, List.setIfInBounds_toArray, List.set_cons_zero, List.set_cons_succ]
   refine wpAnyH_done (by kernel_rfl) ?_ _
   clear e0 e1 e2 e3 f0 f1 f2 f3
   have q0 := HX4.out.cell 0 rfl
   have q1 := HX4.out.cell 1 rfl
   have q2 := HX4.out.cell 2 rfl
   have q3 := HX4.out.cell 3 rfl
   go_wp2
   refine bodyPost_ret (v := .tuple #[.agg #[.bool s1, .slice a 0 c, .bool s2, .slice b l2 k], .bool false]) (by simp [results, Tryz.results143, go_sem, q0, q1, q2, q3]) rfl HF.out
end Go.Proofs.YtikiimlmoalbcaaGreatDoor.Fr
