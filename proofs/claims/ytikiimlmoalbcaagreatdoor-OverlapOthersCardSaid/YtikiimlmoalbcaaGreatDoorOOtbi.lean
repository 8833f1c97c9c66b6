/- Contract of bounded's positive at overlap's score; overlap.score. Contract of bounded.Least. Contracts of containment.asked, some, share, of. Contracts of containment.Top and containment.Least. -/
import Derived.Deep.RegionHeld3
import Derived.Test.YtikiimlmoalbcaaGreatDoorOOtau
import Derived.Test.YtikiimlmoalbcaaGreatDoorOOtbh
import Derived.Deep.Cut
import Derived.Deep.CutRange
set_option linter.unusedVariables false
set_option linter.unusedSimpArgs false
namespace Go.Proofs.YtikiimlmoalbcaaGreatDoor.Fr
open Go.RowKit
theorem tkbi {P : Program} {ops : Array Oper} {Q : Exit → Act → World → Prop} {md : Region.Mode} {S : World → Prop} {i : Nat} {oi : Oper} {v : Value} {fuel : Nat} {listed : Array Bool} {a : Act} {w : World} (a1 : ops[i]? = some oi := by simp only [List.getElem?_toArray, List.getElem?_cons_zero, List.getElem?_cons_succ]; rfl)
    (a2 : Region.noSelect ops = true := by kernel_rfl) (a3 : Region.free md ops listed i = true := by kernel_rfl) (a4 : (Region.ready md ops listed).contains i = true := by kernel_rfl) (a5 : ∀ (c : List PanicEntry) (a : Act) (w : World), Q (Exit.panic c) (a.put oi.dst v) w → Q (Exit.panic c) a w := by intro _ _ _ h; exact h)
    (y : YieldsIf P ops S oi v a) (a6 : S w := by assumption) (z : wpAnyH P md ops Q S fuel (listed.setIfInBounds i true) (a.put oi.dst v) w) : wpAnyH P md ops Q S (fuel + 1) listed a w := wpAnyH_take a1 a2 a3 a4 a5 y a6 z
theorem csbi {P : Program} {ops : Array Oper} {Q : Exit → Act → World → Prop} {md : Region.Mode} {S : World → Prop} {fuel : Nat} {listed : Array Bool} {a : Act} {w : World} {i : Nat} {o : Oper} {rs : List Nat} (a1 : ops[i]? = some o := by simp only [List.getElem?_toArray, List.getElem?_cons_zero, List.getElem?_cons_succ]; rfl)
    (x : ∀ (K' : Act → World → Prop), Shut (∀ (a : Act) (w : World), S w → (S w → wpAnyH P md ops Q S fuel (listed.setIfInBounds i true) a w) → K' a w) → if Region.wanted o (yielded ops a.tmps) = true then Oper.wp P o a w K' Q else K' (a.put o.dst undef) w)
    (y : AllReadyH P md ops Q S fuel listed a w rs) : AllReadyH P md ops Q S fuel listed a w (i :: rs) := AllReadyH.cons a1 x y
set_option maxRecDepth 100000 in
set_option maxHeartbeats 8000000 in
theorem pos_over (n d : Nat) (sz : Int) (w : World) (hd : 0 < n → 0 < d) (HS0 : ∀ W, Below w.heap.size w W → Calls Tryz.prog 77 #[.int .i64 (n : Int), .int .i64 sz] W (ScoreA W n d)) :
  Calls Tryz.prog 143 #[.func (.func 77) #[] #[], .int .i64 (n : Int), .int .i64 sz] w (PosP w n d) := by
 have HS := hid HS0
 clear HS0
 have hx := BoxN.new w #[.bool false, .slice none 0 0, .bool false, .slice none 0 0] 45
 have hb0 := (Below.refl w.heap.size w).alloc (Nat.le_refl _) (.cells #[.bool false, .slice none 0 0, .bool false, .slice none 0 0] 45)
 obtain ⟨W0, hW0⟩ : ∃ W, W = w.alloc (.cells #[.bool false, .slice none 0 0, .bool false, .slice none 0 0] 45) := ⟨_, rfl⟩
 have hz0 : W0.heap.size = w.heap.size + 1 := by rw [hW0, World.size_alloc]
 rw [← hW0] at hx hb0
 have HX0 := hid hx
 have HB0 := hid hb0
 have HZ0 := hid hz0
 clear hx hb0 hz0
 go_enter Tryz.func143, Tryz.ntmps143
 go_wp2_with fail
 rw [← hW0]
 clear hW0
 with_reducible refine (HS.out W0 HB0.out).mono ?_
 rintro e w1 ⟨s1, s2, ok, a, b, c, k, l1, l2, rfl, hb1, hpos, hzero⟩
 have HB1 := hid (HB0.out.trans (hb1.mono (by have := HZ0.out; omega)))
 have hx1 := HX0.out.below hb1 HX0.out.lt
 have hlt : w.heap.size < w1.heap.size := hx1.lt
 have hxn := BoxN.new w1 #[.bool s1, .slice a l1 c, .bool s2, .slice b l2 k] 45
 have hbn := (Below.refl w1.heap.size w1).alloc (Nat.le_refl _) (.cells #[.bool s1, .slice a l1 c, .bool s2, .slice b l2 k] 45)
 obtain ⟨W1, hW1⟩ : ∃ W, W = w1.alloc (.cells #[.bool s1, .slice a l1 c, .bool s2, .slice b l2 k] 45) := ⟨_, rfl⟩
 go_upto_region 2 with fail
 rw [← hW1]
 rw [← hW1] at hxn hbn
 clear hW1
 have HXR := hid (hx1.below hbn hlt)
 have HXN := hid hxn
 have HB2 := hid (HB1.out.trans (hbn.mono (by omega)))
 have HPOS := hid (fun (h : 0 < n) => (by
  obtain ⟨r1, r2, r3, r4, r5, hN⟩ := hpos h
  exact ⟨r1, r2, r3, r4, r5, hN.kept hbn⟩ : s1 = false ∧ s2 = false ∧ ok = true ∧ l1 = (dig (n / Nat.gcd n d)).length ∧ l2 = (dig (d / Nat.gcd n d)).length ∧ NewF W0.heap.size W1 a c b k (n / Nat.gcd n d) (d / Nat.gcd n d)))
 have HZ := hid hzero
 have HG := hid (fun W (hW : Below W1.heap.size W1 W) => (by
  have h1 := HXN.out.below hW HXN.out.lt
  exact ⟨h1.cell 0 rfl, h1.cell 1 rfl, h1.cell 2 rfl, h1.cell 3 rfl⟩ : W.cell? ⟨w1.heap.size, 0, none⟩ = some (.bool s1) ∧ W.cell? ⟨w1.heap.size, 1, none⟩ = some (.slice a l1 c) ∧ W.cell? ⟨w1.heap.size, 2, none⟩ = some (.bool s2) ∧ W.cell? ⟨w1.heap.size, 3, none⟩ = some (.slice b l2 k)))
 have HD := hid (show Below W1.heap.size W1 W1.drew from (Below.refl W1.heap.size W1).drew)
 clear hb1 hx1 hpos hzero hxn hbn
 have HX := hid (show BoxN W1.drew w.heap.size 45 #[.bool false, .slice none 0 0, .bool false, .slice none 0 0] from HXR.out)
 have hx2 : BoxN W1.drew w1.heap.size 45 #[.bool s1, .slice a l1 c, .bool s2, .slice b l2 k] := HXN.out
 generalize hWd : W1.drew = Wd at *
 have g0 : BoxN (Wd.setCell ⟨w.heap.size, 0, none⟩ (.bool s1)) w.heap.size 45 #[.bool s1, .slice none 0 0, .bool false, .slice none 0 0] := HX.out.set 0 _
 have o0 : BoxN (Wd.setCell ⟨w.heap.size, 0, none⟩ (.bool s1)) w1.heap.size 45 #[.bool s1, .slice a l1 c, .bool s2, .slice b l2 k] := hx2.other (p := ⟨w.heap.size, 0, none⟩) (by show w.heap.size ≠ w1.heap.size; omega) _
 have g1 : BoxN ((Wd.setCell ⟨w.heap.size, 0, none⟩ (.bool s1)).setCell ⟨w.heap.size, 1, none⟩ (.slice a l1 c)) w.heap.size 45 #[.bool s1, .slice a l1 c, .bool false, .slice none 0 0] := g0.set 1 _
 have o1 : BoxN ((Wd.setCell ⟨w.heap.size, 0, none⟩ (.bool s1)).setCell ⟨w.heap.size, 1, none⟩ (.slice a l1 c)) w1.heap.size 45 #[.bool s1, .slice a l1 c, .bool s2, .slice b l2 k] := o0.other (p := ⟨w.heap.size, 1, none⟩) (by show w.heap.size ≠ w1.heap.size; omega) _
 have g2 : BoxN (((Wd.setCell ⟨w.heap.size, 0, none⟩ (.bool s1)).setCell ⟨w.heap.size, 1, none⟩ (.slice a l1 c)).setCell ⟨w.heap.size, 2, none⟩ (.bool s2)) w.heap.size 45 #[.bool s1, .slice a l1 c, .bool s2, .slice none 0 0] := g1.set 2 _
 have o2 : BoxN (((Wd.setCell ⟨w.heap.size, 0, none⟩ (.bool s1)).setCell ⟨w.heap.size, 1, none⟩ (.slice a l1 c)).setCell ⟨w.heap.size, 2, none⟩ (.bool s2)) w1.heap.size 45 #[.bool s1, .slice a l1 c, .bool s2, .slice b l2 k] := o1.other (p := ⟨w.heap.size, 2, none⟩) (by show w.heap.size ≠ w1.heap.size; omega) _
 have g3 : BoxN ((((Wd.setCell ⟨w.heap.size, 0, none⟩ (.bool s1)).setCell ⟨w.heap.size, 1, none⟩ (.slice a l1 c)).setCell ⟨w.heap.size, 2, none⟩ (.bool s2)).setCell ⟨w.heap.size, 3, none⟩ (.slice b l2 k)) w.heap.size 45 #[.bool s1, .slice a l1 c, .bool s2, .slice b l2 k] := g2.set 3 _
 have o3 : BoxN ((((Wd.setCell ⟨w.heap.size, 0, none⟩ (.bool s1)).setCell ⟨w.heap.size, 1, none⟩ (.slice a l1 c)).setCell ⟨w.heap.size, 2, none⟩ (.bool s2)).setCell ⟨w.heap.size, 3, none⟩ (.slice b l2 k)) w1.heap.size 45 #[.bool s1, .slice a l1 c, .bool s2, .slice b l2 k] := o2.other (p := ⟨w.heap.size, 3, none⟩) (by show w.heap.size ≠ w1.heap.size; omega) _
 have HX4 := hid g3
 have HG2 : Hid (((((Wd.setCell ⟨w.heap.size, 0, none⟩ (.bool s1)).setCell ⟨w.heap.size, 1, none⟩ (.slice a l1 c)).setCell ⟨w.heap.size, 2, none⟩ (.bool s2)).setCell ⟨w.heap.size, 3, none⟩ (.slice b l2 k)).cell? ⟨w1.heap.size, 0, none⟩ = some (.bool s1) ∧ ((((Wd.setCell ⟨w.heap.size, 0, none⟩ (.bool s1)).setCell ⟨w.heap.size, 1, none⟩ (.slice a l1 c)).setCell ⟨w.heap.size, 2, none⟩ (.bool s2)).setCell ⟨w.heap.size, 3, none⟩ (.slice b l2 k)).cell? ⟨w1.heap.size, 1, none⟩ = some (.slice a l1 c) ∧ ((((Wd.setCell ⟨w.heap.size, 0, none⟩ (.bool s1)).setCell ⟨w.heap.size, 1, none⟩ (.slice a l1 c)).setCell ⟨w.heap.size, 2, none⟩ (.bool s2)).setCell ⟨w.heap.size, 3, none⟩ (.slice b l2 k)).cell? ⟨w1.heap.size, 2, none⟩ = some (.bool s2) ∧ ((((Wd.setCell ⟨w.heap.size, 0, none⟩ (.bool s1)).setCell ⟨w.heap.size, 1, none⟩ (.slice a l1 c)).setCell ⟨w.heap.size, 2, none⟩ (.bool s2)).setCell ⟨w.heap.size, 3, none⟩ (.slice b l2 k)).cell? ⟨w1.heap.size, 3, none⟩ = some (.slice b l2 k)) := hid ⟨o3.cell 0 rfl, o3.cell 1 rfl, o3.cell 2 rfl, o3.cell 3 rfl⟩
 have hbw : Below w.heap.size w Wd := by rw [← hWd]; exact HB2.out.drew
 have hb4 := (((hbw.setCell (p := ⟨w.heap.size, 0, none⟩) (Nat.le_refl _) (.bool s1)).setCell (p := ⟨w.heap.size, 1, none⟩) (Nat.le_refl _) (.slice a l1 c)).setCell (p := ⟨w.heap.size, 2, none⟩) (Nat.le_refl _) (.bool s2)).setCell (p := ⟨w.heap.size, 3, none⟩) (Nat.le_refl _) (.slice b l2 k)
 have HPN := hid (fun (h : 0 < n) => (by
  obtain ⟨r1, r2, r3, r4, r5, hN⟩ := HPOS.out h
  refine ⟨r1, r2, r4, r5, ?_⟩
  have hl0 : w.heap.size < W0.heap.size := by have := HZ0.out; omega
  have hN2 : NewF W0.heap.size Wd a c b k (n / Nat.gcd n d) (d / Nat.gcd n d) := by rw [← hWd]; exact hN
  exact ((((hN2.setCell (x := ⟨w.heap.size, 0, none⟩) hl0).setCell (x := ⟨w.heap.size, 1, none⟩) hl0).setCell (x := ⟨w.heap.size, 2, none⟩) hl0).setCell (x := ⟨w.heap.size, 3, none⟩) hl0).mono (by omega) : s1 = false ∧ s2 = false ∧ l1 = (dig (n / Nat.gcd n d)).length ∧ l2 = (dig (d / Nat.gcd n d)).length ∧ NewF w.heap.size ((((Wd.setCell ⟨w.heap.size, 0, none⟩ (.bool s1)).setCell ⟨w.heap.size, 1, none⟩ (.slice a l1 c)).setCell ⟨w.heap.size, 2, none⟩ (.bool s2)).setCell ⟨w.heap.size, 3, none⟩ (.slice b l2 k)) a c b k (n / Nat.gcd n d) (d / Nat.gcd n d)))
 have HFF := hid (fun (v : Bool) (hv : v = decide (0 < n)) => (⟨s1, s2, a, b, c, k, l1, l2, by rw [hv], hb4, HPN.out⟩ : PosP w n d (.returned (.tuple #[.agg #[.bool s1, .slice a l1 c, .bool s2, .slice b l2 k], .bool v])) ((((Wd.setCell ⟨w.heap.size, 0, none⟩ (.bool s1)).setCell ⟨w.heap.size, 1, none⟩ (.slice a l1 c)).setCell ⟨w.heap.size, 2, none⟩ (.bool s2)).setCell ⟨w.heap.size, 3, none⟩ (.slice b l2 k))))
 subst hWd
 clear g0 g1 g2 g3 o0 o1 o2 o3 hbw hb4 HPN hx2 HB2 HXR HXN HB1
 by_cases hn : 0 < n
 ·obtain ⟨-, -, rfl, hl1, -⟩ := HPOS.out hn
  have hlp : 0 < l1 := by
   rw [hl1]
   exact dig_length_pos.2 (Nat.div_pos (Nat.le_of_dvd hn (Nat.gcd_dvd_left _ _)) (Nat.gcd_pos_of_pos_left _ hn))
  have hli : (0 : Int) < (l1 : Int) := by omega
  have HF := hid (HFF.out true (decide_eq_true hn).symm)
  clear hl1 HPOS HFF HZ hd hn
  refine wp_region_held_drew (S := fun W => W.cell? ⟨w1.heap.size, 0, none⟩ = some (.bool s1) ∧ W.cell? ⟨w1.heap.size, 1, none⟩ = some (.slice a l1 c) ∧ W.cell? ⟨w1.heap.size, 2, none⟩ = some (.bool s2) ∧ W.cell? ⟨w1.heap.size, 3, none⟩ = some (.slice b l2 k)) (by kernel_rfl) (HG.out _ HD.out) (fun hHeld => ?_)
  generalize W1.drew = Wd at *
  refine tkbi (i := 0) (v := ?_) (y := (Or.inl ⟨by rfl, ?_⟩)) (z := ?_)
  rotate_left
  ·(intro w' hSw; (try dsimp only at hSw); go_simp) <;> with_reducible rfl
  try simp only [Act.put, List.setIfInBounds_toArray, List.set]
  refine tkbi (i := 1) (v := ?_) (y := (Or.inl ⟨by rfl, ?_⟩)) (z := ?_)
  rotate_left
  ·(intro w' hSw; (try dsimp only at hSw); go_simp) <;> with_reducible rfl
  try simp only [Act.put, List.setIfInBounds_toArray, List.set]
  refine tkbi (i := 2) (v := ?_) (y := (Or.inl ⟨by rfl, ?_⟩)) (z := ?_)
  rotate_left
  ·(intro w' hSw; (try dsimp only at hSw); go_simp) <;> with_reducible rfl
  try simp only [Act.put, List.setIfInBounds_toArray, List.set]
  refine tkbi (i := 3) (v := ?_) (y := (Or.inl ⟨by rfl, ?_⟩)) (z := ?_)
  rotate_left
  ·(intro w' hSw; (try dsimp only at hSw); go_simp) <;> with_reducible rfl
  try simp only [Act.put, List.setIfInBounds_toArray, List.set]
  refine tkbi (i := 4) (v := ?_) (y := (Or.inl ⟨by rfl, ?_⟩)) (z := ?_)
  rotate_left
  ·(intro w' hSw; (try dsimp only at hSw); go_simp) <;> with_reducible rfl
  try simp only [Act.put, List.setIfInBounds_toArray, List.set]
  refine tkbi (i := 5) (v := ?_) (y := (Or.inl ⟨by rfl, ?_⟩)) (z := ?_)
  rotate_left
  ·(intro w' hSw; (try dsimp only at hSw); go_simp) <;> with_reducible rfl
  try simp only [Act.put, List.setIfInBounds_toArray, List.set]
  refine tkbi (i := 6) (v := ?_) (y := (Or.inl ⟨by rfl, ?_⟩)) (z := ?_)
  rotate_left
  ·(intro w' hSw; (try dsimp only at hSw); go_simp) <;> with_reducible rfl
  try simp only [Act.put, List.setIfInBounds_toArray, List.set]
  refine tkbi (i := 7) (v := ?_) (y := (Or.inl ⟨by rfl, ?_⟩)) (z := ?_)
  rotate_left
  ·(intro w' hSw; (try dsimp only at hSw); go_simp) <;> with_reducible rfl
  try simp only [Act.put, List.setIfInBounds_toArray, List.set]
  refine tkbi (i := 8) (v := ?_) (y := (Or.inl ⟨by rfl, ?_⟩)) (z := ?_)
  rotate_left
  ·(intro w' hSw; (try dsimp only at hSw); go_simp) <;> with_reducible rfl
  try simp only [Act.put, List.setIfInBounds_toArray, List.set]
  refine wpAnyH_ready (rs := [9]) (by kernel_rfl) (by simp) ?_
  refine csbi (x := fun K hK => ?_) (y := AllReadyH.nil)
  have e0 := HX.out.cell 0 rfl
  have f0 := HX.out.frozen 0
  have e1 := HX.out.cell 1 rfl
  have f1 := HX.out.frozen 1
  have e2 := HX.out.cell 2 rfl
  have f2 := HX.out.frozen 2
  have e3 := HX.out.cell 3 rfl
  have f3 := HX.out.frozen 3
  go_simp
  refine hK.out _ _ (HG2.out) (fun hHeld => ?_)
  clear hK K
  try simp only [Act.put, List.setIfInBounds_toArray, List.set]
  refine tkbi (i := 10) (v := ?_) (y := (Or.inl ⟨by rfl, ?_⟩)) (z := ?_)
  rotate_left
  ·(intro w' hSw; (try dsimp only at hSw); go_simp) <;> with_reducible rfl
  try simp only [Act.put, List.setIfInBounds_toArray, List.set]
  refine wpAnyH_done (by kernel_rfl) ?_ _
  clear e0 e1 e2 e3 f0 f1 f2 f3
  have q0 := HX4.out.cell 0 rfl
  have q1 := HX4.out.cell 1 rfl
  have q2 := HX4.out.cell 2 rfl
  have q3 := HX4.out.cell 3 rfl
  go_wp2
  refine bodyPost_ret (v := .tuple #[.agg #[.bool s1, .slice a l1 c, .bool s2, .slice b l2 k], .bool true]) (by simp [results, Tryz.results143, go_sem, q0, q1, q2, q3]) rfl HF.out
 ·have hn0 : n = 0 := by omega
  have hl0 := HZ.out hn0
  have HF := hid (HFF.out false (decide_eq_false hn).symm)
  clear HPOS HFF HZ hd hn0 hn
  subst hl0
  cases ok with
  | true =>
   refine wp_region_held_drew (S := fun W => W.cell? ⟨w1.heap.size, 0, none⟩ = some (.bool s1) ∧ W.cell? ⟨w1.heap.size, 1, none⟩ = some (.slice a 0 c) ∧ W.cell? ⟨w1.heap.size, 2, none⟩ = some (.bool s2) ∧ W.cell? ⟨w1.heap.size, 3, none⟩ = some (.slice b l2 k)) (by kernel_rfl) (HG.out _ HD.out) (fun hHeld => ?_)
   generalize W1.drew = Wd at *
   refine tkbi (i := 0) (v := ?_) (y := (Or.inl ⟨by rfl, ?_⟩)) (z := ?_)
   rotate_left
   ·(intro w' hSw; (try dsimp only at hSw); go_simp) <;> with_reducible rfl
   try simp only [Act.put, List.setIfInBounds_toArray, List.set]
   refine tkbi (i := 1) (v := ?_) (y := (Or.inl ⟨by rfl, ?_⟩)) (z := ?_)
   rotate_left
   ·(intro w' hSw; (try dsimp only at hSw); go_simp) <;> with_reducible rfl
   try simp only [Act.put, List.setIfInBounds_toArray, List.set]
   refine tkbi (i := 2) (v := ?_) (y := (Or.inl ⟨by rfl, ?_⟩)) (z := ?_)
   rotate_left
   ·(intro w' hSw; (try dsimp only at hSw); go_simp) <;> with_reducible rfl
   try simp only [Act.put, List.setIfInBounds_toArray, List.set]
   refine tkbi (i := 3) (v := ?_) (y := (Or.inl ⟨by rfl, ?_⟩)) (z := ?_)
   rotate_left
   ·(intro w' hSw; (try dsimp only at hSw); go_simp) <;> with_reducible rfl
   try simp only [Act.put, List.setIfInBounds_toArray, List.set]
   refine tkbi (i := 4) (v := ?_) (y := (Or.inl ⟨by rfl, ?_⟩)) (z := ?_)
   rotate_left
   ·(intro w' hSw; (try dsimp only at hSw); go_simp) <;> with_reducible rfl
   try simp only [Act.put, List.setIfInBounds_toArray, List.set]
   refine tkbi (i := 5) (v := ?_) (y := (Or.inl ⟨by rfl, ?_⟩)) (z := ?_)
   rotate_left
   ·(intro w' hSw; (try dsimp only at hSw); go_simp) <;> with_reducible rfl
   try simp only [Act.put, List.setIfInBounds_toArray, List.set]
   refine tkbi (i := 6) (v := ?_) (y := (Or.inl ⟨by rfl, ?_⟩)) (z := ?_)
   rotate_left
   ·(intro w' hSw; (try dsimp only at hSw); go_simp) <;> with_reducible rfl
   try simp only [Act.put, List.setIfInBounds_toArray, List.set]
   refine tkbi (i := 7) (v := ?_) (y := (Or.inl ⟨by rfl, ?_⟩)) (z := ?_)
   rotate_left
   ·(intro w' hSw; (try dsimp only at hSw); go_simp) <;> with_reducible rfl
   try simp only [Act.put, List.setIfInBounds_toArray, List.set]
   refine tkbi (i := 8) (v := ?_) (y := (Or.inl ⟨by rfl, ?_⟩)) (z := ?_)
   rotate_left
   ·(intro w' hSw; (try dsimp only at hSw); go_simp) <;> with_reducible rfl
   try simp only [Act.put, List.setIfInBounds_toArray, List.set]
   refine wpAnyH_ready (rs := [9]) (by kernel_rfl) (by simp) ?_
   refine csbi (x := fun K hK => ?_) (y := AllReadyH.nil)
   have e0 := HX.out.cell 0 rfl
   have f0 := HX.out.frozen 0
   have e1 := HX.out.cell 1 rfl
   have f1 := HX.out.frozen 1
   have e2 := HX.out.cell 2 rfl
   have f2 := HX.out.frozen 2
   have e3 := HX.out.cell 3 rfl
   have f3 := HX.out.frozen 3
   go_simp
   refine hK.out _ _ (HG2.out) (fun hHeld => ?_)
   clear hK K
   try simp only [Act.put, List.setIfInBounds_toArray, List.set]
   refine tkbi (i := 10) (v := ?_) (y := (Or.inl ⟨by rfl, ?_⟩)) (z := ?_)
   rotate_left
   ·(intro w' hSw; (try dsimp only at hSw); go_simp) <;> with_reducible rfl
   try simp only [Act.put, List.setIfInBounds_toArray, List.set]
   refine wpAnyH_done (by kernel_rfl) ?_ _
   clear e0 e1 e2 e3 f0 f1 f2 f3
   have q0 := HX4.out.cell 0 rfl
   have q1 := HX4.out.cell 1 rfl
   have q2 := HX4.out.cell 2 rfl
   have q3 := HX4.out.cell 3 rfl
   go_wp2
   refine bodyPost_ret (v := .tuple #[.agg #[.bool s1, .slice a 0 c, .bool s2, .slice b l2 k], .bool false]) (by simp [results, Tryz.results143, go_sem, q0, q1, q2, q3]) rfl HF.out
  | false =>
   refine wp_region_held_drew (S := fun W => W.cell? ⟨w1.heap.size, 0, none⟩ = some (.bool s1) ∧ W.cell? ⟨w1.heap.size, 1, none⟩ = some (.slice a 0 c) ∧ W.cell? ⟨w1.heap.size, 2, none⟩ = some (.bool s2) ∧ W.cell? ⟨w1.heap.size, 3, none⟩ = some (.slice b l2 k)) (by kernel_rfl) (HG.out _ HD.out) (fun hHeld => ?_)
   generalize W1.drew = Wd at *
   refine tkbi (i := 0) (v := ?_) (y := (Or.inl ⟨by rfl, ?_⟩)) (z := ?_)
   rotate_left
   ·(intro w' hSw; (try dsimp only at hSw); go_simp) <;> with_reducible rfl
   try simp only [Act.put, List.setIfInBounds_toArray, List.set]
   refine tkbi (i := 1) (v := ?_) (y := (Or.inl ⟨by rfl, ?_⟩)) (z := ?_)
   rotate_left
   ·(intro w' hSw; (try dsimp only at hSw); go_simp) <;> with_reducible rfl
   try simp only [Act.put, List.setIfInBounds_toArray, List.set]
   refine tkbi (i := 2) (v := ?_) (y := (Or.inl ⟨by rfl, ?_⟩)) (z := ?_)
   rotate_left
   ·(intro w' hSw; (try dsimp only at hSw); go_simp) <;> with_reducible rfl
   try simp only [Act.put, List.setIfInBounds_toArray, List.set]
   refine tkbi (i := 3) (v := undef) (y := (Or.inr ⟨by rfl, rfl⟩)) (z := ?_)
   try simp only [Act.put, List.setIfInBounds_toArray, List.set]
   refine tkbi (i := 4) (v := undef) (y := (Or.inr ⟨by rfl, rfl⟩)) (z := ?_)
   try simp only [Act.put, List.setIfInBounds_toArray, List.set]
   refine tkbi (i := 5) (v := undef) (y := (Or.inr ⟨by rfl, rfl⟩)) (z := ?_)
   try simp only [Act.put, List.setIfInBounds_toArray, List.set]
   refine tkbi (i := 6) (v := undef) (y := (Or.inr ⟨by rfl, rfl⟩)) (z := ?_)
   try simp only [Act.put, List.setIfInBounds_toArray, List.set]
   refine tkbi (i := 7) (v := undef) (y := (Or.inr ⟨by rfl, rfl⟩)) (z := ?_)
   try simp only [Act.put, List.setIfInBounds_toArray, List.set]
   refine tkbi (i := 8) (v := ?_) (y := (Or.inl ⟨by rfl, ?_⟩)) (z := ?_)
   rotate_left
   ·(intro w' hSw; (try dsimp only at hSw); go_simp) <;> with_reducible rfl
   try simp only [Act.put, List.setIfInBounds_toArray, List.set]
   refine wpAnyH_ready (rs := [9]) (by kernel_rfl) (by simp) ?_
   refine csbi (x := fun K hK => ?_) (y := AllReadyH.nil)
   have e0 := HX.out.cell 0 rfl
   have f0 := HX.out.frozen 0
   have e1 := HX.out.cell 1 rfl
   have f1 := HX.out.frozen 1
   have e2 := HX.out.cell 2 rfl
   have f2 := HX.out.frozen 2
   have e3 := HX.out.cell 3 rfl
   have f3 := HX.out.frozen 3
   go_simp
   refine hK.out _ _ (HG2.out) (fun hHeld => ?_)
   clear hK K
   try simp only [Act.put, List.setIfInBounds_toArray, List.set]
   refine tkbi (i := 10) (v := ?_) (y := (Or.inl ⟨by rfl, ?_⟩)) (z := ?_)
   rotate_left
   ·(intro w' hSw; (try dsimp only at hSw); go_simp) <;> with_reducible rfl
   try simp only [Act.put, List.setIfInBounds_toArray, List.set]
   refine wpAnyH_done (by kernel_rfl) ?_ _
   clear e0 e1 e2 e3 f0 f1 f2 f3
   have q0 := HX4.out.cell 0 rfl
   have q1 := HX4.out.cell 1 rfl
   have q2 := HX4.out.cell 2 rfl
   have q3 := HX4.out.cell 3 rfl
   go_wp2
   refine bodyPost_ret (v := .tuple #[.agg #[.bool s1, .slice a 0 c, .bool s2, .slice b l2 k], .bool false]) (by simp [results, Tryz.results143, go_sem, q0, q1, q2, q3]) rfl HF.out
set_option maxRecDepth 100000 in
set_option maxHeartbeats 2000000 in
theorem over_score (n : Nat) (sz : Int) (w : World) (hn : n < 4294967296) :
  Calls Tryz.prog 77 #[.int .i64 (n : Int), .int .i64 sz] w (ScoreA w n 1) := by
 have HOF := hid (fun W => frac_Of1 n 1 W (by omega) (by omega) (by omega))
 rw [show ((1 : Nat) : Int) = 1 from rfl] at HOF
 have HX0 := hid (BoxN.new w #[.bool false, .slice none 0 0, .bool false, .slice none 0 0] 45)
 have HB0 := hid ((Below.refl w.heap.size w).alloc (Nat.le_refl _) (.cells #[.bool false, .slice none 0 0, .bool false, .slice none 0 0] 45))
 have HZ : Hid (n = 0 → (dig (n / Nat.gcd n 1)).length = 0) := hid (fun h => by subst h; rw [Nat.zero_div, dig_zero]; rfl)
 obtain ⟨P, hPE⟩ : ∃ P, P = n / Nat.gcd n 1 := ⟨_, rfl⟩
 obtain ⟨Q, hQE⟩ : ∃ Q, Q = 1 / Nat.gcd n 1 := ⟨_, rfl⟩
 rw [← hPE] at HOF HZ
 rw [← hQE] at HOF
 have HPE := hid hPE
 have HQE := hid hQE
 clear hPE hQE
 go_enter Tryz.func77, Tryz.ntmps77
 go_wp2_with fail
 with_reducible refine (HOF.out _).mono ?_
 rintro e w1 ⟨a, c, a', c', rfl, hN, hb1⟩
 have hX1 := HX0.out.below hb1 HX0.out.lt
 have HB1 := hid (HB0.out.trans (hb1.mono HB0.out.size))
 have hz1 : w.heap.size + 1 ≤ w1.heap.size := by have := hb1.size; simpa using this
 have HX2 := hid (hX1.alloc (.cells #[.bool false, .slice a (dig P).length c, .bool false, .slice a' (dig Q).length c'] 45))
 have HY2 := hid (BoxN.new w1 #[.bool false, .slice a (dig P).length c, .bool false, .slice a' (dig Q).length c'] 45)
 have HB2 := hid (HB1.out.alloc HB1.out.size (.cells #[.bool false, .slice a (dig P).length c, .bool false, .slice a' (dig Q).length c'] 45))
 have HN2 := hid (hN.kept ((Below.refl w1.heap.size w1).alloc (Nat.le_refl _) (.cells #[.bool false, .slice a (dig P).length c, .bool false, .slice a' (dig Q).length c'] 45)))
 have hw0 : w.heap.size < (w.alloc (.cells #[.bool false, .slice none 0 0, .bool false, .slice none 0 0] 45)).heap.size := by rw [World.size_alloc]; omega
 have HG4 := hid ((((HX2.out.set 0 (.bool false)).set 1 (.slice a (dig P).length c)).set 2 (.bool false)).set 3 (.slice a' (dig Q).length c'))
 have HB4 := hid ((((HB2.out.setCell (p := ⟨w.heap.size, 0, none⟩) (Nat.le_refl _) (.bool false)).setCell (p := ⟨w.heap.size, 1, none⟩) (Nat.le_refl _) (.slice a (dig P).length c)).setCell (p := ⟨w.heap.size, 2, none⟩) (Nat.le_refl _) (.bool false)).setCell (p := ⟨w.heap.size, 3, none⟩) (Nat.le_refl _) (.slice a' (dig Q).length c'))
 have HN4 := hid ((((HN2.out.setCell (x := ⟨w.heap.size, 0, none⟩) (v := .bool false) hw0).setCell (x := ⟨w.heap.size, 1, none⟩) (v := .slice a (dig P).length c) hw0).setCell (x := ⟨w.heap.size, 2, none⟩) (v := .bool false) hw0).setCell (x := ⟨w.heap.size, 3, none⟩) (v := .slice a' (dig Q).length c') hw0)
 have x0 := HX2.out.cell 0 rfl
 have x1 := HX2.out.cell 1 rfl
 have x2 := HX2.out.cell 2 rfl
 have x3 := HX2.out.cell 3 rfl
 have f0 := HX2.out.frozen 0
 have f1 := HX2.out.frozen 1
 have f2 := HX2.out.frozen 2
 have f3 := HX2.out.frozen 3
 have y0 := HY2.out.cell 0 rfl
 have y1 := HY2.out.cell 1 rfl
 have y2 := HY2.out.cell 2 rfl
 have y3 := HY2.out.cell 3 rfl
 have HWL := hid (show w.heap.size ≤ (w.alloc (.cells #[.bool false, .slice none 0 0, .bool false, .slice none 0 0] 45)).heap.size by rw [World.size_alloc]; omega)
 clear hN hb1 hX1 hw0
 go_wp2
 have z0 := HG4.out.cell 0 rfl
 have z1 := HG4.out.cell 1 rfl
 have z2 := HG4.out.cell 2 rfl
 have z3 := HG4.out.cell 3 rfl
 refine bodyPost_ret (v := .tuple #[.agg #[.bool false, .slice a (dig P).length c, .bool false, .slice a' (dig Q).length c'], .bool true]) (by simp [results, Tryz.results77, go_sem, z0, z1, z2, z3]) rfl ?_
 exact ⟨false, false, true, a, a', c, c', _, _, rfl, HB4.out, fun _ => by rw [← HPE.out, ← HQE.out]; exact ⟨rfl, rfl, rfl, rfl, rfl, HN4.out.mono HWL.out⟩, HZ.out⟩
end Go.Proofs.YtikiimlmoalbcaaGreatDoor.Fr

namespace Go.Proofs.YtikiimlmoalbcaaGreatDoor
open Go.RowKit
end Go.Proofs.YtikiimlmoalbcaaGreatDoor

namespace Go.Proofs.YtikiimlmoalbcaaGreatDoor
open Go.RowKit
def denK (kind Q n s : Nat) : Nat := Fr.denOf kind n Q s
theorem ScoOk.later {w W : World} {fv : Value} {Q : Nat} {den : Nat → Nat → Nat} (h : ScoOk w fv Q den) (hb : Below w.heap.size w W) : ScoOk W fv Q den :=
 ⟨h.sco, h.small, fun n s V h1 h2 h3 hV => h.call n s V h1 h2 h3 (hb.trans (hV.mono hb.size))⟩
end Go.Proofs.YtikiimlmoalbcaaGreatDoor

namespace Go.Proofs.YtikiimlmoalbcaaGreatDoor
open Go.RowKit
def CertE (E : Prop) (cs : List Cv) (q : List ByteArray) (Good : List ByteArray → Nat → List Nat → Prop) (B : Nat) (W : World) (lv cv : Value) : Prop := E ∨ CertP cs q Good B W lv cv
section
variable {E : Prop} {cs : List Cv} {q : List ByteArray} {Good : List ByteArray → Nat → List Nat → Prop} {B B' : Nat} {W W' : World} {lv cv : Value}
theorem CertE.later (h : CertE E cs q Good B W lv cv) (hb : Below W.heap.size W W') : CertE E cs q Good B W' lv cv := by
 rcases h with h | ⟨pl, r, cols, h1, h2, h3, h4, h5, h6⟩
 ·exact .inl h
 ·exact .inr ⟨pl, r, cols, h1, h2, h3, (InK.keep h4 fun p hp => hb.cell (p := p) hp.2).more fun k hk => ⟨hk.1, Nat.lt_of_lt_of_le hk.2 hb.size⟩, h5.later hb, h6⟩
theorem CertE.set (h : CertE E cs q Good B W lv cv) {x : Addr} (hx : x.block < B) (u : Value) : CertE E cs q Good B (W.setCell x u) lv cv := by
 rcases h with h | ⟨pl, r, cols, h1, h2, h3, h4, h5, h6⟩
 ·exact .inl h
 ·exact .inr ⟨pl, r, cols, h1, h2, h3, (InK.keep h4 fun p hp => World.cell?_of_block (Below.heap_setCell _ _ _ _ (by have := hp.1; omega))).more fun k hk => ⟨hk.1, by simpa using hk.2⟩, h5.set hx u, h6⟩
theorem CertE.base (h : CertE E cs q Good B W lv cv) (hB : B' ≤ B) : CertE E cs q Good B' W lv cv := by
 rcases h with h | ⟨pl, r, cols, h1, h2, h3, h4, h5, h6⟩
 ·exact .inl h
 ·exact .inr ⟨pl, r, cols, h1, h2, h3, h4.more fun k hk => ⟨Nat.le_trans hB hk.1, hk.2⟩, h5.base hB, h6⟩
end
def CTopP (w : World) (cs : List Cv) (q : List ByteArray) (kind k : Nat) (e : Ending) (w' : World) : Prop :=
  ∃ (va : Option Addr) (vc : Nat) (H : List Nat) (ds : List Mq) (la ca : Option Addr) (ln lc cn cc : Nat), e = .returned (.tuple #[.slice va ds.length vc, .agg #[.slice la ln lc, .slice ca cn cc], .int .i64 0]) ∧ HtsRd w.heap.size w' (.slice va ds.length vc) (denK kind q.length) cs (comC cs q) H ds ∧ (∀ S, HitsOk (denK kind q.length) cs q S → H = S.take k) ∧
    CertE (k = 0 ∧ ln = 0 ∧ lc = 0 ∧ cn = 0 ∧ cc = 0) cs q (fun vs r cols => GoodT (denK kind q.length) cs vs k r cols) w.heap.size w' (.slice la ln lc) (.slice ca cn cc) ∧ Below w.heap.size w w'
def CLeastP (w : World) (cs : List Cv) (q : List ByteArray) (kind p0 q0 : Nat) (e : Ending) (w' : World) : Prop :=
  ∃ (va : Option Addr) (vc : Nat) (H : List Nat) (ds : List Mq) (la ca : Option Addr) (ln lc cn cc : Nat), e = .returned (.tuple #[.slice va ds.length vc, .agg #[.slice la ln lc, .slice ca cn cc], .int .i64 0]) ∧ HtsRd w.heap.size w' (.slice va ds.length vc) (denK kind q.length) cs (comC cs q) H ds ∧ (∀ S, HitsOk (denK kind q.length) cs q S → H = S.filter (geU (denK kind q.length) cs q p0 q0)) ∧
    CertE False cs q (fun vs r cols => GoodL (denK kind q.length) cs vs p0 q0 r cols) w.heap.size w' (.slice la ln lc) (.slice ca cn cc) ∧ Below w.heap.size w w'
end Go.Proofs.YtikiimlmoalbcaaGreatDoor
