/- Contracts of slices.insertionSortCmpFunc and rotateCmpFunc at numbers: the same numbers in some order. -/
import Derived.Test.YtikiimlmoalbcaaGreatDoorOOtan
set_option linter.unusedVariables false
set_option linter.unusedSimpArgs false
namespace Go.Proofs.YtikiimlmoalbcaaGreatDoor
open Go.RowKit
def CmpQ (xs : List Nat) (b xb : Nat) (w : World) : Prop := ∀ W, BarZ w b W → ∀ x ∈ xs, ∀ y ∈ xs,
  Calls Tryz.prog 154 #[.int .i64 (x : Int), .int .i64 (y : Int), .pointer (some ⟨xb, 0, none⟩)] W (fun e w' => (∃ z : Int, e = .returned (.int .i64 z)) ∧ Below W.heap.size W w')
theorem CmpQ.go {xs ys : List Nat} {b xb : Nat} {w W : World} (h : CmpQ xs b xb w) (hp : ys.Perm xs) (hW : BarZ w b W) : CmpQ ys b xb W := fun W' hW' x hx y hy => h W' (hW.trans hW') x (hp.mem_iff.1 hx) y (hp.mem_iff.1 hy)
theorem PermP.after {w w' : World} {base b cap n : Nat} {xs ys : List Nat} {e : Ending} {w2 : World} (hp : ys.Perm xs) (hb : BarZ w b w') (h : PermP w' base b cap n ys e w2) : PermP w base b cap n xs e w2 := by
  obtain ⟨h1, zs, h2, h3, h4⟩ := h
  exact ⟨h1, zs, h2.trans hp, h3, hb.trans h4⟩
set_option maxRecDepth 100000 in
set_option maxHeartbeats 4000000 in
theorem ins_sortN (xs : List Nat) (base b cap n a c xb : Nat) (w : World) (h : RowI w base b cap n xs) (hac : a ≤ c) (hc : c ≤ n) (hn : n ≤ 1048576) (hC : CmpQ xs b xb w) :
  Calls Tryz.prog 214 #[.slice (some ⟨b, 0, none⟩) n cap, .int .i64 (a : Int), .int .i64 (c : Int), .func (.func 154) #[] #[.pointer (some ⟨xb, 0, none⟩)]] w (PermP w base b cap n xs) := by
 have H := hid h
 have HC := hid hC
 clear h hC
 go_enter Tryz.func214, Tryz.ntmps214
 go_wp2_with fail
 go_loopg [8] (c - a) (fun K i wr => ∃ (q : Nat) (ys : List Nat), i = .int .i64 ((a : Int) + 1 + (q : Int)) ∧ (K = c - a - q) ∧ q ≤ c - a ∧ Hid (ys.Perm xs) ∧ Hid (RowI wr base b cap n ys) ∧ Hid (BarZ w b wr))
 case atStart => exact ⟨0, xs, by go_num, by omega, by omega, hid (List.Perm.refl _), H, hid (BarZ.refl _ _)⟩
 case round =>
  obtain ⟨q, ys, rfl, hq, hqc, HP, HR, HB⟩ := hrel
  obtain ⟨i, hie⟩ : ∃ i, i = a + 1 + q := ⟨_, rfl⟩
  have hia : (a : Int) + 1 + (q : Int) = (i : Int) := by omega
  rw [hia]
  clear hia
  obtain ⟨gA, rfl⟩ : ∃ g, g = gk := ⟨gk, rfl⟩
  by_cases hp : i < c
  ·have hpi : (i : Int) < (c : Int) := by omega
   have hie2 := hid hie
   clear hie
   generalize hLB : Code.loop _ = LB
   go_wp2_with fail
   subst hLB
   go_loopg [9] (i - a) (fun K jv wr => ∃ (j : Nat) (ys : List Nat), jv = .int .i64 (j : Int) ∧ j = a + K ∧ j ≤ i ∧ Hid (ys.Perm xs) ∧ Hid (RowI wr base b cap n ys) ∧ Hid (BarZ w b wr))
   case atStart => exact ⟨i, ys, rfl, by have := hie2.out; omega, by omega, HP, HR, HB⟩
   case round =>
    clear HP HR HB
    obtain ⟨j, ys, rfl, hj0, hji, HP, HR, HB⟩ := hrel
    have HJ := hid hj0
    by_cases hp2 : 0 < gk
    ·have hja : (a : Int) < (j : Int) := by omega
     obtain ⟨p, hpe⟩ : ∃ p, j = p + 1 := ⟨j - 1, by omega⟩
     have hi : j < n := by have := hie2.out; omega
     have hj : p < n := by omega
     have hsub : (j : Int) - 1 = (p : Int) := by omega
     have hwr1 : IntKind.i64.wrap ((j : Int) - 1) = (p : Int) := by rw [IntKind.wrap_i64]; omega
     have hwr2 : IntKind.i64.wrap (p : Int) = (p : Int) := by rw [IntKind.wrap_i64]; omega
     have hp0 : (0 : Int) ≤ (p : Int) := by omega
     have hj0p : (0 : Int) ≤ (j : Int) := by omega
     have hii : (j : Int) < (n : Int) := by omega
     have hjj : (p : Int) < (n : Int) := by omega
     have hne : j ≠ p := by omega
     have hpj : p = a + (gk - 1) := by omega
     have hpi2 : p ≤ i := by omega
     have HPJ := hid hpj
     clear hpe hj0 hpj
     have k0 := HR.out.at hi
     have k1 := HR.out.at hj
     have hu : ys.getD j 0 ∈ xs := HP.out.mem_iff.1 (getD_mem (by rw [HR.out.1]; exact hi) 0)
     have hv : ys.getD p 0 ∈ xs := HP.out.mem_iff.1 (getD_mem (by rw [HR.out.1]; exact hj) 0)
     have HG := hid (fun W (hW : Below wr.heap.size wr W) => (⟨(HR.out.later hW).at hi, (HR.out.later hW).at hj⟩ : W.cell? ⟨b, j, none⟩ = some (.int .i64 ((ys.getD j 0 : Nat) : Int)) ∧ W.cell? ⟨b, p, none⟩ = some (.int .i64 ((ys.getD p 0 : Nat) : Int))))
     have HD := hid ((Below.refl wr.heap.size wr).drew)
     have HQ := hid (fun W (hW : Below wr.heap.size wr W) => HC.out W (HB.out.quiet hW) _ hu _ hv)
     generalize hU : ys.getD j 0 = u at *
     generalize hV : ys.getD p 0 = v at *
     have HU := hid hU
     have HV := hid hV
     clear hU hV hu hv
     go_upto_region 4 with fail
     go_region_held3 (fun W => W.cell? ⟨b, j, none⟩ = some (.int .i64 (u : Int)) ∧ W.cell? ⟨b, p, none⟩ = some (.int .i64 (v : Int)))
      (first | exact HG.out _ HD.out | exact HG.out _ HD5.out | go_keep)
      ((go_at_call 154; go_must ((with_reducible refine (HQ.out _ HD.out).mono ?_); rintro e w5 ⟨⟨z, rfl⟩, hb5⟩; have HD5 := hid (HD.out.trans (hb5.mono HD.out.size)); clear hb5)))
     clear k0 k1
     have HR5 := hid (HR.out.later HD5.out)
     have HB5 := hid (HB.out.quiet HD5.out)
     clear HG HQ HD HD5 HR HB
     by_cases hz : z < 0
     ·obtain ⟨wr, rfl⟩ : ∃ W, W = w5 := ⟨w5, rfl⟩
      have HR := HR5
      have HB := HB5
      clear HR5 HB5
      have k0 := HR.out.at hi
      have k1 := HR.out.at hj
      have f0 := HR.out.2.frozenAt j
      have f1 := HR.out.2.frozenAt p
      have HS1 := hid (RowI.swap (w := wr.drew) HR.out hi hj)
      have HS2 := hid (RowI.swap' (w := wr.drew) HR.out hi hj hne)
      have HB1 := hid (fun i j u v => barZ_swap HB.out.drew i j u v)
      have HPM := hid ((swapN_perm (by rw [HR.out.1]; exact hi) (by rw [HR.out.1]; exact hj)).trans HP.out)
      generalize swapN ys j p = zs at *
      rw [HU.out] at k0 HS1 HS2
      rw [HV.out] at k1 HS1 HS2
      clear HP HR HB hne
      go_upto_region 6 with fail
      go_region
      all_goals
       go_wp2_with fail
       go_roundg (gk - 1)
       case rel => exact ⟨p, zs, by go_num, HPJ.out, by omega, HPM, hid (by first | exact HS1.out | exact HS2.out), hid (by first | exact HB1.out _ _ _ _)⟩
       case measure => omega
     ·have hzd : decide (z < 0) = false := decide_eq_false hz
      go_wp2_with fail
      go_roundg (c - a - (q + 1))
      case rel => exact ⟨q + 1, ys, by have := hie2.out; go_num, by omega, by have := hie2.out; omega, HP, HR5, HB5⟩
      case measure => have := hie2.out; omega
    ·have hja : ¬ (a : Int) < (j : Int) := by omega
     clear hj0
     have hjd : decide ((a : Int) < (j : Int)) = false := decide_eq_false hja
     have HBD := hid HB.out.drew
     have HRD := hid (RowI.later HR.out (Below.refl _ _).drew)
     go_upto_region 4 with fail
     refine wp_region_held_drew (S := fun W => W.cell? ⟨b, i, none⟩ = some (.int .i64 ((ys.getD i 0 : Nat) : Int))) (by kernel_rfl) (HRD.out.at (by have := hie2.out; omega)) (fun hHeld => ?_)
     refine wpAnyH_take (i := 0) (v := ?_) (by simp only [List.getElem?_toArray, List.getElem?_cons_zero, List.getElem?_cons_succ]; rfl) (by kernel_rfl) (by kernel_rfl) (by kernel_rfl) (by intro _ _ _ h; exact h) (Or.inl ⟨by rfl, ?_⟩) (by assumption) ?_
     rotate_left
     ·(intro w' hSw; (try dsimp only at hSw); go_simp) <;> with_reducible rfl
     try simp only [Act.put, List.setIfInBounds_toArray, List.set_cons_zero, List.set_cons_succ]
     refine wpAnyH_take (i := 1) (v := ?_) (by simp only [List.getElem?_toArray, List.getElem?_cons_zero, List.getElem?_cons_succ]; rfl) (by kernel_rfl) (by kernel_rfl) (by kernel_rfl) (by intro _ _ _ h; exact h) (Or.inl ⟨by rfl, ?_⟩) (by assumption) ?_
     rotate_left
     ·(intro w' hSw; (try dsimp only at hSw); go_simp) <;> with_reducible rfl
     try simp only [Act.put, List.setIfInBounds_toArray, List.set_cons_zero, List.set_cons_succ]
     refine wpAnyH_take (i := 2) (v := ?_) (by simp only [List.getElem?_toArray, List.getElem?_cons_zero, List.getElem?_cons_succ]; rfl) (by kernel_rfl) (by kernel_rfl) (by kernel_rfl) (by intro _ _ _ h; exact h) (Or.inl ⟨by rfl, ?_⟩) (by assumption) ?_
     rotate_left
     ·(intro w' hSw; (try dsimp only at hSw); go_simp) <;> with_reducible rfl
     try simp only [Act.put, List.setIfInBounds_toArray, List.set_cons_zero, List.set_cons_succ]
     refine wpAnyH_take (i := 3) (v := ?_) (by simp only [List.getElem?_toArray, List.getElem?_cons_zero, List.getElem?_cons_succ]; rfl) (by kernel_rfl) (by kernel_rfl) (by kernel_rfl) (by intro _ _ _ h; exact h) (Or.inl ⟨by rfl, ?_⟩) (by assumption) ?_
     rotate_left
     ·(intro w' hSw; (try dsimp only at hSw); go_simp) <;> with_reducible rfl
     try simp only [Act.put, List.setIfInBounds_toArray, List.set_cons_zero, List.set_cons_succ]
     refine wpAnyH_take (i := 4) (v := undef) (by simp only [List.getElem?_toArray, List.getElem?_cons_zero, List.getElem?_cons_succ]; rfl) (by kernel_rfl) (by kernel_rfl) (by kernel_rfl) (by intro _ _ _ h; exact h) (Or.inr ⟨by rfl, rfl⟩) (by assumption) ?_
     try simp only [Act.put, List.setIfInBounds_toArray, List.set_cons_zero, List.set_cons_succ]
     refine wpAnyH_take (i := 5) (v := undef) (by simp only [List.getElem?_toArray, List.getElem?_cons_zero, List.getElem?_cons_succ]; rfl) (by kernel_rfl) (by kernel_rfl) (by kernel_rfl) (by intro _ _ _ h; exact h) (Or.inr ⟨by rfl, rfl⟩) (by assumption) ?_
     try simp only [Act.put, List.setIfInBounds_toArray, List.set_cons_zero, List.set_cons_succ]
     refine wpAnyH_take (i := 6) (v := undef) (by simp only [List.getElem?_toArray, List.getElem?_cons_zero, List.getElem?_cons_succ]; rfl) (by kernel_rfl) (by kernel_rfl) (by kernel_rfl) (by intro _ _ _ h; exact h) (Or.inr ⟨by rfl, rfl⟩) (by assumption) ?_
     try simp only [Act.put, List.setIfInBounds_toArray, List.set_cons_zero, List.set_cons_succ]
     refine wpAnyH_take (i := 7) (v := undef) (by simp only [List.getElem?_toArray, List.getElem?_cons_zero, List.getElem?_cons_succ]; rfl) (by kernel_rfl) (by kernel_rfl) (by kernel_rfl) (by intro _ _ _ h; exact h) (Or.inr ⟨by rfl, rfl⟩) (by assumption) ?_
     try simp only [Act.put, List.setIfInBounds_toArray, List.set_cons_zero, List.set_cons_succ]
     refine wpAnyH_take (i := 8) (v := undef) (by simp only [List.getElem?_toArray, List.getElem?_cons_zero, List.getElem?_cons_succ]; rfl) (by kernel_rfl) (by kernel_rfl) (by kernel_rfl) (by intro _ _ _ h; exact h) (Or.inr ⟨by rfl, rfl⟩) (by assumption) ?_
     try simp only [Act.put, List.setIfInBounds_toArray, List.set_cons_zero, List.set_cons_succ]
     refine wpAnyH_take (i := 9) (v := undef) (by simp only [List.getElem?_toArray, List.getElem?_cons_zero, List.getElem?_cons_succ]; rfl) (by kernel_rfl) (by kernel_rfl) (by kernel_rfl) (by intro _ _ _ h; exact h) (Or.inr ⟨by rfl, rfl⟩) (by assumption) ?_
     try simp only [Act.put, List.setIfInBounds_toArray, List.set_cons_zero, List.set_cons_succ]
     refine wpAnyH_take (i := 10) (v := undef) (by simp only [List.getElem?_toArray, List.getElem?_cons_zero, List.getElem?_cons_succ]; rfl) (by kernel_rfl) (by kernel_rfl) (by kernel_rfl) (by intro _ _ _ h; exact h) (Or.inr ⟨by rfl, rfl⟩) (by assumption) ?_
     try simp only [Act.put, List.setIfInBounds_toArray, List.set_cons_zero, List.set_cons_succ]
     refine wpAnyH_take (i := 11) (v := undef) (by simp only [List.getElem?_toArray, List.getElem?_cons_zero, List.getElem?_cons_succ]; rfl) (by kernel_rfl) (by kernel_rfl) (by kernel_rfl) (by intro _ _ _ h; exact h) (Or.inr ⟨by rfl, rfl⟩) (by assumption) ?_
     try simp only [Act.put, List.setIfInBounds_toArray, List.set_cons_zero, List.set_cons_succ]
     refine wpAnyH_take (i := 12) (v := undef) (by simp only [List.getElem?_toArray, List.getElem?_cons_zero, List.getElem?_cons_succ]; rfl) (by kernel_rfl) (by kernel_rfl) (by kernel_rfl) (by intro _ _ _ h; exact h) (Or.inr ⟨by rfl, rfl⟩) (by assumption) ?_
     try simp only [Act.put, List.setIfInBounds_toArray, List.set_cons_zero, List.set_cons_succ]
     refine wpAnyH_take (i := 13) (v := undef) (by simp only [List.getElem?_toArray, List.getElem?_cons_zero, List.getElem?_cons_succ]; rfl) (by kernel_rfl) (by kernel_rfl) (by kernel_rfl) (by intro _ _ _ h; exact h) (Or.inr ⟨by rfl, rfl⟩) (by assumption) ?_
     try simp only [Act.put, List.setIfInBounds_toArray, List.set_cons_zero, List.set_cons_succ]
     refine wpAnyH_take (i := 14) (v := undef) (by simp only [List.getElem?_toArray, List.getElem?_cons_zero, List.getElem?_cons_succ]; rfl) (by kernel_rfl) (by kernel_rfl) (by kernel_rfl) (by intro _ _ _ h; exact h) (Or.inr ⟨by rfl, rfl⟩) (by assumption) ?_
     try simp only [Act.put, List.setIfInBounds_toArray, List.set_cons_zero, List.set_cons_succ]
     refine wpAnyH_take (i := 15) (v := undef) (by simp only [List.getElem?_toArray, List.getElem?_cons_zero, List.getElem?_cons_succ]; rfl) (by kernel_rfl) (by kernel_rfl) (by kernel_rfl) (by intro _ _ _ h; exact h) (Or.inr ⟨by rfl, rfl⟩) (by assumption) ?_
     try simp only [Act.put, List.setIfInBounds_toArray, List.set_cons_zero, List.set_cons_succ]
     refine wpAnyH_take (i := 16) (v := ?_) (by simp only [List.getElem?_toArray, List.getElem?_cons_zero, List.getElem?_cons_succ]; rfl) (by kernel_rfl) (by kernel_rfl) (by kernel_rfl) (by intro _ _ _ h; exact h) (Or.inl ⟨by rfl, ?_⟩) (by assumption) ?_
     rotate_left
     ·(intro w' hSw; (try dsimp only at hSw); go_simp) <;> with_reducible rfl
     try simp only [Act.put, List.setIfInBounds_toArray, List.set_cons_zero, List.set_cons_succ]
     refine wpAnyH_done (by kernel_rfl) ?_ _
     go_wp2_with fail
     go_roundg (c - a - (q + 1))
     case rel => exact ⟨q + 1, ys, by have := hie2.out; go_num, by omega, by have := hie2.out; omega, HP, HRD, HBD⟩
     case measure => have := hie2.out; omega
  ·have hpi : ¬ (i : Int) < (c : Int) := by omega
   have HF : Hid (PermP w base b cap n xs (.returned (.tuple #[])) wr) := hid ⟨rfl, ys, HP.out, HR.out, HB.out⟩
   go_wp2
   go_end0
   exact HF.out
set_option maxRecDepth 100000 in
set_option maxHeartbeats 4000000 in
theorem rotateN (xs : List Nat) (base b cap n a m c : Nat) (f : Value) (w : World) (h : RowI w base b cap n xs) (ham : a < m) (hmc : m < c) (hc : c ≤ n) (hn : n ≤ 1048576) :
  Calls Tryz.prog 234 #[.slice (some ⟨b, 0, none⟩) n cap, .int .i64 (a : Int), .int .i64 (m : Int), .int .i64 (c : Int), f] w (PermP w base b cap n xs) := by
 have H := hid h
 clear h
 have HSW := hid (fun (ys : List Nat) x y k W (hr : RowI W base b cap n ys) (hx : x + k ≤ n) (hy : y + k ≤ n) (hxy : x ≠ y) => swap_range ys base b cap n x y k f W hr hx hy hxy hn)
 obtain ⟨i0, hi0⟩ : ∃ i, i = m - a := ⟨_, rfl⟩
 obtain ⟨j0, hj0⟩ : ∃ j, j = c - m := ⟨_, rfl⟩
 have e1 : (m : Int) - (a : Int) = (i0 : Int) := by omega
 have e2 : (c : Int) - (m : Int) = (j0 : Int) := by omega
 have hi0m : i0 ≤ m := by omega
 have hj0m : m + j0 ≤ n := by omega
 have hi0p : 0 < i0 := by omega
 have hj0p : 0 < j0 := by omega
 clear hi0 hj0
 go_enter Tryz.func234, Tryz.ntmps234
 go_wp2_with fail
 go_loopg [10, 11] (i0 + j0) (fun K iv jv wr => ∃ (i j : Nat) (ys : List Nat), iv = .int .i64 (i : Int) ∧ jv = .int .i64 (j : Int) ∧ i + j = K ∧ 0 < i ∧ 0 < j ∧ i ≤ m ∧ m + j ≤ n ∧ Hid (ys.Perm xs) ∧ Hid (RowI wr base b cap n ys) ∧ Hid (BarZ w b wr))
 case atStart => exact ⟨i0, j0, xs, rfl, rfl, rfl, by omega, by omega, by omega, by omega, hid (List.Perm.refl _), H, hid (BarZ.refl _ _)⟩
 case round =>
  obtain ⟨i, j, ys, rfl, rfl, hK, hi, hj, him, hjm, HP, HR, HB⟩ := hrel
  obtain ⟨x, hx⟩ : ∃ x, x = m - i := ⟨_, rfl⟩
  have hxe : (m : Int) - (i : Int) = (x : Int) := by omega
  rcases Nat.lt_trichotomy i j with hij | hij | hij
  ·have hne : ¬ ((i : Int) = (j : Int)) := by omega
   have hned : decide ((i : Int) = (j : Int)) = false := decide_eq_false hne
   have hneb : ((i : Int) == (j : Int)) = false := beq_false_of_ne hne
   have hgt : ¬ (j : Int) < (i : Int) := by omega
   obtain ⟨y, hy⟩ : ∃ y, y = m + j - i := ⟨_, rfl⟩
   have hye : (m : Int) + (j : Int) - (i : Int) = (y : Int) := by omega
   have HC1 := hid (HSW.out ys x y i wr HR.out (by omega) (by omega) (by omega))
   obtain ⟨d, hd⟩ : ∃ d, d = j - i := ⟨_, rfl⟩
   have hde : (j : Int) - (i : Int) = (d : Int) := by omega
   have HY := hid hy
   have HX := hid hx
   have HDE := hid hd
   clear hy hx hd
   go_wp2_with fail
   with_reducible refine HC1.out.mono ?_
   rintro e w5 ⟨rfl, zs, hp5, hr5, hb5⟩
   have HP5 := hid (hp5.trans HP.out)
   have HR5 := hid hr5
   have HB5 := hid (HB.out.trans hb5)
   clear hp5 hr5 hb5
   go_wp2_with fail
   go_roundg (i + d)
   case rel => exact ⟨i, d, zs, rfl, rfl, rfl, by omega, by have := HDE.out; omega, by omega, by have := HDE.out; omega, HP5, HR5, HB5⟩
   case measure => have := HDE.out; omega
  ·subst hij
   have heq : ((i : Int) == (i : Int)) = true := by simp
   have HC1 := hid (HSW.out ys x m i wr HR.out (by omega) (by omega) (by omega))
   have HX := hid hx
   clear hx
   go_wp2_with fail
   with_reducible refine HC1.out.mono ?_
   rintro e w5 ⟨rfl, zs, hp5, hr5, hb5⟩
   have HF : Hid (PermP w base b cap n xs (.returned (.tuple #[])) w5) := hid ⟨rfl, zs, hp5.trans HP.out, hr5, HB.out.trans hb5⟩
   clear hp5 hr5 hb5
   go_wp2
   go_end0
   exact HF.out
  ·have hne : ¬ ((i : Int) = (j : Int)) := by omega
   have hned : decide ((i : Int) = (j : Int)) = false := decide_eq_false hne
   have hneb : ((i : Int) == (j : Int)) = false := beq_false_of_ne hne
   have hgt : (j : Int) < (i : Int) := by omega
   have HC1 := hid (HSW.out ys x m j wr HR.out (by omega) (by omega) (by omega))
   obtain ⟨d, hd⟩ : ∃ d, d = i - j := ⟨_, rfl⟩
   have hde : (i : Int) - (j : Int) = (d : Int) := by omega
   have HX := hid hx
   have HDE := hid hd
   clear hx hd
   go_wp2_with fail
   with_reducible refine HC1.out.mono ?_
   rintro e w5 ⟨rfl, zs, hp5, hr5, hb5⟩
   have HP5 := hid (hp5.trans HP.out)
   have HR5 := hid hr5
   have HB5 := hid (HB.out.trans hb5)
   clear hp5 hr5 hb5
   go_wp2_with fail
   go_roundg (d + j)
   case rel => exact ⟨d, j, zs, rfl, rfl, rfl, by have := HDE.out; omega, by omega, by have := HDE.out; omega, by omega, HP5, HR5, HB5⟩
   case measure => have := HDE.out; omega
end Go.Proofs.YtikiimlmoalbcaaGreatDoor
