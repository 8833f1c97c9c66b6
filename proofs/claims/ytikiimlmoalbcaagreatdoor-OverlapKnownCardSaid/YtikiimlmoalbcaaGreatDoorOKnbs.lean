/- Contract of law19.certificate. Plain: division bit by bit, on digits to the base 2^32. No program in sight. Contracts of the reference's bit, div, lowest, Make, Of. Contracts of the reference's lowest, Make, Of, at a denominator greater than 0. The walk of ContainmentFirst. The walk of OverlapFirst. -/
import Derived.Deep.Cut
import Derived.Test.YtikiimlmoalbcaaGreatDoorOKnbr
import Derived.Test.YtikiimlmoalbcaaGreatDoorOKnbk
import Derived.Test.YtikiimlmoalbcaaGreatDoorOKnar
import Derived.Test.YtikiimlmoalbcaaGreatDoorOKnbo
import Derived.Test.YtikiimlmoalbcaaGreatDoorOKnac
import Derived.Deep.RegionHeld3
import Derived.Deep.CutRange
import Derived.Test.YtikiimlmoalbcaaGreatDoorOKnbp
import Derived.Test.YtikiimlmoalbcaaGreatDoorOKnbj
set_option linter.unusedVariables false
set_option linter.unusedSimpArgs false
namespace Go.Proofs.YtikiimlmoalbcaaGreatDoor
open Go.RowKit
theorem own_keptB {w w' : World} {base : Nat} {e : TypeId} {size n : Nat} {v : Value} {xs : List Value} {row : Option Nat} (h : w.ownsRow base e size v n xs) (hg : w.grownBy w' row) (hne : ∀ b, v.ownBlock = some b → row ≠ some b) : w'.ownsRow base e size v n xs := by
 obtain ⟨hl, h⟩ := h
 refine ⟨hl, ?_⟩
 rcases h with ⟨e1, h1⟩ | ⟨g, cap, cur, e1, h2, h3, h4⟩
 ·exact .inl ⟨e1, h1⟩
 ·exact .inr ⟨g, cap, cur, e1, h2, (hg.block g (Array.getElem?_eq_some_iff.1 h3).1 (fun e => hne g (by rw [e1]; rfl) e.symm)).trans h3, h4⟩
theorem own_farB {w : World} {base : Nat} {e : TypeId} {size n : Nat} {v : Value} {xs : List Value} (h : w.ownsRow base e size v n xs) {p : Addr} (hp : p.block < base) (u : Value) : (w.setCell p u).ownsRow base e size v n xs :=
 own_roll h ((Roll.refl w.heap.size p.block w).setCell rfl u) (Nat.le_refl _) hp
def intsV (zs : List Int) : List Value := zs.map fun z => .int .i64 z
theorem intsV_push (zs : List Int) (z : Int) : intsV zs ++ [.int .i64 z] = intsV (zs ++ [z]) := by simp [intsV]
theorem ints_in {w : World} {base : Nat} {v : Value} {zs : List Int} {e : TypeId} (h : w.ownsRow base e 1 v zs.length (intsV zs)) : InZ w (fun k => base ≤ k ∧ k < w.heap.size) v zs := by
 have e1 : intsV zs = flatK 1 zs.length (fun i _ => .int .i64 (zs.getD i 0)) := by
  have key : ∀ m, m ≤ zs.length → intsV (zs.take m) = flatK 1 m (fun i _ => .int .i64 (zs.getD i 0)) := by
   intro m
   induction m with
   | zero => intro _; rfl
   | succ m ih =>
    intro hm
    rw [flatK_succ, ← ih (by omega), List.take_succ_eq_append_getElem (show m < zs.length by omega), ← intsV_push]
    congr 1
    simp [List.getD, show m < zs.length by omega]
  have h1 := key zs.length (Nat.le_refl _)
  rwa [List.take_length] at h1
 rw [e1] at h
 exact InK.more (inK_of_owns h) fun b hb => h.lt b hb
structure CtSt (w wr : World) (g : Nat) (ev vv lv zlv zcv : Value) (zs ks : List Int) : Prop where
  roll : Roll w.heap.size g w wr
  dice : DiceAt 89 wr g
  ix : BoxN wr w.heap.size 30 #[ev, vv, lv]
  res : BoxN wr (w.heap.size + 1) 36 #[.slice none 0 0, .slice none 0 0]
  box : BoxN wr (w.heap.size + 2) 36 #[zlv, zcv]
  ol : wr.ownsRow (w.heap.size + 3) 3 1 zlv zs.length (intsV zs)
  oc : wr.ownsRow (w.heap.size + 3) 3 1 zcv ks.length (intsV ks)
  apart : ∀ b, zlv.ownBlock = some b → zcv.ownBlock ≠ some b
theorem CtSt.roll2 {w wr W : World} {g : Nat} {ev vv lv zlv zcv : Value} {zs ks : List Int} (h : CtSt w wr g ev vv lv zlv zcv zs ks) (hg : g < w.heap.size) (hr : Roll wr.heap.size g wr W) (hd : DiceAt 89 W g) : CtSt w W g ev vv lv zlv zcv zs ks :=
 ⟨h.roll.trans (hr.mono h.roll.size), hd, (hr.block _ h.ix.lt (by omega)).trans h.ix, (hr.block _ h.res.lt (by omega)).trans h.res, (hr.block _ h.box.lt (by omega)).trans h.box, own_roll h.ol hr (Nat.le_refl _) (by omega), own_roll h.oc hr (Nat.le_refl _) (by omega), h.apart⟩
theorem CtSt.pushL {w wr w7 : World} {g : Nat} {ev vv lv zlv zcv : Value} {zs ks : List Int} (h : CtSt w wr g ev vv lv zlv zcv zs ks) (hgl : g < w.heap.size) {O : Obj} {p cap m : Nat} {z : Int} (hm : m = zs.length)
  (hown : w7.ownsRow (w.heap.size + 3) 3 1 (.slice (some ⟨p, 0, none⟩) (m + 1) cap) (m + 1) (intsV zs ++ [.int .i64 z])) (hg : (wr.alloc O).grownBy w7 zlv.ownBlock) (hat : zlv.ownBlock = some p ∨ p = (wr.alloc O).heap.size) :
  CtSt w (w7.setCell ⟨w.heap.size + 2, 0, none⟩ (.slice (some ⟨p, 0, none⟩) (m + 1) cap)) g ev vv lv (.slice (some ⟨p, 0, none⟩) (m + 1) cap) zcv (zs ++ [z]) ks := by
 subst hm
 have hsz := h.box.lt
 have hrz := h.roll.size
 have hb : ∀ k, zlv.ownBlock = some k → w.heap.size + 3 ≤ k ∧ k < wr.heap.size := fun k hk => h.ol.lt k hk
 have hgd := h.dice.lt
 have hap : ∀ b, zcv.ownBlock = some b → zlv.ownBlock ≠ some b := fun b h1 h2 => h.apart b h2 h1
 refine ⟨?_, ?_, ?_, ?_, ?_, ?_, ?_, ?_⟩
 ·exact ((h.roll.alloc hrz O).grown hg (by rw [World.size_alloc]; omega) fun k hk => by have := hb k hk; omega).trans (Roll.of_below ((Below.refl w.heap.size w7).setCell (p := ⟨w.heap.size + 2, 0, none⟩) (by show w.heap.size ≤ w.heap.size + 2; omega) _) g)
 ·exact h.dice.keep fun k hk => (Below.heap_setCell _ _ _ _ (by show k ≠ w.heap.size + 2; omega)).trans ((hg.block k (by rw [World.size_alloc]; omega) (fun e => by have := hb k e.symm; omega)).trans (Below.heap_alloc _ _ _ (by omega)))
 ·exact BoxN.other ((h.ix.alloc O).grown hg (fun e => by have := hb _ e.symm; omega)) (by show w.heap.size + 2 ≠ w.heap.size; omega) _
 ·exact BoxN.other ((h.res.alloc O).grown hg (fun e => by have := hb _ e.symm; omega)) (by show w.heap.size + 2 ≠ w.heap.size + 1; omega) _
 ·exact BoxN.set (BoxN.grown (BoxN.alloc h.box O) hg (fun e => by have := hb _ e.symm; omega)) 0 _
 ·rw [List.length_append, List.length_singleton, ← intsV_push]; exact own_farB hown (by show w.heap.size + 2 < w.heap.size + 3; omega) _
 ·exact own_farB (own_keptB (h.oc.alloc O) hg fun b hb h2 => hap b hb h2) (by show w.heap.size + 2 < w.heap.size + 3; omega) _
 ·intro b h1 h2
  have h3 : p = b := Option.some.inj h1
  subst h3
  rcases hat with h4 | h4
  ·exact hap p h2 h4
  ·have := h.oc.lt p h2
   rw [World.size_alloc] at h4
   omega
theorem CtSt.pushC {w wr w7 : World} {g : Nat} {ev vv lv zlv zcv : Value} {zs ks : List Int} (h : CtSt w wr g ev vv lv zlv zcv zs ks) (hgl : g < w.heap.size) {O : Obj} {p cap m : Nat} {z : Int} (hm : m = ks.length)
  (hown : w7.ownsRow (w.heap.size + 3) 3 1 (.slice (some ⟨p, 0, none⟩) (m + 1) cap) (m + 1) (intsV ks ++ [.int .i64 z])) (hg : (wr.alloc O).grownBy w7 zcv.ownBlock) (hat : zcv.ownBlock = some p ∨ p = (wr.alloc O).heap.size) :
  CtSt w (w7.setCell ⟨w.heap.size + 2, 1, none⟩ (.slice (some ⟨p, 0, none⟩) (m + 1) cap)) g ev vv lv zlv (.slice (some ⟨p, 0, none⟩) (m + 1) cap) zs (ks ++ [z]) := by
 subst hm
 have hsz := h.box.lt
 have hrz := h.roll.size
 have hb : ∀ k, zcv.ownBlock = some k → w.heap.size + 3 ≤ k ∧ k < wr.heap.size := fun k hk => h.oc.lt k hk
 have hgd := h.dice.lt
 have hap : ∀ b, zlv.ownBlock = some b → zcv.ownBlock ≠ some b := fun b h1 h2 => h.apart b h1 h2
 refine ⟨?_, ?_, ?_, ?_, ?_, ?_, ?_, ?_⟩
 ·exact ((h.roll.alloc hrz O).grown hg (by rw [World.size_alloc]; omega) fun k hk => by have := hb k hk; omega).trans (Roll.of_below ((Below.refl w.heap.size w7).setCell (p := ⟨w.heap.size + 2, 1, none⟩) (by show w.heap.size ≤ w.heap.size + 2; omega) _) g)
 ·exact h.dice.keep fun k hk => (Below.heap_setCell _ _ _ _ (by show k ≠ w.heap.size + 2; omega)).trans ((hg.block k (by rw [World.size_alloc]; omega) (fun e => by have := hb k e.symm; omega)).trans (Below.heap_alloc _ _ _ (by omega)))
 ·exact BoxN.other ((h.ix.alloc O).grown hg (fun e => by have := hb _ e.symm; omega)) (by show w.heap.size + 2 ≠ w.heap.size; omega) _
 ·exact BoxN.other ((h.res.alloc O).grown hg (fun e => by have := hb _ e.symm; omega)) (by show w.heap.size + 2 ≠ w.heap.size + 1; omega) _
 ·exact BoxN.set (BoxN.grown (BoxN.alloc h.box O) hg (fun e => by have := hb _ e.symm; omega)) 1 _
 ·exact own_farB (own_keptB (h.ol.alloc O) hg fun b hb h2 => hap b hb h2) (by show w.heap.size + 2 < w.heap.size + 3; omega) _
 ·rw [List.length_append, List.length_singleton, ← intsV_push]; exact own_farB hown (by show w.heap.size + 2 < w.heap.size + 3; omega) _
 ·intro b h1 h2
  have h3 : p = b := Option.some.inj h2
  subst h3
  rcases hat with h4 | h4
  ·exact hap p h1 h4
  ·have := h.ol.lt p h1
   rw [World.size_alloc] at h4
   omega
def Cert19P (w : World) (g n m : Nat) (e : Ending) (w' : World) : Prop :=
  ∃ (zlv zcv : Value) (zs ks : List Int), e = .returned (.agg #[zlv, zcv]) ∧ InZ w' (fun k => w.heap.size ≤ k ∧ k < w'.heap.size) zlv zs ∧ InZ w' (fun k => w.heap.size ≤ k ∧ k < w'.heap.size) zcv ks ∧ zs.length ≤ n + 1 ∧ ks.length ≤ m + 1 ∧
    ((∃ L K : List Nat, zs = L.map (fun x : Nat => (x : Int)) ∧ ks = K.map (fun x : Nat => (x : Int)) ∧ L.Pairwise (· < ·) ∧ K.Pairwise (· < ·) ∧ (∀ x ∈ L, x < n) ∧ ∀ x ∈ K, x < m) ∨ (numB zs (n : Int) && numB ks (m : Int)) = false) ∧
    DiceAt 89 w' g ∧ Roll w.heap.size g w w'
theorem numB_end {zs : List Int} {n z : Int} (h : ¬ (0 ≤ z ∧ z < n)) : numB (zs ++ [z]) n = false := by
 refine num_no (i := zs.length) (by simp) ?_
 unfold numC
 have e : (zs ++ [z]).getD zs.length 0 = z := by simp [List.getD]
 rw [e]
 by_cases h0 : 0 ≤ z
 ·rw [decide_eq_true h0, decide_eq_false fun h1 => h ⟨h0, h1⟩]
  rfl
 ·rw [decide_eq_false h0]
  rfl
theorem CtSt.done {w wr W : World} {g n m : Nat} {ev vv lv zlv zcv u1 u2 : Value} {zs ks : List Int} (h : CtSt w wr g ev vv lv zlv zcv zs ks) (hg : g < w.heap.size) (hW : W = (wr.setCell ⟨w.heap.size + 1, 0, none⟩ u1).setCell ⟨w.heap.size + 1, 1, none⟩ u2) (h1 : zs.length ≤ n + 1) (h2 : ks.length ≤ m + 1)
  (h3 : (∃ L K : List Nat, zs = L.map (fun x : Nat => (x : Int)) ∧ ks = K.map (fun x : Nat => (x : Int)) ∧ L.Pairwise (· < ·) ∧ K.Pairwise (· < ·) ∧ (∀ x ∈ L, x < n) ∧ ∀ x ∈ K, x < m) ∨ (numB zs (n : Int) && numB ks (m : Int)) = false) : Cert19P w g n m (.returned (.agg #[zlv, zcv])) W := by
 subst hW
 have hr : Roll w.heap.size g w ((wr.setCell ⟨w.heap.size + 1, 0, none⟩ u1).setCell ⟨w.heap.size + 1, 1, none⟩ u2) := (h.roll.trans (Roll.of_below (((Below.refl w.heap.size wr).setCell (p := ⟨w.heap.size + 1, 0, none⟩) (by show w.heap.size ≤ w.heap.size + 1; omega) u1).setCell (p := ⟨w.heap.size + 1, 1, none⟩) (by show w.heap.size ≤ w.heap.size + 1; omega) u2) g))
 have o1 := own_farB (own_farB h.ol (p := ⟨w.heap.size + 1, 0, none⟩) (by show w.heap.size + 1 < w.heap.size + 3; omega) u1) (p := ⟨w.heap.size + 1, 1, none⟩) (by show w.heap.size + 1 < w.heap.size + 3; omega) u2
 have o2 := own_farB (own_farB h.oc (p := ⟨w.heap.size + 1, 0, none⟩) (by show w.heap.size + 1 < w.heap.size + 3; omega) u1) (p := ⟨w.heap.size + 1, 1, none⟩) (by show w.heap.size + 1 < w.heap.size + 3; omega) u2
 refine ⟨zlv, zcv, zs, ks, rfl, InK.more (ints_in o1) fun k hk => ⟨by have := hk.1; omega, hk.2⟩, InK.more (ints_in o2) fun k hk => ⟨by have := hk.1; omega, hk.2⟩, h1, h2, h3, ?_, hr⟩
 exact h.dice.keep fun k hk => (Below.heap_setCell _ _ _ _ (by show k ≠ w.heap.size + 1; omega)).trans (Below.heap_setCell _ _ _ _ (by show k ≠ w.heap.size + 1; omega))
set_option maxRecDepth 100000 in
set_option maxHeartbeats 4000000 in
theorem law19_certificate (g n m l : Nat) (ea va la : Option Addr) (ec vc lc : Nat) (w : World) (hd : DiceAt 89 w g) (hn : n ≤ 1048576) (hm : m ≤ 1048576) :
  Calls Tryz.prog 20 #[.pointer (some ⟨g, 0, none⟩), .agg #[.slice ea m ec, .slice va n vc, .slice la l lc]] w (Cert19P w g n m) := by
 obtain ⟨i0, hi0, hz0, hz1, hz2⟩ := info_parts info_int'
 have HGL := hid hd.lt
 have hgl := hd.lt
 have hs0 : CtSt w (((w.alloc (.cells #[.slice ea m ec, .slice va n vc, .slice la l lc] 30)).alloc (.cells #[.slice none 0 0, .slice none 0 0] 36)).alloc (.cells #[.slice none 0 0, .slice none 0 0] 36)) g (.slice ea m ec) (.slice va n vc) (.slice la l lc) (.slice none 0 0) (.slice none 0 0) [] [] := by
  have b0 := BoxN.new w #[.slice ea m ec, .slice va n vc, .slice la l lc] 30
  have b1 := BoxN.new (w.alloc (.cells #[.slice ea m ec, .slice va n vc, .slice la l lc] 30)) #[.slice none 0 0, .slice none 0 0] 36
  have b2 := BoxN.new ((w.alloc (.cells #[.slice ea m ec, .slice va n vc, .slice la l lc] 30)).alloc (.cells #[.slice none 0 0, .slice none 0 0] 36)) #[.slice none 0 0, .slice none 0 0] 36
  rw [World.size_alloc] at b1
  rw [World.size_alloc, World.size_alloc] at b2
  exact ⟨Roll.of_below ((((Below.refl w.heap.size w).alloc (Nat.le_refl _) _).alloc (by simp) _).alloc (by simp; omega) _) g, (hd.alloc _).alloc _ |>.alloc _, (b0.alloc _).alloc _, b1.alloc _, b2, World.ownsRow_nil _ _ _ _, World.ownsRow_nil _ _ _ _, fun b h => by cases h⟩
 have HS0 := hid hs0
 clear hs0 hd
 go_enter Tryz.func20, Tryz.ntmps20
 generalize hLA : Code.loop _ = LA
 generalize hLB : Code.loop _ = LB
 go_upto_region 2 with fail
 generalize ((w.alloc (.cells #[.slice ea m ec, .slice va n vc, .slice la l lc] 30)).alloc (.cells #[.slice none 0 0, .slice none 0 0] 36)).alloc (.cells #[.slice none 0 0, .slice none 0 0] 36) = W0 at *
 have x1 := BoxN.cell HS0.out.ix 1 rfl
 go_wp2_with fail
 subst hLA
 go_loopg [11, 6] n (fun Q i u wr => ∃ (p : Nat) (L : List Nat) (a : Option Addr) (c : Nat), i = .int .i64 (p : Int) ∧ p + Q = n ∧ Hid (L.Pairwise (· < ·)) ∧ Hid (∀ x ∈ L, x < p) ∧ L.length ≤ p ∧ Hid (CtSt w wr g (.slice ea m ec) (.slice va n vc) (.slice la l lc) (.slice a L.length c) (.slice none 0 0) (L.map fun x : Nat => (x : Int)) []))
 case atStart => exact ⟨0, [], none, 0, rfl, by omega, hid List.Pairwise.nil, hid (fun _ h => absurd h (by simp)), by simp, HS0⟩
 case round =>
  obtain ⟨p, L, za, zc, rfl, hp0, HUP, HLT, hll, HS⟩ := hrel
  by_cases hp : 0 < gk
  ·have hpl : p < n := by omega
   have hpi : (p : Int) < (n : Int) := by omega
   have HPK := hid (dice_Pick g 2 wr HS.out.dice (by omega) (by omega))
   go_wp2_with fail
   with_reducible refine HPK.out.mono ?_
   rintro e w3 ⟨r, rfl, hr, hd3, hr3, hs3⟩
   have HS := hid (HS.out.roll2 HGL.out hr3 hd3)
   clear hd3 hr3 hs3 HPK
   by_cases hr0 : r = 0
   ·subst hr0
    have HUP2 : Hid ((L ++ [p]).Pairwise (· < ·)) := hid (List.pairwise_append.2 ⟨HUP.out, List.pairwise_singleton _ _, fun x hx y hy => by rw [List.mem_singleton.1 hy]; exact HLT.out x hx⟩)
    have HLT2 : Hid (∀ x ∈ L ++ [p], x < p + 1) := hid (fun x hx => by
     rcases List.mem_append.1 hx with h | h
     ·have := HLT.out x h; omega
     ·rw [List.mem_singleton.1 h]; omega)
    obtain ⟨zs, hzs⟩ : ∃ zs, zs = L.map fun x : Nat => (x : Int) := ⟨_, rfl⟩
    have hzl : zs.length = L.length := by rw [hzs, List.length_map]
    rw [← hzs, ← hzl] at HS
    rw [← hzl] at hll
    have HZS := hid hzs
    clear hzs
    obtain ⟨k, hk⟩ : ∃ k, k = zs.length := ⟨_, rfl⟩
    have HM := hid hk
    rw [← hk] at hll
    have y0 := BoxN.cell HS.out.box 0 rfl
    have HO : Hid (w3.ownsRow (w.heap.size + 3) 3 1 (.slice za k zc) k (intsV zs)) := hid (by rw [hk]; exact HS.out.ol)
    rw [← hk] at y0
    have hwz : w.heap.size + 3 ≤ w3.heap.size := by have := HS.out.box.lt; omega
    have HSB := hid (fun w7 O g7 cap h1 h2 h3 => HS.out.pushL HGL.out (w7 := w7) (O := O) (p := g7) (cap := cap) (z := (p : Int)) HM.out h1 (by rw [← HM.out]; exact h2) (by rw [← HM.out]; exact h3))
    have HKX := hid (fun w7 O (hg : (w3.alloc O).grownBy w7 (Value.slice za k zc).ownBlock) => (BoxN.grown (BoxN.alloc HS.out.box O) hg (fun e => by have := (HO.out.lt _ e.symm).1; omega)))
    clear hk hzl
    go_wp2_with (at_builtin; refine wpList_append_form _ rfl (.tmp 18) (.tmp 20) 34 34 rfl (w.heap.size + 3) 3 3 i0 (.int .i64 0) 1 8 Tryz.underlying34 Tryz.underlying34 hi0 hz0 hz1 hz2 rfl (by decide) (.slice za k zc) k (intsV zs) rfl (HO.out.alloc _) (some ⟨_, 0, none⟩) 1 1 [.int .i64 (p : Int)] rfl rfl (fun _ => ⟨_, rfl, cell_one_new _ _ _⟩) (by intro u hu; simp at hu; subst hu; rfl) (by omega) (by unfold maxLen; omega) (by omega) (by simp; omega) ?_; intro g7 cap7 w7 hown7 hg7 hat7 hlt7; have HOWN7 := hid hown7; have HG7 := hid hg7; have HAT7 := hid hat7; have y0 := BoxN.cell (HKX.out _ _ hg7) 0 rfl; have f0 := BoxN.frozen (HKX.out _ _ hg7) 0; clear hown7 hg7 hat7 hlt7)
    go_wp2
    go_roundg (gk - 1)
    case rel => exact ⟨p + 1, L ++ [p], (some ⟨g7, 0, none⟩), cap7, by go_num, by omega, HUP2, HLT2, by rw [List.length_append, List.length_singleton]; have := HM.out; have := congrArg List.length HZS.out; rw [List.length_map] at this; omega, hid (by
     have h := HSB.out _ _ _ _ HOWN7.out HG7.out HAT7.out
     have e1 : k + 1 = (L ++ [p]).length := by rw [List.length_append, List.length_singleton]; have := HM.out; have := congrArg List.length HZS.out; rw [List.length_map] at this; omega
     have e2 : zs ++ [(p : Int)] = (L ++ [p]).map fun x : Nat => (x : Int) := by rw [HZS.out, List.map_append]; rfl
     rw [e2] at h
     rw [← e1]
     exact h)⟩
    case measure => omega
   ·have hri : ((r : Int) == 0) = false := by rw [beq_eq_false_iff_ne]; omega
    have hri2 : ¬ (r : Int) = 0 := by omega
    clear hr0
    go_wp2_with fail
    go_roundg (gk - 1)
    case rel => exact ⟨p + 1, L, _, _, by go_num, by omega, HUP, hid (fun x hx => by have := HLT.out x hx; omega), by omega, HS⟩
    case measure => omega
  ·obtain rfl : gk = 0 := by omega
   have hpe : p = n := by omega
   have hpi : ¬ (p : Int) < (n : Int) := by omega
   have hpd : decide (p < n) = false := decide_eq_false (by omega)
   clear hp hp0
   have HLUP := HUP
   have HLLT : Hid (∀ x ∈ L, x < n) := hid (fun x hx => by have := HLT.out x hx; omega)
   have hLl : L.length ≤ n := by omega
   have HSL : Hid (CtSt w wr g (.slice ea m ec) (.slice va n vc) (.slice la l lc) (.slice za L.length zc) (.slice none 0 ([] : List Nat).length) (L.map fun x : Nat => (x : Int)) (([] : List Nat).map fun x : Nat => (x : Int))) := HS
   clear HUP HLT HS hll hpe
   have x0 := BoxN.cell HSL.out.ix 0 rfl
   go_wp2_with fail
   subst hLB
   go_loopg [27, 7] m (fun Q i u wr => ∃ (p : Nat) (K : List Nat) (a : Option Addr) (c : Nat), i = .int .i64 (p : Int) ∧ p + Q = m ∧ Hid (K.Pairwise (· < ·)) ∧ Hid (∀ x ∈ K, x < p) ∧ K.length ≤ p ∧ Hid (CtSt w wr g (.slice ea m ec) (.slice va n vc) (.slice la l lc) (.slice za L.length zc) (.slice a K.length c) (L.map fun x : Nat => (x : Int)) (K.map fun x : Nat => (x : Int))))
   case atStart => exact ⟨0, [], none, 0, rfl, by omega, hid List.Pairwise.nil, hid (fun _ h => absurd h (by simp)), by simp, HSL⟩
   case round =>
    obtain ⟨p, K, ka, kc, rfl, hp0, HUP, HLT, hll, HS⟩ := hrel
    by_cases hp : 0 < gk
    ·have hpl : p < m := by omega
     have hpi : (p : Int) < (m : Int) := by omega
     have HPK := hid (dice_Pick g 3 wr HS.out.dice (by omega) (by omega))
     go_wp2_with fail
     with_reducible refine HPK.out.mono ?_
     rintro e w3 ⟨r, rfl, hr, hd3, hr3, hs3⟩
     have HS := hid (HS.out.roll2 HGL.out hr3 hd3)
     clear hd3 hr3 hs3 HPK
     by_cases hr0 : r = 0
     ·subst hr0
      have HUP2 : Hid ((K ++ [p]).Pairwise (· < ·)) := hid (List.pairwise_append.2 ⟨HUP.out, List.pairwise_singleton _ _, fun x hx y hy => by rw [List.mem_singleton.1 hy]; exact HLT.out x hx⟩)
      have HLT2 : Hid (∀ x ∈ K ++ [p], x < p + 1) := hid (fun x hx => by
       rcases List.mem_append.1 hx with h | h
       ·have := HLT.out x h; omega
       ·rw [List.mem_singleton.1 h]; omega)
      obtain ⟨zs, hzs⟩ : ∃ zs, zs = K.map fun x : Nat => (x : Int) := ⟨_, rfl⟩
      have hzl : zs.length = K.length := by rw [hzs, List.length_map]
      rw [← hzs, ← hzl] at HS
      rw [← hzl] at hll
      have HZS := hid hzs
      clear hzs
      obtain ⟨k, hk⟩ : ∃ k, k = zs.length := ⟨_, rfl⟩
      have HM := hid hk
      rw [← hk] at hll
      have y1 := BoxN.cell HS.out.box 1 rfl
      have HO : Hid (w3.ownsRow (w.heap.size + 3) 3 1 (.slice ka k kc) k (intsV zs)) := hid (by rw [hk]; exact HS.out.oc)
      rw [← hk] at y1
      have hwz : w.heap.size + 3 ≤ w3.heap.size := by have := HS.out.box.lt; omega
      have HSB := hid (fun w7 O g7 cap h1 h2 h3 => HS.out.pushC HGL.out (w7 := w7) (O := O) (p := g7) (cap := cap) (z := (p : Int)) HM.out h1 (by rw [← HM.out]; exact h2) (by rw [← HM.out]; exact h3))
      have HKX := hid (fun w7 O (hg : (w3.alloc O).grownBy w7 (Value.slice ka k kc).ownBlock) => (BoxN.grown (BoxN.alloc HS.out.box O) hg (fun e => by have := (HO.out.lt _ e.symm).1; omega)))
      clear hk hzl
      go_wp2_with (at_builtin; refine wpList_append_form _ rfl (.tmp 34) (.tmp 36) 34 34 rfl (w.heap.size + 3) 3 3 i0 (.int .i64 0) 1 8 Tryz.underlying34 Tryz.underlying34 hi0 hz0 hz1 hz2 rfl (by decide) (.slice ka k kc) k (intsV zs) rfl (HO.out.alloc _) (some ⟨_, 0, none⟩) 1 1 [.int .i64 (p : Int)] rfl rfl (fun _ => ⟨_, rfl, cell_one_new _ _ _⟩) (by intro u hu; simp at hu; subst hu; rfl) (by omega) (by unfold maxLen; omega) (by omega) (by simp; omega) ?_; intro g7 cap7 w7 hown7 hg7 hat7 hlt7; have HOWN7 := hid hown7; have HG7 := hid hg7; have HAT7 := hid hat7; have y1 := BoxN.cell (HKX.out _ _ hg7) 1 rfl; have f1 := BoxN.frozen (HKX.out _ _ hg7) 1; clear hown7 hg7 hat7 hlt7)
      go_wp2
      go_roundg (gk - 1)
      case rel => exact ⟨p + 1, K ++ [p], (some ⟨g7, 0, none⟩), cap7, by go_num, by omega, HUP2, HLT2, by rw [List.length_append, List.length_singleton]; have := HM.out; have := congrArg List.length HZS.out; rw [List.length_map] at this; omega, hid (by
       have h := HSB.out _ _ _ _ HOWN7.out HG7.out HAT7.out
       have e1 : k + 1 = (K ++ [p]).length := by rw [List.length_append, List.length_singleton]; have := HM.out; have := congrArg List.length HZS.out; rw [List.length_map] at this; omega
       have e2 : zs ++ [(p : Int)] = (K ++ [p]).map fun x : Nat => (x : Int) := by rw [HZS.out, List.map_append]; rfl
       rw [e2] at h
       rw [← e1]
       exact h)⟩
      case measure => omega
     ·have hri : ((r : Int) == 0) = false := by rw [beq_eq_false_iff_ne]; omega
      have hri2 : ¬ (r : Int) = 0 := by omega
      clear hr0
      go_wp2_with fail
      go_roundg (gk - 1)
      case rel => exact ⟨p + 1, K, _, _, by go_num, by omega, HUP, hid (fun x hx => by have := HLT.out x hx; omega), by omega, HS⟩
      case measure => omega
    ·obtain rfl : gk = 0 := by omega
     have hpe : p = m := by omega
     have hpi : ¬ (p : Int) < (m : Int) := by omega
     have hpd : decide (p < m) = false := decide_eq_false (by omega)
     clear hp hp0
     obtain ⟨zs, hzs⟩ : ∃ zs, zs = L.map fun x : Nat => (x : Int) := ⟨_, rfl⟩
     obtain ⟨ks, hks⟩ : ∃ ks, ks = K.map fun x : Nat => (x : Int) := ⟨_, rfl⟩
     have hzl : zs.length = L.length := by rw [hzs, List.length_map]
     have hkl : ks.length = K.length := by rw [hks, List.length_map]
     rw [← hzs, ← hks, ← hzl, ← hkl] at HS
     have HGOOD : Hid (∃ L K : List Nat, zs = L.map (fun x : Nat => (x : Int)) ∧ ks = K.map (fun x : Nat => (x : Int)) ∧ L.Pairwise (· < ·) ∧ K.Pairwise (· < ·) ∧ (∀ x ∈ L, x < n) ∧ ∀ x ∈ K, x < m) := hid ⟨L, K, hzs, hks, HLUP.out, HUP.out, HLLT.out, fun x hx => by have := HLT.out x hx; omega⟩
     have hzn : zs.length ≤ n := by omega
     have hkm : ks.length ≤ m := by omega
     clear hzs hks hzl hkl hLl hll hpe
     have HPK := hid (dice_Pick g 12 wr HS.out.dice (by omega) (by omega))
     go_wp2_with fail
     with_reducible refine HPK.out.mono ?_
     rintro e w4 ⟨r, rfl, hr, hd3, hr3, hs3⟩
     have HS := hid (HS.out.roll2 HGL.out hr3 hd3)
     clear hd3 hr3 hs3 HPK
     by_cases hr0 : r = 0
     ·subst hr0
      obtain ⟨k, hk⟩ : ∃ k, k = zs.length := ⟨_, rfl⟩
      have HM := hid hk
      have y0 := BoxN.cell HS.out.box 0 rfl
      have y1 := BoxN.cell HS.out.box 1 rfl
      have HO : Hid (w4.ownsRow (w.heap.size + 3) 3 1 (.slice za k zc) k (intsV zs)) := hid (by rw [hk]; exact HS.out.ol)
      have x1 := BoxN.cell HS.out.ix 1 rfl
      rw [← hk] at y0
      have hkb : k ≤ 1048576 := by omega
      have hwz : w.heap.size + 3 ≤ w4.heap.size := by have := HS.out.box.lt; omega
      have HSB := hid (fun w7 O p cap h1 h2 h3 => HS.out.pushL HGL.out (w7 := w7) (O := O) (p := p) (cap := cap) (z := (n : Int)) HM.out h1 (by rw [← HM.out]; exact h2) (by rw [← HM.out]; exact h3))
      have HKX := hid (fun w7 O (hg : (w4.alloc O).grownBy w7 (Value.slice za k zc).ownBlock) => (BoxN.grown (BoxN.alloc HS.out.box O) hg (fun e => by have := (HO.out.lt _ e.symm).1; omega)))
      have HKR := hid (fun w7 O (hg : (w4.alloc O).grownBy w7 (Value.slice za k zc).ownBlock) => (BoxN.grown (BoxN.alloc HS.out.res O) hg (fun e => by have := (HO.out.lt _ e.symm).1; omega)))
      clear hk
      go_wp2_with (at_builtin; refine wpList_append_form _ rfl (.tmp 45) (.tmp 49) 34 34 rfl (w.heap.size + 3) 3 3 i0 (.int .i64 0) 1 8 Tryz.underlying34 Tryz.underlying34 hi0 hz0 hz1 hz2 rfl (by decide) (.slice za k zc) k (intsV zs) rfl (HO.out.alloc _) (some ⟨_, 0, none⟩) 1 1 [.int .i64 (n : Int)] rfl rfl (fun _ => ⟨_, rfl, cell_one_new _ _ _⟩) (by intro u hu; simp at hu; subst hu; rfl) (by omega) (by unfold maxLen; omega) (by omega) (by simp; omega) ?_; intro g7 cap7 w7 hown7 hg7 hat7 hlt7; have HOWN7 := hid hown7; have HG7 := hid hg7; have HAT7 := hid hat7; have y0 := BoxN.cell (HKX.out _ _ hg7) 0 rfl; have y1 := BoxN.cell (HKX.out _ _ hg7) 1 rfl; have r0 := BoxN.cell (HKR.out _ _ hg7) 0 rfl; have r1 := BoxN.cell (HKR.out _ _ hg7) 1 rfl; have g0 := BoxN.frozen (HKR.out _ _ hg7) 0; have g1 := BoxN.frozen (HKR.out _ _ hg7) 1; have f0 := BoxN.frozen (HKX.out _ _ hg7) 0; have HST := hid (HSB.out _ _ _ _ HOWN7.out HG7.out HAT7.out); clear hown7 hg7 hat7 hlt7)
      have HZ := hid ((BoxN.set HST.out.res 0 (.slice (some ⟨g7, 0, none⟩) (k + 1) cap7)).set 1 (.slice ka ks.length kc))
      have HRES := hid (HST.out.done (n := n) (m := m) HGL.out (u1 := (.slice (some ⟨g7, 0, none⟩) (k + 1) cap7)) (u2 := (.slice ka ks.length kc)) rfl (by rw [List.length_append, List.length_singleton]; omega) (by omega) (.inr (by rw [numB_end (by omega), Bool.false_and])))
      go_wp2
      have z0 := HZ.out.cell 0 rfl
      have z1 := HZ.out.cell 1 rfl
      refine bodyPost_ret (v := .agg #[(.slice (some ⟨g7, 0, none⟩) (k + 1) cap7), (.slice ka ks.length kc)]) (by simp [results, Tryz.results20, go_sem, z0, z1]) rfl HRES.out
     ·by_cases hr1 : r = 1
      ·subst hr1
       obtain ⟨k, hk⟩ : ∃ k, k = ks.length := ⟨_, rfl⟩
       have HM := hid hk
       have y0 := BoxN.cell HS.out.box 0 rfl
       have y1 := BoxN.cell HS.out.box 1 rfl
       have HO : Hid (w4.ownsRow (w.heap.size + 3) 3 1 (.slice ka k kc) k (intsV ks)) := hid (by rw [hk]; exact HS.out.oc)
       have x1 := BoxN.cell HS.out.ix 1 rfl
       rw [← hk] at y1
       have hkb : k ≤ 1048576 := by omega
       have hwz : w.heap.size + 3 ≤ w4.heap.size := by have := HS.out.box.lt; omega
       have HSB := hid (fun w7 O p cap h1 h2 h3 => HS.out.pushC HGL.out (w7 := w7) (O := O) (p := p) (cap := cap) (z := (-1)) HM.out h1 (by rw [← HM.out]; exact h2) (by rw [← HM.out]; exact h3))
       have HKX := hid (fun w7 O (hg : (w4.alloc O).grownBy w7 (Value.slice ka k kc).ownBlock) => (BoxN.grown (BoxN.alloc HS.out.box O) hg (fun e => by have := (HO.out.lt _ e.symm).1; omega)))
       have HKR := hid (fun w7 O (hg : (w4.alloc O).grownBy w7 (Value.slice ka k kc).ownBlock) => (BoxN.grown (BoxN.alloc HS.out.res O) hg (fun e => by have := (HO.out.lt _ e.symm).1; omega)))
       clear hk
       go_wp2_with (at_builtin; refine wpList_append_form _ rfl (.tmp 55) (.tmp 56) 34 34 rfl (w.heap.size + 3) 3 3 i0 (.int .i64 0) 1 8 Tryz.underlying34 Tryz.underlying34 hi0 hz0 hz1 hz2 rfl (by decide) (.slice ka k kc) k (intsV ks) rfl (HO.out.alloc _) (some ⟨_, 0, none⟩) 1 1 [.int .i64 (-1)] rfl rfl (fun _ => ⟨_, rfl, cell_one_new _ _ _⟩) (by intro u hu; simp at hu; subst hu; rfl) (by omega) (by unfold maxLen; omega) (by omega) (by simp; omega) ?_; intro g7 cap7 w7 hown7 hg7 hat7 hlt7; have HOWN7 := hid hown7; have HG7 := hid hg7; have HAT7 := hid hat7; have y0 := BoxN.cell (HKX.out _ _ hg7) 0 rfl; have y1 := BoxN.cell (HKX.out _ _ hg7) 1 rfl; have r0 := BoxN.cell (HKR.out _ _ hg7) 0 rfl; have r1 := BoxN.cell (HKR.out _ _ hg7) 1 rfl; have g0 := BoxN.frozen (HKR.out _ _ hg7) 0; have g1 := BoxN.frozen (HKR.out _ _ hg7) 1; have f1 := BoxN.frozen (HKX.out _ _ hg7) 1; have HST := hid (HSB.out _ _ _ _ HOWN7.out HG7.out HAT7.out); clear hown7 hg7 hat7 hlt7)
       have HZ := hid ((BoxN.set HST.out.res 0 (.slice za zs.length zc)).set 1 (.slice (some ⟨g7, 0, none⟩) (k + 1) cap7))
       have HRES := hid (HST.out.done (n := n) (m := m) HGL.out (u1 := (.slice za zs.length zc)) (u2 := (.slice (some ⟨g7, 0, none⟩) (k + 1) cap7)) rfl (by omega) (by rw [List.length_append, List.length_singleton]; omega) (.inr (by rw [numB_end (by omega), Bool.and_false])))
       go_wp2
       have z0 := HZ.out.cell 0 rfl
       have z1 := HZ.out.cell 1 rfl
       refine bodyPost_ret (v := .agg #[(.slice za zs.length zc), (.slice (some ⟨g7, 0, none⟩) (k + 1) cap7)]) (by simp [results, Tryz.results20, go_sem, z0, z1]) rfl HRES.out
      ·have hri : ((r : Int) == 0) = false := by rw [beq_eq_false_iff_ne]; omega
       have hri1 : ((r : Int) == 1) = false := by rw [beq_eq_false_iff_ne]; omega
       have hri2 : ¬ (r : Int) = 0 := by omega
       have hri3 : ¬ (r : Int) = 1 := by omega
       have y0 := BoxN.cell HS.out.box 0 rfl
       have y1 := BoxN.cell HS.out.box 1 rfl
       have r0 := BoxN.cell HS.out.res 0 rfl
       have r1 := BoxN.cell HS.out.res 1 rfl
       have g0 := BoxN.frozen HS.out.res 0
       have g1 := BoxN.frozen HS.out.res 1
       clear hr0 hr1
       have HZ := hid ((BoxN.set HS.out.res 0 (.slice za zs.length zc)).set 1 (.slice ka ks.length kc))
       have HRES := hid (HS.out.done (n := n) (m := m) HGL.out (u1 := (.slice za zs.length zc)) (u2 := (.slice ka ks.length kc)) rfl (by omega) (by omega) (.inl HGOOD.out))
       go_wp2
       have z0 := HZ.out.cell 0 rfl
       have z1 := HZ.out.cell 1 rfl
       refine bodyPost_ret (v := .agg #[(.slice za zs.length zc), (.slice ka ks.length kc)]) (by simp [results, Tryz.results20, go_sem, z0, z1]) rfl HRES.out
end Go.Proofs.YtikiimlmoalbcaaGreatDoor

namespace Go.Proofs.YtikiimlmoalbcaaGreatDoor.Fr
theorem pow_split (i : Nat) : 2 ^ i = 4294967296 ^ (i / 32) * 2 ^ (i % 32) := by
 have h := Nat.div_add_mod i 32
 rw [show (4294967296 : Nat) = 2 ^ 32 from rfl, ← Nat.pow_mul, ← Nat.pow_add, h]
theorem or_bit {d j : Nat} (h : d % 2 ^ (j + 1) = 0) : d ||| 2 ^ j = d + 2 ^ j := by
 obtain ⟨m, hm⟩ : ∃ m, d = 2 ^ (j + 1) * m := ⟨d / 2 ^ (j + 1), by have := Nat.div_add_mod d (2 ^ (j + 1)); omega⟩
 have h2 : 2 ^ j < 2 ^ (j + 1) := Nat.pow_lt_pow_right (by omega) (by omega)
 rw [hm, Nat.two_pow_add_eq_or_of_lt h2]
structure DivIn (A B i : Nat) (zs : List Nat) (r : Nat) : Prop where
  len : zs.length = (dig A).length
  digs : Digs zs
  quo : val zs = A / 2 ^ i / B * 2 ^ i
  rem : r = A / 2 ^ i % B
theorem val_digit : ∀ (k : Nat) {zs : List Nat}, Digs zs → zs.getD k 0 = val zs / 4294967296 ^ k % 4294967296
 | k, [], _ => by simp [val]
 | 0, z :: zs, h => by
  have := h.head
  simp [val]
  omega
 | k + 1, z :: zs, h => by
  have h1 := h.head
  rw [List.getD_cons_succ, val_digit k h.tail, Nat.pow_succ, Nat.mul_comm, ← Nat.div_div_eq_div_mul]
  congr 2
  simp only [val]
  omega
theorem DivIn.start (A B : Nat) : DivIn A B (32 * (dig A).length) (List.replicate (dig A).length 0) 0 := by
 have h0 : A / 2 ^ (32 * (dig A).length) = 0 := by
  apply Nat.div_eq_of_lt
  have h1 := val_lt (digs_dig A)
  rw [val_dig] at h1
  rw [Nat.pow_mul]
  exact h1
 refine ⟨by simp, fun i => ?_, ?_, ?_⟩
 ·by_cases h : i < (dig A).length
  ·simp [List.getD, h]
  ·simp [List.getD, Nat.not_lt.1 h]
 ·rw [val_replicate, h0]; simp
 ·rw [h0]; simp
section
variable {A B i : Nat} {zs : List Nat} {r : Nat}
theorem DivIn.half (_ : DivIn A B (i + 1) zs r) : A / 2 ^ i = 2 * (A / 2 ^ (i + 1)) + A / 2 ^ i % 2 := by
 rw [Nat.pow_succ, ← Nat.div_div_eq_div_mul]
 have := Nat.div_add_mod (A / 2 ^ i) 2
 omega
theorem DivIn.clear (h : DivIn A B (i + 1) zs r) : zs.getD (i / 32) 0 % 2 ^ (i % 32 + 1) = 0 := by
 rw [val_digit _ h.digs, h.quo]
 generalize A / 2 ^ (i + 1) / B = Q
 have hj : i % 32 < 32 := Nat.mod_lt _ (by omega)
 have h1 : 2 ^ (i + 1) = 4294967296 ^ (i / 32) * 2 ^ (i % 32 + 1) := by rw [Nat.pow_succ, pow_split i, Nat.pow_succ, Nat.mul_assoc]
 rw [h1, Nat.mul_left_comm, Nat.mul_div_cancel_left _ (Nat.pow_pos (by omega))]
 generalize i % 32 = j at *
 have h2 : (4294967296 : Nat) = 2 ^ (j + 1) * 2 ^ (31 - j) := by
  rw [show (4294967296 : Nat) = 2 ^ 32 from rfl, ← Nat.pow_add]
  congr 1; omega
 rw [h2, Nat.mod_mul_right_mod, Nat.mul_mod_left]
theorem DivIn.up (h : DivIn A B (i + 1) zs r) (hB : 0 < B) (hi : i / 32 < (dig A).length) (hr : r < B) (hge : B ≤ 2 * r + A / 2 ^ i % 2) :
  DivIn A B i (zs.set (i / 32) (zs.getD (i / 32) 0 ||| 2 ^ (i % 32))) (2 * r + A / 2 ^ i % 2 - B) ∧ zs.getD (i / 32) 0 ||| 2 ^ (i % 32) < 4294967296 := by
 have h1 := h.half
 have h2 := Nat.div_add_mod (A / 2 ^ (i + 1)) B
 rw [← h.rem] at h2
 have hb : A / 2 ^ i % 2 < 2 := Nat.mod_lt _ (by omega)
 have hlt : 2 * r + A / 2 ^ i % 2 - B < B := by omega
 have h3 : A / 2 ^ i = B * (2 * (A / 2 ^ (i + 1) / B) + 1) + (2 * r + A / 2 ^ i % 2 - B) := by
  have h4 : B * (2 * (A / 2 ^ (i + 1) / B) + 1) = 2 * (B * (A / 2 ^ (i + 1) / B)) + B := by rw [Nat.mul_succ, Nat.mul_left_comm]
  omega
 have h5 : A / 2 ^ i / B = 2 * (A / 2 ^ (i + 1) / B) + 1 := by
  have h7 : (B * (2 * (A / 2 ^ (i + 1) / B) + 1) + (2 * r + A / 2 ^ i % 2 - B)) / B = 2 * (A / 2 ^ (i + 1) / B) + 1 := by
   rw [Nat.mul_add_div hB, Nat.div_eq_of_lt hlt, Nat.add_zero]
  rw [← h3] at h7
  exact h7
 have h6 : A / 2 ^ i % B = 2 * r + A / 2 ^ i % 2 - B := by
  have h7 : (B * (2 * (A / 2 ^ (i + 1) / B) + 1) + (2 * r + A / 2 ^ i % 2 - B)) % B = 2 * r + A / 2 ^ i % 2 - B := by rw [Nat.mul_add_mod, Nat.mod_eq_of_lt hlt]
  rw [← h3] at h7
  exact h7
 have hcl := h.clear
 have hor := or_bit hcl
 have hj : i % 32 < 32 := Nat.mod_lt _ (by omega)
 have hd := h.digs (i / 32)
 have hsm : zs.getD (i / 32) 0 ||| 2 ^ (i % 32) < 4294967296 := by
  have := Nat.or_lt_two_pow (x := zs.getD (i / 32) 0) (y := 2 ^ (i % 32)) (n := 32) hd (Nat.pow_lt_pow_right (by omega) hj)
  exact this
 refine ⟨⟨by rw [List.length_set, h.len], h.digs.set _ _ hsm, ?_, h6.symm⟩, hsm⟩
 have hv := val_set (zs := zs) (p := i / 32) (d := zs.getD (i / 32) 0 ||| 2 ^ (i % 32)) (by rw [h.len]; exact hi)
 rw [hor, Nat.mul_add, ← pow_split] at hv
 rw [hor]
 have h8 : val zs = A / 2 ^ (i + 1) / B * 2 ^ (i + 1) := h.quo
 have h9 : A / 2 ^ (i + 1) / B * 2 ^ (i + 1) = 2 * (A / 2 ^ (i + 1) / B) * 2 ^ i := by
  rw [Nat.pow_succ, Nat.mul_comm (2 ^ i) 2, Nat.mul_left_comm, Nat.mul_assoc]
 rw [h5, Nat.succ_mul, ← h9, ← h8]
 omega
end
end Go.Proofs.YtikiimlmoalbcaaGreatDoor.Fr
namespace Go.Proofs.YtikiimlmoalbcaaGreatDoor.Fr
open Go.RowKit
theorem Own32.later {w w' : World} {g N : Nat} {zs : List Nat} (h : Own32 w g N zs) (hb : Below w.heap.size w w') : Own32 w' g N zs := by
 obtain ⟨h1, h2, h3, h4⟩ := h
 exact ⟨h1, h2, Nat.lt_of_lt_of_le h3 hb.size, fun i hi => ⟨(hb.cell (p := ⟨g, i, none⟩) h3).trans (h4 i hi).1, (hb.frozen (p := ⟨g, i, none⟩) h3).trans (h4 i hi).2⟩⟩
def GivesQRr (w : World) (q r : Nat) (e : Ending) (w' : World) : Prop :=
  ∃ a c a' c', e = .returned (.tuple #[.slice a (dig q).length c, .slice a' (dig r).length c']) ∧ Rd32 w' (.slice a (dig q).length c) (dig q) ∧ (∀ R, R < w.heap.size → Off R (.slice a (dig q).length c)) ∧ Below w.heap.size w w'
end Go.Proofs.YtikiimlmoalbcaaGreatDoor.Fr
namespace Go.Proofs.YtikiimlmoalbcaaGreatDoor.Fr
open Go.RowKit
end Go.Proofs.YtikiimlmoalbcaaGreatDoor.Fr

namespace Go.Proofs.YtikiimlmoalbcaaGreatDoor
open Go.RowKit
theorem rdU_laterB {w w1 : World} {sa : Option Addr} {sn sc : Nat} (h : RdU w w.heap.size sa sn sc) (hb1 : Below w.heap.size w w1) : RdU w1 w1.heap.size sa sn sc := by
 obtain ⟨h1, h2, h3⟩ := h
 refine ⟨h1, h2, fun hp => ?_⟩
 obtain ⟨b, o, e, hlt, hc⟩ := h3 hp
 exact ⟨b, o, e, by have := hb1.size; omega, fun i hi => by
  obtain ⟨x, hx, hcx⟩ := hc i hi
  exact ⟨x, hx, (hb1.cell (p := ⟨b, o + i, none⟩) hlt).trans hcx⟩⟩
end Go.Proofs.YtikiimlmoalbcaaGreatDoor

namespace Go.Proofs.YtikiimlmoalbcaaGreatDoor
open Go.RowKit
end Go.Proofs.YtikiimlmoalbcaaGreatDoor
