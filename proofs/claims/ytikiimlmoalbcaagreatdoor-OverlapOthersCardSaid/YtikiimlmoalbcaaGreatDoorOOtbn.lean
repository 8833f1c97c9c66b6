/- Contracts of bounded.FollowTop, overlap.Check at valid certificates. Contracts of bounded.FollowTop, overlap.Check at valid certificates and at others. Contracts of overlap.Check's closure, overlap.Check. Contract of the reference's product of words. -/
import Derived.Test.YtikiimlmoalbcaaGreatDoorOOtbm
import Derived.Test.YtikiimlmoalbcaaGreatDoorOOtax
set_option linter.unusedVariables false
set_option linter.unusedSimpArgs false
namespace Go.Proofs.YtikiimlmoalbcaaGreatDoor
open Go.RowKit
theorem tkbn {P : Program} {ops : Array Oper} {Q : Exit → Act → World → Prop} {md : Region.Mode} {S : World → Prop} {i : Nat} {oi : Oper} {v : Value} {fuel : Nat} {listed : Array Bool} {a : Act} {w : World} (a1 : ops[i]? = some oi := by simp only [List.getElem?_toArray, List.getElem?_cons_zero, List.getElem?_cons_succ]; rfl)
    (a2 : Region.noSelect ops = true := by kernel_rfl) (a3 : Region.free md ops listed i = true := by kernel_rfl) (a4 : (Region.ready md ops listed).contains i = true := by kernel_rfl) (a5 : ∀ (c : List PanicEntry) (a : Act) (w : World), Q (Exit.panic c) (a.put oi.dst v) w → Q (Exit.panic c) a w := by intro _ _ _ h; exact h)
    (y : YieldsIf P ops S oi v a) (a6 : S w := by assumption) (z : wpAnyH P md ops Q S fuel (listed.setIfInBounds i true) (a.put oi.dst v) w) : wpAnyH P md ops Q S (fuel + 1) listed a w := wpAnyH_take a1 a2 a3 a4 a5 y a6 z
theorem csbn {P : Program} {ops : Array Oper} {Q : Exit → Act → World → Prop} {md : Region.Mode} {S : World → Prop} {fuel : Nat} {listed : Array Bool} {a : Act} {w : World} {i : Nat} {o : Oper} {rs : List Nat} (a1 : ops[i]? = some o := by simp only [List.getElem?_toArray, List.getElem?_cons_zero, List.getElem?_cons_succ]; rfl)
    (x : ∀ (K' : Act → World → Prop), Shut (∀ (a : Act) (w : World), S w → (S w → wpAnyH P md ops Q S fuel (listed.setIfInBounds i true) a w) → K' a w) → if Region.wanted o (yielded ops a.tmps) = true then Oper.wp P o a w K' Q else K' (a.put o.dst undef) w)
    (y : AllReadyH P md ops Q S fuel listed a w rs) : AllReadyH P md ops Q S fuel listed a w (i :: rs) := AllReadyH.cons a1 x y
def othK (k : Nat) (ds : List Mq) (ta ca : Int) (P R : Nat) : Bool := decide (ds.length = k) && (decide (k = 0) || decide (cfM (ds.getD (k - 1) default).1 ⟨ta, ca, (none, 0), (none, 0), P, R⟩ < 0))
set_option maxRecDepth 100000 in
set_option maxHeartbeats 8000000 in
theorem fol_top1 {w : World} {hv : Value} {ds : List Mq} (k o1 o2 : Nat) (hh : MsRd w hv ds) (ho : Fr.OneAt w) (h1 : w.cell? ⟨o1, 0, none⟩ = some hv) (h2 : w.cell? ⟨o2, 0, none⟩ = some (.int .i64 (k : Int))) (hk : k ≤ 1048576) (ta ca : Int) (a b : Option Addr) (m n P R : Nat)
  (hn : Fr.Rd32 w (.slice a (Fr.dig P).length m) (Fr.dig P)) (hd : Fr.Rd32 w (.slice b (Fr.dig R).length n) (Fr.dig R)) (hs : Fr.Sml P R) :
  Calls Tryz.prog 134 #[.agg #[.int .i64 ta, .int .i64 ca, .bool false, .slice a (Fr.dig P).length m, .bool false, .slice b (Fr.dig R).length n], .pointer (some ⟨o1, 0, none⟩), .pointer (some ⟨o2, 0, none⟩)] w (Ret w (.bool (othK k ds ta ca P R))) := by
 have hol1 := World.block_lt_of_cell? _ _ h1
 have hol2 := World.block_lt_of_cell? _ _ h2
 have hmany := hh.many
 have HOR := hid (fun i W (hi : i < ds.length) (hW : Below w.heap.size w W) => bnd_Order (ds.getD i default).1 ⟨ta, ca, (a, m), (b, n), P, R⟩ W ((hh.later hW).rd _ (getD_mem hi _)) ⟨a, m, b, n, rfl, hn.kept hW, hd.kept hW⟩ (hh.sml _ (getD_mem hi _)) hs (ho.below hW))
 have HOR : Hid (∀ i W, i < ds.length → Below w.heap.size w W → Calls Tryz.prog 81 #[.agg (encM (ds.getD i default).1).toArray, .agg #[.int .i64 ta, .int .i64 ca, .bool false, .slice a (Fr.dig P).length m, .bool false, .slice b (Fr.dig R).length n]] W (fun e w' => e = .returned (.int .i64 (cfM (ds.getD i default).1 ⟨ta, ca, (a, m), (b, n), P, R⟩)) ∧ Below W.heap.size W w')) := hid HOR.out
 have HHT := hid (fun i W (hi : i < ds.length) (hW : Below w.heap.size w W) => hit_at (InK.keep (w' := W) hh.mem fun x hx => hW.cell (p := x) hx) hi)
 have HOT : Hid (othK k ds ta ca P R = (decide (ds.length = k) && (decide (k = 0) || decide (cfM (ds.getD (k - 1) default).1 ⟨ta, ca, (a, m), (b, n), P, R⟩ < 0)))) := hid rfl
 obtain ⟨ha, hc0, rfl, hhc, hhm, -⟩ := id hh.mem
 generalize othK k ds ta ca P R = T at *
 clear hh ho hn hd hs
 unfold maxLen at hhm
 generalize (Fr.dig P).length = l1 at *
 generalize (Fr.dig R).length = l2 at *
 have hx0 := BoxN.new w #[.int .i64 ta, .int .i64 ca, .bool false, .slice a l1 m, .bool false, .slice b l2 n] 53
 have HB0 := hid ((Below.refl w.heap.size w).alloc (Nat.le_refl _) (.cells #[.int .i64 ta, .int .i64 ca, .bool false, .slice a l1 m, .bool false, .slice b l2 n] 53))
 go_enter Tryz.func134, Tryz.ntmps134
 go_upto_region 1 with fail
 generalize w.alloc (.cells #[.int .i64 ta, .int .i64 ca, .bool false, .slice a l1 m, .bool false, .slice b l2 n] 53) = W0 at *
 have z1 := (HB0.out.cell (p := ⟨o1, 0, none⟩) hol1).trans h1
 have z2 := (HB0.out.cell (p := ⟨o2, 0, none⟩) hol2).trans h2
 have x0 := hx0.cell 0 rfl
 have x1 := hx0.cell 1 rfl
 have x2 := hx0.cell 2 rfl
 have x3 := hx0.cell 3 rfl
 have x4 := hx0.cell 4 rfl
 have x5 := hx0.cell 5 rfl
 have hx0l := hx0.lt
 have HX0 := hid hx0
 clear hx0
 by_cases hnk : ds.length = k
 ·by_cases hkz : k = 0
  ·have HR : Hid (T = true) := hid (by rw [HOT.out, decide_eq_true hnk, decide_eq_true hkz]; rfl)
   have g1 : decide (ds.length = k) = true := decide_eq_true hnk
   have g2 : decide (k = 0) = true := decide_eq_true hkz
   have g3 : ((ds.length : Nat) : Int) = (k : Int) := by omega
   have g4 : (k : Int) = 0 := by omega
   generalize ds.length = NH at *
   clear HOR HHT hnk hkz x0 x1 x2 x3 x4 x5
   go_quiet (fail)
   go_wp2
   go_ret
   exact ⟨by rw [HR.out]; rfl, by have h1 := HB0.out; repeat' (first | (with_reducible exact Below.refl _ _) | (with_reducible assumption) | (with_reducible refine below_drewN ?_) | (with_reducible refine Below.alloc ?_ ?_ _) | (with_reducible refine Below.drew ?_) | (with_reducible refine Below.setCell ?_ ?_ _) | (with_reducible refine Below.trans ?_ (Below.mono (by with_reducible assumption) ?_)) | go_size)⟩
  ·have HR0 : Hid (T = decide (cfM (ds.getD (k - 1) default).1 ⟨ta, ca, (a, m), (b, n), P, R⟩ < 0)) := hid (by rw [HOT.out, decide_eq_true hnk, decide_eq_false hkz]; rfl)
   subst hnk
   obtain ⟨pp, hpp⟩ : ∃ pp, pp = ds.length - 1 := ⟨_, rfl⟩
   rw [← hpp] at HR0
   have hkw : IntKind.i64.wrap (((ds.length : Nat) : Int) - 1) = (pp : Int) := by rw [IntKind.wrap_i64]; omega
   have hppd : pp < ds.length := by omega
   have hn1 : pp + 1 ≤ ds.length := by omega
   have hn2 : ds.length ≤ pp + 1 := by omega
   have g2 : decide (ds.length = 0) = false := decide_eq_false hkz
   have g4 : ¬ ((ds.length : Nat) : Int) = 0 := by omega
   have g5 : (((ds.length : Nat) : Int) == 0) = false := by simpa using hkz
   have g6 : (ds.length == 0) = false := by simpa using hkz
   have hppl : (pp : Int) < ((ds.length : Nat) : Int) := by omega
   have HORQ := hid (fun W hW => HOR.out pp W hppd hW)
   obtain ⟨hb, ho, hc1, e, hbl, hcl⟩ := HHT.out pp W0 hppd HB0.out
   obtain ⟨rfl, -, rfl⟩ := Value.slice.inj e
   generalize cfM (ds.getD pp default).1 ⟨ta, ca, (a, m), (b, n), P, R⟩ = cf at *
   generalize (ds.getD pp default).1 = y at *
   clear HOR HHT HOT hpp e hkz hppd
   generalize ds.length = NH at *
   obtain ⟨tb, cb, ⟨nb, nd⟩, ⟨db, dd⟩, P0, Q0⟩ := y
   have HORQ : Hid (∀ W, Below w.heap.size w W → Calls Tryz.prog 81 #[.agg #[.int .i64 tb, .int .i64 cb, .bool false, .slice nb (Fr.dig P0).length nd, .bool false, .slice db (Fr.dig Q0).length dd], .agg #[.int .i64 ta, .int .i64 ca, .bool false, .slice a l1 m, .bool false, .slice b l2 n]] W (fun e w' => e = .returned (.int .i64 cf) ∧ Below W.heap.size W w')) := hid HORQ.out
   have c0 : W0.cell? ⟨hb, ho + pp * 6, none⟩ = some (.int .i64 tb) := by have h3 := hcl 0 (by omega); rw [Nat.add_zero] at h3; exact h3
   have c1 : W0.cell? ⟨hb, ho + pp * 6 + 1, none⟩ = some (.int .i64 cb) := hcl 1 (by omega)
   have c2 : W0.cell? ⟨hb, ho + pp * 6 + 2, none⟩ = some (.bool false) := hcl 2 (by omega)
   have c3 : W0.cell? ⟨hb, ho + pp * 6 + 3, none⟩ = some (.slice nb (Fr.dig P0).length nd) := hcl 3 (by omega)
   have c4 : W0.cell? ⟨hb, ho + pp * 6 + 4, none⟩ = some (.bool false) := hcl 4 (by omega)
   have c5 : W0.cell? ⟨hb, ho + pp * 6 + 5, none⟩ = some (.slice db (Fr.dig Q0).length dd) := hcl 5 (by omega)
   have hbl0 : hb < W0.heap.size := Nat.lt_of_lt_of_le hbl HB0.out.size
   have hol10 : o1 < W0.heap.size := Nat.lt_of_lt_of_le hol1 HB0.out.size
   have hol20 : o2 < W0.heap.size := Nat.lt_of_lt_of_le hol2 HB0.out.size
   have HG := hid (fun W (hW : Below W0.heap.size W0 W) => (by
    have h1 := HX0.out.below hW HX0.out.lt
    exact ⟨(hW.cell (p := ⟨o1, 0, none⟩) hol10).trans z1, (hW.cell (p := ⟨o2, 0, none⟩) hol20).trans z2, h1.cell 0 rfl, h1.cell 1 rfl, h1.cell 2 rfl, h1.cell 3 rfl, h1.cell 4 rfl, h1.cell 5 rfl, (hW.cell (p := ⟨hb, ho + pp * 6, none⟩) hbl0).trans c0, (hW.cell (p := ⟨hb, ho + pp * 6 + 1, none⟩) hbl0).trans c1, (hW.cell (p := ⟨hb, ho + pp * 6 + 2, none⟩) hbl0).trans c2, (hW.cell (p := ⟨hb, ho + pp * 6 + 3, none⟩) hbl0).trans c3, (hW.cell (p := ⟨hb, ho + pp * 6 + 4, none⟩) hbl0).trans c4, (hW.cell (p := ⟨hb, ho + pp * 6 + 5, none⟩) hbl0).trans c5⟩ : W.cell? ⟨o1, 0, none⟩ = some (.slice (some ⟨hb, ho, none⟩) NH hc0) ∧ W.cell? ⟨o2, 0, none⟩ = some (.int .i64 (NH : Int)) ∧ W.cell? ⟨w.heap.size, 0, none⟩ = some (.int .i64 ta) ∧ W.cell? ⟨w.heap.size, 1, none⟩ = some (.int .i64 ca) ∧ W.cell? ⟨w.heap.size, 2, none⟩ = some (.bool false) ∧ W.cell? ⟨w.heap.size, 3, none⟩ = some (.slice a l1 m) ∧ W.cell? ⟨w.heap.size, 4, none⟩ = some (.bool false) ∧ W.cell? ⟨w.heap.size, 5, none⟩ = some (.slice b l2 n) ∧ W.cell? ⟨hb, ho + pp * 6, none⟩ = some (.int .i64 tb) ∧ W.cell? ⟨hb, ho + pp * 6 + 1, none⟩ = some (.int .i64 cb) ∧ W.cell? ⟨hb, ho + pp * 6 + 2, none⟩ = some (.bool false) ∧ W.cell? ⟨hb, ho + pp * 6 + 3, none⟩ = some (.slice nb (Fr.dig P0).length nd) ∧ W.cell? ⟨hb, ho + pp * 6 + 4, none⟩ = some (.bool false) ∧ W.cell? ⟨hb, ho + pp * 6 + 5, none⟩ = some (.slice db (Fr.dig Q0).length dd)))
   have HD := hid (show Below W0.heap.size W0 W0.drew by have h1 := Below.refl W0.heap.size W0; repeat' (first | (with_reducible exact Below.refl _ _) | (with_reducible assumption) | (with_reducible refine below_drewN ?_) | (with_reducible refine Below.alloc ?_ ?_ _) | (with_reducible refine Below.drew ?_) | (with_reducible refine Below.setCell ?_ ?_ _) | (with_reducible refine Below.trans ?_ (Below.mono (by with_reducible assumption) ?_)) | go_size))
   clear hcl hbl x0 x1 x2 x3 x4 x5 c0 c1 c2 c3 c4 c5 z1 z2 h1 h2
   refine wp_region_held_drew (S := fun W => W.cell? ⟨o1, 0, none⟩ = some (.slice (some ⟨hb, ho, none⟩) NH hc0) ∧ W.cell? ⟨o2, 0, none⟩ = some (.int .i64 (NH : Int)) ∧ W.cell? ⟨w.heap.size, 0, none⟩ = some (.int .i64 ta) ∧ W.cell? ⟨w.heap.size, 1, none⟩ = some (.int .i64 ca) ∧ W.cell? ⟨w.heap.size, 2, none⟩ = some (.bool false) ∧ W.cell? ⟨w.heap.size, 3, none⟩ = some (.slice a l1 m) ∧ W.cell? ⟨w.heap.size, 4, none⟩ = some (.bool false) ∧ W.cell? ⟨w.heap.size, 5, none⟩ = some (.slice b l2 n) ∧ W.cell? ⟨hb, ho + pp * 6, none⟩ = some (.int .i64 tb) ∧ W.cell? ⟨hb, ho + pp * 6 + 1, none⟩ = some (.int .i64 cb) ∧ W.cell? ⟨hb, ho + pp * 6 + 2, none⟩ = some (.bool false) ∧ W.cell? ⟨hb, ho + pp * 6 + 3, none⟩ = some (.slice nb (Fr.dig P0).length nd) ∧ W.cell? ⟨hb, ho + pp * 6 + 4, none⟩ = some (.bool false) ∧ W.cell? ⟨hb, ho + pp * 6 + 5, none⟩ = some (.slice db (Fr.dig Q0).length dd)) (by kernel_rfl) (HG.out _ HD.out) (fun hHeld => ?_)
   refine tkbn (i := 0) (v := ?_) (y := (Or.inl ⟨by rfl, ?_⟩)) (z := ?_)
   rotate_left
   ·(intro w' hSw; (try dsimp only at hSw); go_simp) <;> with_reducible rfl
   try simp only [Act.put, List.setIfInBounds_toArray, List.set]
   refine tkbn (i := 1) (v := ?_) (y := (Or.inl ⟨by rfl, ?_⟩)) (z := ?_)
   rotate_left
   ·(intro w' hSw; (try dsimp only at hSw); go_simp) <;> with_reducible rfl
   try simp only [Act.put, List.setIfInBounds_toArray, List.set]
   refine tkbn (i := 2) (v := ?_) (y := (Or.inl ⟨by rfl, ?_⟩)) (z := ?_)
   rotate_left
   ·(intro w' hSw; (try dsimp only at hSw); go_simp) <;> with_reducible rfl
   try simp only [Act.put, List.setIfInBounds_toArray, List.set]
   refine tkbn (i := 3) (v := ?_) (y := (Or.inl ⟨by rfl, ?_⟩)) (z := ?_)
   rotate_left
   ·(intro w' hSw; (try dsimp only at hSw); go_simp) <;> with_reducible rfl
   try simp only [Act.put, List.setIfInBounds_toArray, List.set]
   refine tkbn (i := 4) (v := ?_) (y := (Or.inl ⟨by rfl, ?_⟩)) (z := ?_)
   rotate_left
   ·(intro w' hSw; (try dsimp only at hSw); go_simp) <;> with_reducible rfl
   try simp only [Act.put, List.setIfInBounds_toArray, List.set]
   refine tkbn (i := 5) (v := ?_) (y := (Or.inl ⟨by rfl, ?_⟩)) (z := ?_)
   rotate_left
   ·(intro w' hSw; (try dsimp only at hSw); go_simp) <;> with_reducible rfl
   try simp only [Act.put, List.setIfInBounds_toArray, List.set]
   refine tkbn (i := 6) (v := ?_) (y := (Or.inl ⟨by rfl, ?_⟩)) (z := ?_)
   rotate_left
   ·(intro w' hSw; (try dsimp only at hSw); go_simp) <;> with_reducible rfl
   try simp only [Act.put, List.setIfInBounds_toArray, List.set]
   refine tkbn (i := 7) (v := ?_) (y := (Or.inl ⟨by rfl, ?_⟩)) (z := ?_)
   rotate_left
   ·(intro w' hSw; (try dsimp only at hSw); go_simp) <;> with_reducible rfl
   try simp only [Act.put, List.setIfInBounds_toArray, List.set]
   refine tkbn (i := 8) (v := ?_) (y := (Or.inl ⟨by rfl, ?_⟩)) (z := ?_)
   rotate_left
   ·(intro w' hSw; (try dsimp only at hSw); go_simp) <;> with_reducible rfl
   try simp only [Act.put, List.setIfInBounds_toArray, List.set]
   refine tkbn (i := 9) (v := ?_) (y := (Or.inl ⟨by rfl, ?_⟩)) (z := ?_)
   rotate_left
   ·(intro w' hSw; (try dsimp only at hSw); go_simp) <;> with_reducible rfl
   try simp only [Act.put, List.setIfInBounds_toArray, List.set]
   refine tkbn (i := 10) (v := ?_) (y := (Or.inl ⟨by rfl, ?_⟩)) (z := ?_)
   rotate_left
   ·(intro w' hSw; (try dsimp only at hSw); go_simp) <;> with_reducible rfl
   try simp only [Act.put, List.setIfInBounds_toArray, List.set]
   refine tkbn (i := 11) (v := ?_) (y := (Or.inl ⟨by rfl, ?_⟩)) (z := ?_)
   rotate_left
   ·(intro w' hSw; (try dsimp only at hSw); go_simp) <;> with_reducible rfl
   try simp only [Act.put, List.setIfInBounds_toArray, List.set]
   refine tkbn (i := 12) (v := ?_) (y := (Or.inl ⟨by rfl, ?_⟩)) (z := ?_)
   rotate_left
   ·(intro w' hSw; (try dsimp only at hSw); go_simp) <;> with_reducible rfl
   try simp only [Act.put, List.setIfInBounds_toArray, List.set]
   refine tkbn (i := 13) (v := ?_) (y := (Or.inl ⟨by rfl, ?_⟩)) (z := ?_)
   rotate_left
   ·(intro w' hSw; (try dsimp only at hSw); go_simp) <;> with_reducible rfl
   try simp only [Act.put, List.setIfInBounds_toArray, List.set]
   refine wpAnyH_ready (rs := [14]) (by kernel_rfl) (by simp) ?_
   refine csbn (x := fun K hK => ?_) (y := AllReadyH.nil)
   go_simp
   go_at_call 81
   (with_reducible refine (HORQ.out _ (Fr.belowT HB0.out HD.out)).mono ?_)
   rintro e w5 ⟨rfl, hb5⟩
   have HD5 := hid (Fr.belowT HD.out hb5)
   clear hb5
   (try go_wp2_with fail)
   refine hK.out _ _ (HG.out _ HD5.out) (fun hHeld => ?_)
   clear hK K
   try simp only [Act.put, List.setIfInBounds_toArray, List.set]
   refine tkbn (i := 15) (v := ?_) (y := (Or.inl ⟨by rfl, ?_⟩)) (z := ?_)
   rotate_left
   ·(intro w' hSw; (try dsimp only at hSw); go_simp) <;> with_reducible rfl
   try simp only [Act.put, List.setIfInBounds_toArray, List.set]
   refine tkbn (i := 16) (v := ?_) (y := (Or.inl ⟨by rfl, ?_⟩)) (z := ?_)
   rotate_left
   ·(intro w' hSw; (try dsimp only at hSw); go_simp) <;> with_reducible rfl
   try simp only [Act.put, List.setIfInBounds_toArray, List.set]
   refine tkbn (i := 17) (v := ?_) (y := (Or.inl ⟨by rfl, ?_⟩)) (z := ?_)
   rotate_left
   ·(intro w' hSw; (try dsimp only at hSw); go_simp) <;> with_reducible rfl
   try simp only [Act.put, List.setIfInBounds_toArray, List.set]
   refine tkbn (i := 18) (v := ?_) (y := (Or.inl ⟨by rfl, ?_⟩)) (z := ?_)
   rotate_left
   ·(intro w' hSw; (try dsimp only at hSw); go_simp) <;> with_reducible rfl
   try simp only [Act.put, List.setIfInBounds_toArray, List.set]
   refine wpAnyH_done (by kernel_rfl) ?_ _
   go_wp2
   go_ret
   exact ⟨by rw [HR0.out]; first | rfl | simp [*], Fr.belowT HB0.out HD5.out⟩
 ·have HR : Hid (T = false) := hid (by rw [HOT.out, decide_eq_false hnk]; rfl)
  have g1 : decide (ds.length = k) = false := decide_eq_false hnk
  have g3 : ¬ ((ds.length : Nat) : Int) = (k : Int) := by omega
  have g5 : (((ds.length : Nat) : Int) == (k : Int)) = false := beq_false_of_ne g3
  have g6 : (ds.length == k) = false := beq_false_of_ne hnk
  generalize ds.length = NH at *
  clear HOR HHT hnk x0 x1 x2 x3 x4 x5
  go_quiet (fail)
  go_wp2
  go_ret
  exact ⟨by rw [HR.out]; rfl, by have h1 := HB0.out; repeat' (first | (with_reducible exact Below.refl _ _) | (with_reducible assumption) | (with_reducible refine below_drewN ?_) | (with_reducible refine Below.alloc ?_ ?_ _) | (with_reducible refine Below.drew ?_) | (with_reducible refine Below.setCell ?_ ?_ _) | (with_reducible refine Below.trans ?_ (Below.mono (by with_reducible assumption) ?_)) | go_size)⟩
end Go.Proofs.YtikiimlmoalbcaaGreatDoor

namespace Go.Proofs.YtikiimlmoalbcaaGreatDoor
open Go.RowKit
def folTopB (cs : List Cv) (den : Nat → Nat → Nat) (kn : Nat → Nat × Nat) (k : Nat) (ds : List Mq) : Bool :=
  decide (ds.length ≤ k) && followB cs den kn (fun c => othK k ds (cs.getD c Cv.z).1.1 ((cs.getD c Cv.z).1.2 : Int) ((kn c).2 / Nat.gcd (kn c).2 (den (kn c).2 (sizeC cs c))) (den (kn c).2 (sizeC cs c) / Nat.gcd (kn c).2 (den (kn c).2 (sizeC cs c)))) ds
set_option maxRecDepth 100000 in
set_option maxHeartbeats 8000000 in
theorem fol_top_over {w : World} {cs : List Cv} {ev vv lv hv fv : Value} {ds : List Mq} {den : Nat → Nat → Nat} {Q : Nat} (kn : Nat → Nat × Nat) (k k1 k2 k3 : Nat) (hok : CvsOk cs) (hx : RdIx w (· < w.heap.size) ev vv lv (indexOf cs)) (hh : MsRd w hv ds) (hfv : ∃ ff fa fc, fv = .func ff fa fc) (hs : ∀ W, ScoOk W fv Q den) (ho : Fr.OneAt w) (hk : k ≤ 1048576) (hQ : Q ≤ 1048576)
  (hkb : ∀ c, c < cs.length → (kn c).1 ≤ Q ∧ (kn c).1 ≤ sizeC cs c ∧ (kn c).2 ≤ Q ∧ (kn c).2 ≤ sizeC cs c)
  (hkn : ∀ c W, c < cs.length → Below w.heap.size w W → Calls Tryz.prog 80 #[.int .i64 (c : Int), .pointer (some ⟨k1, 0, none⟩), .pointer (some ⟨k2, 0, none⟩), .pointer (some ⟨k3, 0, none⟩)] W (Ret W (.tuple #[.int .i64 ((kn c).1 : Int), .int .i64 ((kn c).2 : Int)]))) :
  Calls Tryz.prog 79 #[.agg #[ev, vv, lv], hv, .int .i64 (k : Int), .func (.func 80) #[] #[.pointer (some ⟨k1, 0, none⟩), .pointer (some ⟨k2, 0, none⟩), .pointer (some ⟨k3, 0, none⟩)], fv] w (Ret w (.bool (folTopB cs den kn k ds))) := by
 obtain ⟨ea, ec, rfl, -⟩ := id hx.ents
 obtain ⟨va, vc, rfl, -⟩ := id hx.vals
 obtain ⟨lf, ⟨la, lc, rfl, -⟩, -⟩ := id hx.lists
 obtain ⟨ha, hc0, rfl, -⟩ := id hh.mem
 have hfv2 := hfv
 obtain ⟨ff, fa, fc, rfl⟩ := hfv
 obtain ⟨W0, hW0⟩ : ∃ W, W = ((w.alloc (.cells #[.slice ea (indexOf cs).ents.length ec, .slice va (indexOf cs).vals.length vc, .slice la (indexOf cs).lists.length lc] 30)).alloc (.cells #[.slice ha ds.length hc0] 33)).alloc (.cells #[.int .i64 (k : Int)] 3) := ⟨_, rfl⟩
 have hB0 : Below w.heap.size w W0 := by
  rw [hW0]
  exact (((Below.refl w.heap.size w).alloc (Nat.le_refl _) _).alloc (by simp) _).alloc (by simp; omega) _
 have hx0 : BoxN W0 w.heap.size 30 #[.slice ea (indexOf cs).ents.length ec, .slice va (indexOf cs).vals.length vc, .slice la (indexOf cs).lists.length lc] := by
  rw [hW0]
  exact ((BoxN.new w _ _).alloc _).alloc _
 have hx1 : BoxN W0 (w.heap.size + 1) 33 #[.slice ha ds.length hc0] := by
  rw [hW0]
  have h := (BoxN.new (w.alloc (.cells #[.slice ea (indexOf cs).ents.length ec, .slice va (indexOf cs).vals.length vc, .slice la (indexOf cs).lists.length lc] 30)) #[.slice ha ds.length hc0] 33).alloc (.cells #[.int .i64 (k : Int)] 3)
  rw [World.size_alloc] at h
  exact h
 have hx2 : BoxN W0 (w.heap.size + 2) 3 #[.int .i64 (k : Int)] := by
  rw [hW0]
  have h := BoxN.new ((w.alloc (.cells #[.slice ea (indexOf cs).ents.length ec, .slice va (indexOf cs).vals.length vc, .slice la (indexOf cs).lists.length lc] 30)).alloc (.cells #[.slice ha ds.length hc0] 33)) #[.int .i64 (k : Int)] 3
  rw [World.size_alloc, World.size_alloc] at h
  exact h
 have HFO := hid (fol_over (w := W0) (hv := .slice ha ds.length hc0) (ds := ds) kn (fun c => othK k ds (cs.getD c Cv.z).1.1 ((cs.getD c Cv.z).1.2 : Int) ((kn c).2 / Nat.gcd (kn c).2 (den (kn c).2 (sizeC cs c))) (den (kn c).2 (sizeC cs c) / Nat.gcd (kn c).2 (den (kn c).2 (sizeC cs c)))) k1 k2 k3 (w.heap.size + 1) (w.heap.size + 2) hok
  ((hx.keep fun p hp => hB0.cell (p := p) hp).more fun b hb => Nat.lt_of_lt_of_le hb hB0.size) (hh.later hB0) hfv2 (hs W0) (ho.below hB0) hkb (fun c W hc hW => hkn c W hc (hB0.trans (hW.mono hB0.size)))
  (fun c W a b m n hc h0 hW hn hd => fol_top1 k _ _ ((hh.later hB0).later hW) ((ho.below hB0).below hW) ((hx1.below hW hx1.lt).cell 0 rfl) ((hx2.below hW hx2.lt).cell 0 rfl) hk _ _ a b m n _ _ hn hd (sml_ofB ((hs W0).sco.pos _ _ h0 (hkb c hc).2.2.1 (hkb c hc).2.2.2) (by have := (hkb c hc).2.2.1; omega) ((hs W0).small _ _ h0 (hkb c hc).2.2.1 (hkb c hc).2.2.2 (size_le hok c)))))
 have HT : Hid (folTopB cs den kn k ds = (decide (ds.length ≤ k) && followB cs den kn (fun c => othK k ds (cs.getD c Cv.z).1.1 ((cs.getD c Cv.z).1.2 : Int) ((kn c).2 / Nat.gcd (kn c).2 (den (kn c).2 (sizeC cs c))) (den (kn c).2 (sizeC cs c) / Nat.gcd (kn c).2 (den (kn c).2 (sizeC cs c)))) ds)) := hid rfl
 generalize followB cs den kn (fun c => othK k ds (cs.getD c Cv.z).1.1 ((cs.getD c Cv.z).1.2 : Int) ((kn c).2 / Nat.gcd (kn c).2 (den (kn c).2 (sizeC cs c))) (den (kn c).2 (sizeC cs c) / Nat.gcd (kn c).2 (den (kn c).2 (sizeC cs c)))) ds = R at *
 generalize folTopB cs den kn k ds = T at *
 have HB0 := hid hB0
 have x0 := hx0.cell 0 rfl
 have x1 := hx0.cell 1 rfl
 have x2 := hx0.cell 2 rfl
 have y0 := hx1.cell 0 rfl
 have z0 := hx2.cell 0 rfl
 clear hok hx hh hs ho hkb hkn hB0 hx0 hx1 hx2 hfv2
 generalize (indexOf cs).ents.length = n1 at *
 generalize (indexOf cs).vals.length = n2 at *
 generalize (indexOf cs).lists.length = n3 at *
 generalize ds.length = NH at *
 go_enter Tryz.func79, Tryz.ntmps79
 go_upto_region 1 with fail
 rw [← hW0]
 clear hW0
 by_cases hn : NH ≤ k
 ·have hni : (NH : Int) ≤ (k : Int) := by omega
  have HR : Hid (T = R) := hid (by rw [HT.out, decide_eq_true hn, Bool.true_and])
  clear hn
  go_wp2_with fail
  with_reducible refine HFO.out.mono ?_
  rintro e w3 ⟨rfl, hb3⟩
  have HB3 := hid (HB0.out.trans (hb3.mono HB0.out.size))
  clear hb3
  go_wp2
  go_ret
  exact ⟨by rw [HR.out]; rfl, HB3.out⟩
 ·have hni : ¬ (NH : Int) ≤ (k : Int) := by omega
  have HR : Hid (T = false) := hid (by rw [HT.out, decide_eq_false hn, Bool.false_and])
  clear hn
  go_wp2
  go_ret
  exact ⟨by rw [HR.out]; rfl, HB0.out⟩
end Go.Proofs.YtikiimlmoalbcaaGreatDoor

namespace Go.Proofs.YtikiimlmoalbcaaGreatDoor
open Go.RowKit
set_option maxRecDepth 100000 in
set_option maxHeartbeats 4000000 in
theorem chk_known {w : World} {cs : List Cv} {q : List ByteArray} {ev vv lv qv zlv zcv : Value} {L K : List Nat} {k1 k2 k3 : Nat} (hin : SrcIn w cs q ev vv lv qv) (hct : CertR w cs zlv zcv L K)
  (h1 : BoxN w k1 30 #[ev, vv, lv]) (h2 : BoxN w k2 27 #[qv]) (h3 : BoxN w k3 36 #[zlv, zcv]) (c : Nat) (hc : c < cs.length) :
  Calls Tryz.prog 80 #[.int .i64 (c : Int), .pointer (some ⟨k1, 0, none⟩), .pointer (some ⟨k2, 0, none⟩), .pointer (some ⟨k3, 0, none⟩)] w (Ret w (.tuple #[.int .i64 ((bndB cs q L K c).1 : Int), .int .i64 ((bndB cs q L K c).2 : Int)])) := by
 have HBO := hid (over_Bounds hin hct c hc)
 obtain ⟨ea, ec, rfl, -⟩ := id hin.rd.ents
 obtain ⟨va, vc, rfl, -⟩ := id hin.rd.vals
 obtain ⟨lf, ⟨la, lc, rfl, -⟩, -⟩ := id hin.rd.lists
 obtain ⟨qa, qc, rfl, -⟩ := id hin.qrd
 obtain ⟨za, zc, rfl, -⟩ := id hct.rl
 obtain ⟨ka, kc, rfl, -⟩ := id hct.rk
 have x0 := h1.cell 0 rfl
 have x1 := h1.cell 1 rfl
 have x2 := h1.cell 2 rfl
 have y0 := h2.cell 0 rfl
 have z0 := h3.cell 0 rfl
 have z1 := h3.cell 1 rfl
 clear hin hct h1 h2 h3
 generalize (indexOf cs).ents.length = n1 at *
 generalize (indexOf cs).vals.length = n2 at *
 generalize (indexOf cs).lists.length = n3 at *
 generalize q.length = n4 at *
 generalize L.length = n5 at *
 generalize K.length = n6 at *
 generalize bndB cs q L K c = R at *
 obtain ⟨lo, hi⟩ := R
 have HBO := hid (show Calls Tryz.prog 24 #[.agg #[.slice ea n1 ec, .slice va n2 vc, .slice la n3 lc], .slice qa n4 qc, .agg #[.slice za n5 zc, .slice ka n6 kc], .int .i64 (c : Int)] w (Ret w (.tuple #[.int .i64 (lo : Int), .int .i64 (hi : Int)])) from HBO.out)
 go_enter Tryz.func80, Tryz.ntmps80
 go_wp2_with fail
 with_reducible refine HBO.out.mono ?_
 rintro e w3 ⟨rfl, hb3⟩
 have HB3 := hid hb3
 clear hb3
 go_wp2
 refine bodyPost_ret (v := .tuple #[.int .i64 (lo : Int), .int .i64 (hi : Int)]) (by simp [results, Tryz.results80, go_sem]) rfl ?_
 exact ⟨rfl, HB3.out⟩
theorem count_split (a r f : ByteArray → Bool) (h : ∀ v, f v = true → a v = true) : ∀ q : List ByteArray, List.countP f q ≤ List.countP (fun v => a v && (r v && f v)) q + List.countP (fun v => a v && !r v) q
 | [] => by simp
 | v :: q => by
  have ih := count_split a r f h q
  rw [List.countP_cons, List.countP_cons, List.countP_cons]
  cases e : f v
  ·simp only [Bool.and_false, Bool.false_eq_true, if_false]
   omega
  ·rw [h v e]
   cases r v <;> simp <;> omega
theorem bnd_le {cs : List Cv} {q : List ByteArray} {L K : List Nat} (hq : q.Nodup) (c : Nat) : (bndB cs q L K c).1 ≤ q.length ∧ (bndB cs q L K c).1 ≤ sizeC cs c ∧ (bndB cs q L K c).2 ≤ q.length ∧ (bndB cs q L K c).2 ≤ sizeC cs c ∧ (bndB cs q L K c).1 ≤ comC cs q c ∧ comC cs q c ≤ (bndB cs q L K c).2 := by
 have h1 := com_le_size (cs := cs) hq c
 have h2 := com_le_q (cs := cs) (q := q) c
 have h3 : lowB cs q L c ≤ comC cs q c := by
  unfold lowB comC
  rw [← List.countP_eq_length_filter, ← List.countP_eq_length_filter]
  refine List.countP_mono_left fun v _ h => ?_
  rw [Bool.and_eq_true, Bool.and_eq_true] at h
  exact h.2.2
 have h4 : lowB cs q L c + openB cs q L ≤ q.length := by
  unfold lowB openB
  rw [← List.countP_eq_length_filter, ← List.countP_eq_length_filter]
  have h5 := List.length_eq_countP_add_countP (fun v => hasL (setOfL (allOf cs)) v && (readB cs L v && hasL (cs.getD c Cv.z).2 v)) (l := q)
  have h6 : List.countP (fun v => hasL (setOfL (allOf cs)) v && !readB cs L v) q ≤ List.countP (fun a => decide ¬(hasL (setOfL (allOf cs)) a && (readB cs L a && hasL (cs.getD c Cv.z).2 a)) = true) q := by
   refine List.countP_mono_left fun v _ h => ?_
   rw [Bool.and_eq_true] at h
   have h7 : readB cs L v = false := by simpa using h.2
   simp [h7]
  omega
 have h5 : comC cs q c ≤ lowB cs q L c + openB cs q L := by
  unfold comC lowB openB
  rw [← List.countP_eq_length_filter, ← List.countP_eq_length_filter, ← List.countP_eq_length_filter]
  exact count_split _ _ _ (fun v h => hasL_all h) q
 unfold bndB
 split
 ·exact ⟨h2, h1, h2, h1, Nat.le_refl _, Nat.le_refl _⟩
 ·refine ⟨by omega, by omega, ?_, ?_, h3, ?_⟩ <;> simp only <;> omega
def checkB (cs : List Cv) (q : List ByteArray) (L K : List Nat) (k : Nat) (ds : List Mq) : Bool := folTopB cs den1 (bndB cs q L K) k ds
set_option maxRecDepth 100000 in
set_option maxHeartbeats 8000000 in
theorem over_Check {w : World} {cs : List Cv} {q : List ByteArray} {ev vv lv qv hv zlv zcv : Value} {ds : List Mq} {L K : List Nat} (hin : SrcIn w cs q ev vv lv qv) (hct : CertR w cs zlv zcv L K) (hh : MsRd w hv ds) (k : Nat) (hk : k ≤ 1024) (ho : Fr.OneAt w) :
  Calls Tryz.prog 31 #[.agg #[ev, vv, lv], qv, .int .i64 (k : Int), hv, .agg #[zlv, zcv]] w (Ret w (.bool (checkB cs q L K k ds))) := by
 have hQ : q.length ≤ 1048576 := hin.ql
 have hkl : K.length ≤ 65536 := by
  have h1 := nodup_leB (l := K) (m := List.range cs.length) (hct.ak.imp fun {a b} h => by omega) fun x hx => List.mem_range.2 (hct.mm x hx)
  rw [List.length_range] at h1
  have := hin.ok.many
  omega
 have hnl := hct.nl
 have hni := num_ok hct.al hct.ml
 have hnk := num_ok hct.ak hct.mm
 obtain ⟨ea, ec, rfl, -⟩ := id hin.rd.ents
 obtain ⟨va, vc, rfl, -⟩ := id hin.rd.vals
 obtain ⟨lf, ⟨la, lc, rfl, -⟩, -⟩ := id hin.rd.lists
 obtain ⟨qa, qc, rfl, -⟩ := id hin.qrd
 obtain ⟨za, zc, rfl, -⟩ := id hct.rl
 obtain ⟨ka, kc, rfl, -⟩ := id hct.rk
 obtain ⟨ha, hc0, rfl, -⟩ := id hh.mem
 have hel : (indexOf cs).ents.length = cs.length := ents_len cs
 have hvl : (indexOf cs).vals.length = (setOfL (allOf cs)).length := rfl
 rw [hel] at hin ⊢
 rw [hvl] at hin ⊢
 obtain ⟨W0, hW0⟩ : ∃ W, W = ((w.alloc (.cells #[.slice ea cs.length ec, .slice va (setOfL (allOf cs)).length vc, .slice la (indexOf cs).lists.length lc] 30)).alloc (.cells #[.slice qa q.length qc] 27)).alloc (.cells #[.slice za L.length zc, .slice ka K.length kc] 36) := ⟨_, rfl⟩
 have hB0 : Below w.heap.size w W0 := by
  rw [hW0]
  exact (((Below.refl w.heap.size w).alloc (Nat.le_refl _) _).alloc (by simp) _).alloc (by simp; omega) _
 have hx0 : BoxN W0 w.heap.size 30 #[.slice ea cs.length ec, .slice va (setOfL (allOf cs)).length vc, .slice la (indexOf cs).lists.length lc] := by
  rw [hW0]
  exact ((BoxN.new w _ _).alloc _).alloc _
 have hx1 : BoxN W0 (w.heap.size + 1) 27 #[.slice qa q.length qc] := by
  rw [hW0]
  have h := (BoxN.new (w.alloc (.cells #[.slice ea cs.length ec, .slice va (setOfL (allOf cs)).length vc, .slice la (indexOf cs).lists.length lc] 30)) #[.slice qa q.length qc] 27).alloc (.cells #[.slice za L.length zc, .slice ka K.length kc] 36)
  rw [World.size_alloc] at h
  exact h
 have hx2 : BoxN W0 (w.heap.size + 2) 36 #[.slice za L.length zc, .slice ka K.length kc] := by
  rw [hW0]
  have h := BoxN.new ((w.alloc (.cells #[.slice ea cs.length ec, .slice va (setOfL (allOf cs)).length vc, .slice la (indexOf cs).lists.length lc] 30)).alloc (.cells #[.slice qa q.length qc] 27)) #[.slice za L.length zc, .slice ka K.length kc] 36
  rw [World.size_alloc, World.size_alloc] at h
  exact h
 have HAS := hid (fun W (hW : Below w.heap.size w W) => (by
  have h := over_asked (hin.later hW) k hk
  exact h : Calls Tryz.prog 76 #[.agg #[.slice ea cs.length ec, .slice va (setOfL (allOf cs)).length vc, .slice la (indexOf cs).lists.length lc], .slice qa q.length qc, .int .i64 (k : Int)] W (Ret W (.int .i64 0))))
 have HVA := hid (fun W (hW : Below w.heap.size w W) => by
  have h := over_valid cs _ _ _ ⟨ea, ec, rfl⟩ ⟨va, vc, rfl⟩ ⟨la, (indexOf cs).lists.length, lc, rfl⟩ _ _ _ _ W (hct.later hW).rl.z (hct.later hW).rk.z (by rw [List.length_map]; omega) (by rw [List.length_map]; omega)
  rw [hni, hnk] at h
  exact h)
 have HFT := hid (fun W (hW : Below w.heap.size w W) (hW0 : Below W0.heap.size W0 W) => fol_top_over (w := W) (ds := ds) (den := den1) (Q := q.length) (bndB cs q L K) k w.heap.size (w.heap.size + 1) (w.heap.size + 2) hin.ok (hin.later hW).rd (hh.later hW) ⟨_, _, _, rfl⟩ (fun V => sco_over hQ V) (ho.below hW) (by omega) hQ
  (fun c _ => (by have h := bnd_le (cs := cs) (L := L) (K := K) (asc_nodupB hin.asc) c; exact ⟨h.1, h.2.1, h.2.2.1, h.2.2.2.1⟩))
  (fun c V hc hV => chk_known ((hin.later hW).later hV) ((hct.later hW).later hV) ((hx0.below hW0 hx0.lt).below hV (hx0.below hW0 hx0.lt).lt) ((hx1.below hW0 hx1.lt).below hV (hx1.below hW0 hx1.lt).lt) ((hx2.below hW0 hx2.lt).below hV (hx2.below hW0 hx2.lt).lt) c hc))
 have HR : Hid (folTopB cs den1 (bndB cs q L K) k ds = checkB cs q L K k ds) := hid rfl
 generalize folTopB cs den1 (bndB cs q L K) k ds = R at *
 generalize checkB cs q L K k ds = R2 at *
 have HB0 := hid hB0
 have HX := hid (fun W (hW : Below W0.heap.size W0 W) => (⟨(hx0.below hW hx0.lt).cell 0 rfl, (hx0.below hW hx0.lt).cell 1 rfl, (hx0.below hW hx0.lt).cell 2 rfl, (hx1.below hW hx1.lt).cell 0 rfl, (hx2.below hW hx2.lt).cell 0 rfl, (hx2.below hW hx2.lt).cell 1 rfl⟩ : W.cell? ⟨w.heap.size, 0, none⟩ = some (.slice ea cs.length ec) ∧ W.cell? ⟨w.heap.size, 1, none⟩ = some (.slice va (setOfL (allOf cs)).length vc) ∧ W.cell? ⟨w.heap.size, 2, none⟩ = some (.slice la (indexOf cs).lists.length lc) ∧ W.cell? ⟨w.heap.size + 1, 0, none⟩ = some (.slice qa q.length qc) ∧ W.cell? ⟨w.heap.size + 2, 0, none⟩ = some (.slice za L.length zc) ∧ W.cell? ⟨w.heap.size + 2, 1, none⟩ = some (.slice ka K.length kc)))
 clear hin hct hh hni hnk hel hvl hx0 hx1 hx2 hB0 ho hQ hkl hnl
 generalize cs.length = n1 at *
 generalize (setOfL (allOf cs)).length = n2 at *
 generalize (indexOf cs).lists.length = n3 at *
 generalize q.length = n4 at *
 generalize L.length = n5 at *
 generalize K.length = n6 at *
 generalize ds.length = n7 at *
 go_enter Tryz.func31, Tryz.ntmps31
 go_upto_region 1 with fail
 rw [← hW0]
 clear hW0
 obtain ⟨x0, x1, x2, y0, z0, z1⟩ := HX.out W0 (Below.refl _ _)
 go_wp2_with fail
 with_reducible refine (HAS.out W0 HB0.out).mono ?_
 rintro e w1 ⟨rfl, hb1⟩
 have HC1 := hid hb1
 have HB1 := hid (HB0.out.trans (hb1.mono HB0.out.size))
 clear hb1 x0 x1 x2 y0 z0 z1
 obtain ⟨x0, x1, x2, y0, z0, z1⟩ := HX.out w1 HC1.out
 go_wp2_with fail
 with_reducible refine (HVA.out w1 HB1.out).mono ?_
 rintro e w2 ⟨rfl, hb2⟩
 have HC2 := hid (HC1.out.trans (hb2.mono HC1.out.size))
 have HB2 := hid (HB1.out.trans (hb2.mono HB1.out.size))
 clear hb2 x0 x1 x2 y0 z0 z1
 obtain ⟨x0, x1, x2, y0, z0, z1⟩ := HX.out w2 HC2.out
 go_wp2_with fail
 with_reducible refine (HFT.out w2 HB2.out HC2.out).mono ?_
 rintro e w3 ⟨rfl, hb3⟩
 have HB3 := hid (HB2.out.trans (hb3.mono HB2.out.size))
 clear hb3
 go_wp2
 go_ret
 exact ⟨by rw [← HR.out]; rfl, HB3.out⟩
end Go.Proofs.YtikiimlmoalbcaaGreatDoor

namespace Go.Proofs.YtikiimlmoalbcaaGreatDoor.Fr
open Go.RowKit
end Go.Proofs.YtikiimlmoalbcaaGreatDoor.Fr
