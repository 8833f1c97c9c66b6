/- Contracts of cmp.Compare, cmp.Or at three numbers, lineage.nearer. slices.MinFunc at origins: the first of the least. DERIVED: THE SHELF's CONTRACTS AT THIS DUMP, IN PLAIN WORDS (tools/lay-plain.mjs out of 'YtaajpliifdlokaaGreatDoorShQL.lean', which tools/lay-shelf.mjs wrote): THE SAME DECLARATIONS UNDER THE SAME NAMES: 'import', 'namespace', 'open', 'def', 'theorem' AND NOTHING ELSE: no command of the shelf's: FOR A HAND-IN. Each laying: the table of numbers ('.._ren') and one theorem, a field a fact of the dump's own or the kernel's comparison; each contract: ONE APPLICATION. -/
import Derived.Deep.RegionHeld3
import Derived.Test.YtaajpliifdlokaaGreatDoorLnNrah
import Derived.Shelf.SlSortCmp.WholeK
import Derived.Ground.SlsfProg
import Derived.Test.YtaajpliifdlokaaGreatDoorProg
set_option linter.unusedVariables false
set_option linter.unusedSimpArgs false
namespace Go.Proofs.YtaajpliifdlokaaGreatDoor
open Go.RowKit
set_option maxHeartbeats 400000 in
theorem lib_isNaN0 (x : Int) (w : World) : Calls Tryz.prog 106 #[.int .i64 x] w fun e w' => e = .returned (.bool false) ∧ w = w' := by
  go_enter Tryz.func106, Tryz.ntmps106
  go_wp2
  go_ret
  exact ⟨by simp, rfl⟩
set_option maxHeartbeats 1000000 in
theorem lib_CmpI (x y : Int) (w : World) : Calls Tryz.prog 65 #[.int .i64 x, .int .i64 y] w fun e w' => e = .returned (.int .i64 (cmpI x y)) ∧ w = w' := by
  have HC : Hid (cmpI x y = if x < y then -1 else if x = y then 0 else 1) := hid rfl
  generalize cmpI x y = c at *
  go_enter Tryz.func65, Tryz.ntmps65
  go_wp2_with fail
  with_reducible refine (lib_isNaN0 _ _).mono ?_
  rintro e w1 ⟨rfl, rfl⟩
  go_wp2_with fail
  with_reducible refine (lib_isNaN0 _ _).mono ?_
  rintro e w1 ⟨rfl, rfl⟩
  by_cases h1 : x < y
  · go_wp2
    go_ret
    exact ⟨ret_int (by rw [HC.out, if_pos (by omega)]), rfl⟩
  · by_cases h2 : y < x
    · go_wp2
      go_ret
      exact ⟨ret_int (by rw [HC.out, if_neg (by omega), if_neg (by omega)]), rfl⟩
    · go_wp2
      go_ret
      exact ⟨ret_int (by rw [HC.out, if_neg (by omega), if_pos (by omega)]), rfl⟩
theorem cmpI_nat (a b : Nat) : cmpI (a : Int) (b : Int) = cmpN a b := by
  unfold cmpI cmpN
  repeat' split
  all_goals omega
def or3 (x y z : Int) : Int := if x ≠ 0 then x else if y ≠ 0 then y else z
set_option maxHeartbeats 1000000 in
theorem lib_Or3 (x y z : Int) (b c : Nat) (w : World) (h0 : w.cell? ⟨b, 0, none⟩ = some (.int .i64 x)) (h1 : w.cell? ⟨b, 1, none⟩ = some (.int .i64 y)) (h2 : w.cell? ⟨b, 2, none⟩ = some (.int .i64 z)) :
    Calls Tryz.prog 46 #[.slice (some ⟨b, 0, none⟩) 3 c] w fun e w' => e = .returned (.int .i64 (or3 x y z)) ∧ w = w' := by
  have HC : Hid (or3 x y z = if x ≠ 0 then x else if y ≠ 0 then y else z) := hid rfl
  generalize or3 x y z = r at *
  go_enter Tryz.func46, Tryz.ntmps46
  by_cases hx : x = 0
  · subst hx
    by_cases hy : y = 0
    · subst hy
      by_cases hz : z = 0
      · subst hz
        go_wp2
        refine wp_loop_rounds 4 ?_
        rw [rounds_succ]
        go_wp2
        rw [rounds_succ]
        go_wp2
        rw [rounds_succ]
        go_wp2
        rw [rounds_succ]
        go_wp2
        go_ret
        exact ⟨ret_int (by rw [HC.out]; simp), rfl⟩
      · have hz1 : (z != 0) = true := by simpa using hz
        go_wp2
        refine wp_loop_rounds 4 ?_
        rw [rounds_succ]
        go_wp2
        rw [rounds_succ]
        go_wp2
        rw [rounds_succ]
        go_wp2
        go_ret
        exact ⟨ret_int (by rw [HC.out]; simp), rfl⟩
    · have hy1 : (y != 0) = true := by simpa using hy
      go_wp2
      refine wp_loop_rounds 4 ?_
      rw [rounds_succ]
      go_wp2
      rw [rounds_succ]
      go_wp2
      go_ret
      exact ⟨ret_int (by rw [HC.out]; simp [hy]), rfl⟩
  · have hx1 : (x != 0) = true := by simpa using hx
    go_wp2
    refine wp_loop_rounds 4 ?_
    rw [rounds_succ]
    go_wp2
    go_ret
    exact ⟨ret_int (by rw [HC.out]; simp [hx]), rfl⟩
theorem near_or (x y : Ta × List Po) : nearO x y = or3 (cmpI (x.2.length : Int) (y.2.length : Int)) (cmpI (cellsT x.1 : Int) (cellsT y.1 : Int)) (cmpI y.1.id x.1.id) := by
  unfold nearO or3
  rw [cmpI_nat, cmpI_nat]
set_option maxRecDepth 100000 in
set_option maxHeartbeats 4000000 in
theorem lin_nearer (x y : Ta × List Po) (u v : Value) (oa ob : Option Addr) (ca cb : Nat) (B : Nat) (w : World) (hu : RdCo w (· < B) u x.1.cols) (hv : RdCo w (· < B) v y.1.cols) (hB : B ≤ w.heap.size) (ha : Cnt x.1.cols) (hb : Cnt y.1.cols)
  (hla : x.2.length ≤ 1048576) (hlb : y.2.length ≤ 1048576) :
  Calls Tryz.prog 62 #[.agg #[.int .i64 x.1.id, .string x.1.name, u, .slice oa x.2.length ca], .agg #[.int .i64 y.1.id, .string y.1.name, v, .slice ob y.2.length cb]] w (Ret w (.int .i64 (nearO x y))) := by
 rw [near_or]
 have HA := hid (fun W (hW : Below w.heap.size w W) => lin_cells x.1 u B W (hu.keep fun p (hp : p.block < B) => hW.cell (p := p) (by omega)) (Nat.le_trans hB hW.size) ha)
 have HB := hid (fun W (hW : Below w.heap.size w W) => lin_cells y.1 v B W (hv.keep fun p (hp : p.block < B) => hW.cell (p := p) (by omega)) (Nat.le_trans hB hW.size) hb)
 obtain ⟨ua, uc, rfl⟩ : ∃ z c, u = .slice z x.1.cols.length c := by
  obtain ⟨cv, ⟨a, c, e, -⟩, -⟩ := hu
  exact ⟨a, c, e⟩
 obtain ⟨va, vc, rfl⟩ : ∃ z c, v = .slice z y.1.cols.length c := by
  obtain ⟨cv, ⟨a, c, e, -⟩, -⟩ := hv
  exact ⟨a, c, e⟩
 clear hu hv ha hb
 generalize cellsT x.1 = X at *
 generalize cellsT y.1 = Y at *
 generalize x.2.length = m at *
 generalize y.2.length = k at *
 obtain ⟨⟨ia, na, xa⟩, xo⟩ := x
 obtain ⟨⟨ib, nb, xb⟩, yo⟩ := y
 simp only at *
 generalize xa.length = la at *
 generalize xb.length = lb at *
 have hbx := (BoxN.new w #[.int .i64 ia, .string na, .slice ua la uc, .slice oa m ca] 111).alloc (.cells #[.int .i64 ib, .string nb, .slice va lb vc, .slice ob k cb] 111)
 have hby := BoxN.new (w.alloc (.cells #[.int .i64 ia, .string na, .slice ua la uc, .slice oa m ca] 111)) #[.int .i64 ib, .string nb, .slice va lb vc, .slice ob k cb] 111
 rw [World.size_alloc] at hby
 have HB0 := hid (((Below.refl w.heap.size w).alloc (Nat.le_refl _) (.cells #[.int .i64 ia, .string na, .slice ua la uc, .slice oa m ca] 111)).alloc (by simp) (.cells #[.int .i64 ib, .string nb, .slice va lb vc, .slice ob k cb] 111))
 go_enter Tryz.func62, Tryz.ntmps62
 go_upto_region 1 with fail
 generalize (w.alloc (.cells #[.int .i64 ia, .string na, .slice ua la uc, .slice oa m ca] 111)).alloc (.cells #[.int .i64 ib, .string nb, .slice va lb vc, .slice ob k cb] 111) = W0 at *
 have hw0 := HB0.out.size
 have HX := hid hbx
 have HY := hid hby
 clear hbx hby
 have HQ1 := hid (fun W (hW : Below W0.heap.size W0 W) => HA.out W (HB0.out.trans (hW.mono hw0)))
 have HQ2 := hid (fun W (hW : Below W0.heap.size W0 W) => HB.out W (HB0.out.trans (hW.mono hw0)))
 have HC1 := hid (Below.refl W0.heap.size W0)
 have HG := hid (fun W (hW : Below W0.heap.size W0 W) => (⟨(HX.out.below hW HX.out.lt).cell 0 rfl, (HX.out.below hW HX.out.lt).cell 1 rfl, (HX.out.below hW HX.out.lt).cell 2 rfl, (HX.out.below hW HX.out.lt).cell 3 rfl, (HY.out.below hW HY.out.lt).cell 0 rfl, (HY.out.below hW HY.out.lt).cell 1 rfl, (HY.out.below hW HY.out.lt).cell 2 rfl, (HY.out.below hW HY.out.lt).cell 3 rfl⟩ : W.cell? ⟨w.heap.size, 0, none⟩ = some (.int .i64 ia) ∧ W.cell? ⟨w.heap.size, 1, none⟩ = some (.string na) ∧ W.cell? ⟨w.heap.size, 2, none⟩ = some (.slice ua la uc) ∧ W.cell? ⟨w.heap.size, 3, none⟩ = some (.slice oa m ca) ∧ W.cell? ⟨w.heap.size + 1, 0, none⟩ = some (.int .i64 ib) ∧ W.cell? ⟨w.heap.size + 1, 1, none⟩ = some (.string nb) ∧ W.cell? ⟨w.heap.size + 1, 2, none⟩ = some (.slice va lb vc) ∧ W.cell? ⟨w.heap.size + 1, 3, none⟩ = some (.slice ob k cb)))
 go_region_held3 (fun W => W.cell? ⟨w.heap.size, 0, none⟩ = some (.int .i64 ia) ∧ W.cell? ⟨w.heap.size, 1, none⟩ = some (.string na) ∧ W.cell? ⟨w.heap.size, 2, none⟩ = some (.slice ua la uc) ∧ W.cell? ⟨w.heap.size, 3, none⟩ = some (.slice oa m ca) ∧ W.cell? ⟨w.heap.size + 1, 0, none⟩ = some (.int .i64 ib) ∧ W.cell? ⟨w.heap.size + 1, 1, none⟩ = some (.string nb) ∧ W.cell? ⟨w.heap.size + 1, 2, none⟩ = some (.slice va lb vc) ∧ W.cell? ⟨w.heap.size + 1, 3, none⟩ = some (.slice ob k cb))
  (first | exact HG.out _ ((Below.refl _ _).drew) | exact HG.out _ HC5.out | exact HG.out _ HC6.out | exact HG.out _ (HC6.out.alloc HC6.out.size _) | go_keep)
  (first
   | (go_at_call 65; go_must ((with_reducible refine (lib_CmpI _ _ _).mono ?_); rintro e wq ⟨rfl, rfl⟩))
   | (go_at_call 101; go_must (first
     | ((with_reducible refine (HQ1.out _ (by have h1 := HC1.out; have h2 := HC1.out.size; repeat' (first | (with_reducible exact Below.refl _ _) | (with_reducible assumption) | (with_reducible refine below_drewN ?_) | (with_reducible refine Below.alloc ?_ ?_ _) | (with_reducible refine Below.drew ?_) | (with_reducible refine Below.setCell ?_ ?_ _) | (with_reducible refine Below.trans ?_ (Below.mono (by with_reducible assumption) ?_)) | go_size))).mono ?_); rintro e w5 ⟨rfl, hb5⟩; have HC5 : Hid (Below W0.heap.size W0 w5) := hid (by have h1 := HC1.out; have h2 := HC1.out.size; repeat' (first | (with_reducible exact Below.refl _ _) | (with_reducible assumption) | (with_reducible refine below_drewN ?_) | (with_reducible refine Below.alloc ?_ ?_ _) | (with_reducible refine Below.drew ?_) | (with_reducible refine Below.setCell ?_ ?_ _) | (with_reducible refine Below.trans ?_ (Below.mono (by with_reducible assumption) ?_)) | go_size)); clear hb5)
     | ((with_reducible refine (HQ2.out _ (by have h1 := HC5.out; have h2 := HC5.out.size; repeat' (first | (with_reducible exact Below.refl _ _) | (with_reducible assumption) | (with_reducible refine below_drewN ?_) | (with_reducible refine Below.alloc ?_ ?_ _) | (with_reducible refine Below.drew ?_) | (with_reducible refine Below.setCell ?_ ?_ _) | (with_reducible refine Below.trans ?_ (Below.mono (by with_reducible assumption) ?_)) | go_size))).mono ?_); rintro e w6 ⟨rfl, hb6⟩; have HC6 : Hid (Below W0.heap.size W0 w6) := hid (by have h1 := HC5.out; have h2 := HC5.out.size; repeat' (first | (with_reducible exact Below.refl _ _) | (with_reducible assumption) | (with_reducible refine below_drewN ?_) | (with_reducible refine Below.alloc ?_ ?_ _) | (with_reducible refine Below.drew ?_) | (with_reducible refine Below.setCell ?_ ?_ _) | (with_reducible refine Below.trans ?_ (Below.mono (by with_reducible assumption) ?_)) | go_size)); clear hb6)))
   | (go_at_call 46; go_must ((with_reducible refine (lib_Or3 _ _ _ _ _ _ ((BoxN.new _ _ _).cell 0 rfl) ((BoxN.new _ _ _).cell 1 rfl) ((BoxN.new _ _ _).cell 2 rfl)).mono ?_); rintro e w7 ⟨rfl, rfl⟩)))
 all_goals
  go_wp2
  go_ret
  exact ⟨rfl, HB0.out.trans ((HC6.out.alloc HC6.out.size _).mono hw0)⟩
end Go.Proofs.YtaajpliifdlokaaGreatDoor

namespace Go.Proofs.YtaajpliifdlokaaGreatDoor
open Go.RowKit
def mTo (os : List (Ta × List Po)) (q : Nat) : Ta × List Po := minO (os.getD 0 Or.z) ((os.drop 1).take q)
theorem mTo_zero (os : List (Ta × List Po)) : mTo os 0 = os.getD 0 Or.z := by simp [mTo, minO]
theorem mTo_succ {os : List (Ta × List Po)} {q : Nat} (h : q + 1 < os.length) : mTo os (q + 1) = if nearO (os.getD (q + 1) Or.z) (mTo os q) < 0 then os.getD (q + 1) Or.z else mTo os q := by
  have e : (os.drop 1).take (q + 1) = (os.drop 1).take q ++ [os.getD (q + 1) Or.z] := by
    have hl : q < (os.drop 1).length := by rw [List.length_drop]; omega
    rw [List.take_succ_eq_append_getElem hl, List.getElem_drop]
    have : os.getD (q + 1) Or.z = os[1 + q]'(by omega) := by simp [List.getD, h, Nat.add_comm]
    rw [this]
  unfold mTo minO
  rw [e, List.foldl_append]
  rfl
theorem mTo_all (x : Ta × List Po) (r : List (Ta × List Po)) : mTo (x :: r) r.length = minO x r := by simp [mTo]
def orV (x : Ta × List Po) (c u : Value) : Value := .agg #[.int .i64 x.1.id, .string x.1.name, c, u]
def MinP (w : World) (os : List (Ta × List Po)) (cv uv : Nat → Value) (e : Ending) (w' : World) : Prop :=
  ∃ k, k < os.length ∧ os.getD k Or.z = mTo os (os.length - 1) ∧ e = .returned (orV (os.getD k Or.z) (cv k) (uv k)) ∧ Below w.heap.size w w'
set_option maxRecDepth 100000 in
set_option maxHeartbeats 4000000 in
theorem lib_MinFunc (os : List (Ta × List Po)) (cv uv : Nat → Value) (v : Value) (B : Nat) (w : World) (hrow : InK 4 w (· < B) v os.length (orF os cv uv)) (hp : 0 < os.length) (hlm : os.length ≤ 1048576)
  (hcols : ∀ i, i < os.length → RdCo w (· < B) (cv i) (os.getD i Or.z).1.cols) (hops : ∀ i, i < os.length → ∃ a c, uv i = .slice a (os.getD i Or.z).2.length c)
  (hcnt : ∀ i, i < os.length → Cnt (os.getD i Or.z).1.cols) (hlen : ∀ i, i < os.length → (os.getD i Or.z).2.length ≤ 1048576) (hB : B ≤ w.heap.size) :
  Calls Tryz.prog 61 #[v, .func (.func 62) #[] #[]] w (MinP w os cv uv) := by
 obtain ⟨a, c, rfl, hnc, hcm, hr⟩ := hrow
 obtain ⟨b, o, rfl, hb, hcell⟩ := hr hp
 have hbw : b < w.heap.size := by have : b < B := hb; omega
 have HCELL := hid hcell
 have HN := hid (fun i (hi : i < os.length) k (hk : k < os.length) W (hW : Below w.heap.size w W) => (by
  obtain ⟨a1, c1, e1⟩ := hops i hi
  obtain ⟨a2, c2, e2⟩ := hops k hk
  have h := lin_nearer (os.getD i Or.z) (os.getD k Or.z) (cv i) (cv k) a1 a2 c1 c2 B W ((hcols i hi).keep fun p (hp : p.block < B) => hW.cell (p := p) (by omega)) ((hcols k hk).keep fun p (hp : p.block < B) => hW.cell (p := p) (by omega)) (Nat.le_trans hB hW.size) (hcnt i hi) (hcnt k hk) (hlen i hi) (hlen k hk)
  rw [e1, e2]
  exact h :
  Calls Tryz.prog 62 #[.agg #[.int .i64 (os.getD i Or.z).1.id, .string (os.getD i Or.z).1.name, cv i, uv i], .agg #[.int .i64 (os.getD k Or.z).1.id, .string (os.getD k Or.z).1.name, cv k, uv k]] W (Ret W (.int .i64 (nearO (os.getD i Or.z) (os.getD k Or.z))))))
 have HSL := hid (fun i (hi : i < os.length) => (by
  obtain ⟨_, ⟨a1, c1, e1, -⟩, -⟩ := hcols i hi
  obtain ⟨a2, c2, e2⟩ := hops i hi
  exact ⟨_, _, _, _, _, _, e1, e2⟩ : ∃ a1 n1 c1 a2 n2 c2, cv i = .slice a1 n1 c1 ∧ uv i = .slice a2 n2 c2))
 have HMS := hid (fun q (h : q + 1 < os.length) => mTo_succ h)
 have HM0 := hid (mTo_zero os)
 unfold MinP
 clear hr hcols hops hcnt hlen hcell
 generalize hL : os.length = L at *
 have HL := hid hL
 clear hL
 obtain ⟨a1, n1, c1, a2, n2, c2, e1, e2⟩ := HSL.out 0 hp
 have k0 := HCELL.out 0 hp 0 (by omega)
 have k1 := HCELL.out 0 hp 1 (by omega)
 have k2 := HCELL.out 0 hp 2 (by omega)
 have k3 := HCELL.out 0 hp 3 (by omega)
 simp only [orF, orC, Nat.zero_mul, Nat.add_zero] at k0 k1 k2 k3
 rw [e1] at k2
 rw [e2] at k3
 have HX0 : Hid (BoxN ((w.alloc (.cells #[.int .i64 0, .string ⟨#[]⟩, .slice none 0 0, .slice none 0 0] 111)).alloc (.cells #[.int .i64 (os.getD 0 Or.z).1.id, .string (os.getD 0 Or.z).1.name, .slice a1 n1 c1, .slice a2 n2 c2] 111)) (w.heap.size + 1) 111 #[.int .i64 (os.getD 0 Or.z).1.id, .string (os.getD 0 Or.z).1.name, cv 0, uv 0]) := hid (by
  have h := BoxN.new (w.alloc (.cells #[.int .i64 0, .string ⟨#[]⟩, .slice none 0 0, .slice none 0 0] 111)) #[.int .i64 (os.getD 0 Or.z).1.id, .string (os.getD 0 Or.z).1.name, .slice a1 n1 c1, .slice a2 n2 c2] 111
  rw [World.size_alloc] at h
  rw [e1, e2]
  exact h)
 generalize hid0 : (os.getD 0 Or.z).1.id = id0 at *
 generalize hnm0 : (os.getD 0 Or.z).1.name = nm0 at *
 have HI0 := hid hid0
 have HN0 := hid hnm0
 clear hid0 hnm0 e1 e2
 have l0 := (World.cell?_alloc_lt w (.cells #[.int .i64 0, .string ⟨#[]⟩, .slice none 0 0, .slice none 0 0] 111) ⟨b, o, none⟩ hbw).trans k0
 have l1 := (World.cell?_alloc_lt w (.cells #[.int .i64 0, .string ⟨#[]⟩, .slice none 0 0, .slice none 0 0] 111) ⟨b, o + 1, none⟩ hbw).trans k1
 have l2 := (World.cell?_alloc_lt w (.cells #[.int .i64 0, .string ⟨#[]⟩, .slice none 0 0, .slice none 0 0] 111) ⟨b, o + 2, none⟩ hbw).trans k2
 have l3 := (World.cell?_alloc_lt w (.cells #[.int .i64 0, .string ⟨#[]⟩, .slice none 0 0, .slice none 0 0] 111) ⟨b, o + 3, none⟩ hbw).trans k3
 have HR0 := hid ((BoxN.new w #[.int .i64 0, .string ⟨#[]⟩, .slice none 0 0, .slice none 0 0] 111).alloc (.cells #[.int .i64 id0, .string nm0, .slice a1 n1 c1, .slice a2 n2 c2] 111))
 have HB0 := hid (((Below.refl w.heap.size w).alloc (Nat.le_refl _) (.cells #[.int .i64 0, .string ⟨#[]⟩, .slice none 0 0, .slice none 0 0] 111)).alloc (by simp) (.cells #[.int .i64 id0, .string nm0, .slice a1 n1 c1, .slice a2 n2 c2] 111))
 have hL1 : ¬ (L : Int) < 1 := by omega
 have hpi : (0 : Int) < (L : Int) := by omega
 go_enter Tryz.func61, Tryz.ntmps61
 generalize hLA : Code.loop _ = LA
 go_wp2_with fail
 subst hLA
 generalize (w.alloc (.cells #[.int .i64 0, .string ⟨#[]⟩, .slice none 0 0, .slice none 0 0] 111)).alloc (.cells #[.int .i64 id0, .string nm0, .slice a1 n1 c1, .slice a2 n2 c2] 111) = W0 at *
 clear k0 k1 k2 k3 l0 l1 l2 l3
 go_loopg [6] (L - 1) (fun N i wr => ∃ (q k : Nat), i = .int .i64 ((q + 1 : Nat) : Int) ∧ q + 1 + N = L ∧ k < L ∧ Hid (os.getD k Or.z = mTo os q) ∧ Hid (Below w.heap.size w wr) ∧ Hid (BoxN wr w.heap.size 111 #[.int .i64 0, .string ⟨#[]⟩, .slice none 0 0, .slice none 0 0]) ∧
  Hid (BoxN wr (w.heap.size + 1) 111 #[.int .i64 (os.getD k Or.z).1.id, .string (os.getD k Or.z).1.name, cv k, uv k]))
 case atStart => exact ⟨0, 0, rfl, by omega, hp, hid HM0.out.symm, HB0, HR0, hid (by rw [HI0.out, HN0.out]; exact HX0.out)⟩
 case round =>
  obtain ⟨q, k, rfl, hq, hk, HMK, HB, HRB, HXB⟩ := hrel
  by_cases hp2 : 0 < gk
  ·have hqL : q + 1 < L := by omega
   obtain ⟨a1, n1, c1, a2, n2, c2, f1, f2⟩ := HSL.out k hk
   obtain ⟨a3, n3, c3, a4, n4, c4, f3, f4⟩ := HSL.out (q + 1) hqL
   have hxb := HXB.out
   have HNC := hid (HN.out (q + 1) hqL k hk)
   have k0 := HCELL.out (q + 1) hqL 0 (by omega)
   have k1 := HCELL.out (q + 1) hqL 1 (by omega)
   have k2 := HCELL.out (q + 1) hqL 2 (by omega)
   have k3 := HCELL.out (q + 1) hqL 3 (by omega)
   simp only [orF, orC, Nat.add_zero] at k0 k1 k2 k3
   have HMq := hid (HMS.out q hqL)
   rw [← HMK.out] at HMq
   rw [f1, f2] at hxb
   rw [f1, f2, f3, f4] at HNC
   rw [f3] at k2
   rw [f4] at k3
   have HF1 := hid f1
   have HF2 := hid f2
   have HF3 := hid f3
   have HF4 := hid f4
   have HXB2 := hid hxb
   have hwz := HB.out.size
   clear f1 f2 f3 f4 hxb HXB
   have HE1 : Hid ((os.getD (q + 1) Or.z).1.id = (os.getD (q + 1) Or.z).1.id) := hid rfl
   generalize hP1 : (os.getD (q + 1) Or.z).1.id = i1 at *
   generalize hP2 : (os.getD (q + 1) Or.z).1.name = m1 at *
   generalize hP3 : (os.getD k Or.z).1.id = i2 at *
   generalize hP4 : (os.getD k Or.z).1.name = m2 at *
   generalize hP5 : nearO (os.getD (q + 1) Or.z) (os.getD k Or.z) = D at *
   have HP := hid (And.intro hP1 (And.intro hP2 (And.intro hP3 hP4)))
   clear hP1 hP2 hP3 hP4 hP5 HE1
   have f0 := fun p : LaterOf wr => p.cell ((HB.out.cell (p := ⟨b, o + (q + 1) * 4, none⟩) hbw).trans k0)
   have f1 := fun p : LaterOf wr => p.cell ((HB.out.cell (p := ⟨b, o + (q + 1) * 4 + 1, none⟩) hbw).trans k1)
   have f2 := fun p : LaterOf wr => p.cell ((HB.out.cell (p := ⟨b, o + (q + 1) * 4 + 2, none⟩) hbw).trans k2)
   have f3 := fun p : LaterOf wr => p.cell ((HB.out.cell (p := ⟨b, o + (q + 1) * 4 + 3, none⟩) hbw).trans k3)
   have g0 := fun p : LaterOf wr => p.cell (HXB2.out.cell 0 rfl)
   have g1 := fun p : LaterOf wr => p.cell (HXB2.out.cell 1 rfl)
   have g2 := fun p : LaterOf wr => p.cell (HXB2.out.cell 2 rfl)
   have g3 := fun p : LaterOf wr => p.cell (HXB2.out.cell 3 rfl)
   have HC1 := hid (fun p : LaterOf wr => later_call p (HNC.out p.W (HB.out.trans (p.hb.mono hwz))))
   have hqi : ((q + 1 : Nat) : Int) < (L : Int) := by omega
   go_upto_region 7 with fail
   refine wp_region_later (by kernel_rfl) (by kernel_rfl) ?_
   repeat (first | go_big_quiet_step ((go_at_call 62; with_reducible exact HC1.out _)) | quiet_step ((go_at_call 62; with_reducible exact HC1.out _)))
   refine wpQuiet_nil ?_
   intro _ hw'
   obtain ⟨p5, hw''⟩ := hw'
   subst hw''
   have hb5 := p5.hb
   generalize p5.W = w5 at *
   have HB5 := hid (HB.out.trans (hb5.mono hwz))
   have HRB5 := hid (HRB.out.below hb5 HRB.out.lt)
   have hxb5 := HXB2.out.below hb5 HXB2.out.lt
   have h0 := (HB5.out.cell (p := ⟨b, o + (q + 1) * 4, none⟩) hbw).trans k0
   have h1 := (HB5.out.cell (p := ⟨b, o + (q + 1) * 4 + 1, none⟩) hbw).trans k1
   have h2 := (HB5.out.cell (p := ⟨b, o + (q + 1) * 4 + 2, none⟩) hbw).trans k2
   have h3 := (HB5.out.cell (p := ⟨b, o + (q + 1) * 4 + 3, none⟩) hbw).trans k3
   clear f0 f1 f2 f3 g0 g1 g2 g3 HC1 hb5 p5 k0 k1 k2 k3
   by_cases hD : D < 0
   ·have hDd : decide (D < 0) = true := decide_eq_true hD
    have hne : w.heap.size + 1 ≠ w.heap.size := by omega
    have y0 := hxb5.cell 0 rfl
    have y1 := hxb5.cell 1 rfl
    have y2 := hxb5.cell 2 rfl
    have y3 := hxb5.cell 3 rfl
    have z0 := hxb5.frozen 0
    have z1 := hxb5.frozen 1
    have z2 := hxb5.frozen 2
    have z3 := hxb5.frozen 3
    have HXN := hid ((((hxb5.set 0 (.int .i64 i1)).set 1 (.string m1)).set 2 (.slice a3 n3 c3)).set 3 (.slice a4 n4 c4))
    have HRN := hid ((((HRB5.out.other (p := ⟨w.heap.size + 1, 0, none⟩) hne (.int .i64 i1)).other (p := ⟨w.heap.size + 1, 1, none⟩) hne (.string m1)).other (p := ⟨w.heap.size + 1, 2, none⟩) hne (.slice a3 n3 c3)).other (p := ⟨w.heap.size + 1, 3, none⟩) hne (.slice a4 n4 c4))
    have hge : w.heap.size ≤ w.heap.size + 1 := by omega
    have HBN := hid ((((HB5.out.setCell (p := ⟨w.heap.size + 1, 0, none⟩) hge (.int .i64 i1)).setCell (p := ⟨w.heap.size + 1, 1, none⟩) hge (.string m1)).setCell (p := ⟨w.heap.size + 1, 2, none⟩) hge (.slice a3 n3 c3)).setCell (p := ⟨w.heap.size + 1, 3, none⟩) hge (.slice a4 n4 c4))
    clear hxb5
    go_wp2
    go_roundg (gk - 1)
    case rel => exact ⟨q + 1, q + 1, by go_num, by omega, hqL, hid (by rw [HMq.out, if_pos hD]), HBN, HRN, hid (by rw [HP.out.1, HP.out.2.1, HF3.out, HF4.out]; exact HXN.out)⟩
    case measure => omega
   ·have hDd : decide (D < 0) = false := decide_eq_false hD
    have HX5 := hid hxb5
    clear hxb5
    go_wp2
    go_roundg (gk - 1)
    case rel => exact ⟨q + 1, k, by go_num, by omega, hk, hid (by rw [HMq.out, if_neg (by omega)]), HB5, HRB5, hid (by rw [HP.out.2.2.1, HP.out.2.2.2, HF1.out, HF2.out]; exact HX5.out)⟩
    case measure => omega
  ·obtain rfl : gk = 0 := by omega
   obtain ⟨a1, n1, c1, a2, n2, c2, f1, f2⟩ := HSL.out k hk
   have hxb := HXB.out
   rw [f1, f2] at hxb
   have hq2 : q = L - 1 := by omega
   have HF1 := hid f1
   have HF2 := hid f2
   clear f1 f2
   have hqi : ¬ ((q + 1 : Nat) : Int) < (L : Int) := by omega
   have hqd : decide (((q + 1 : Nat) : Int) < (L : Int)) = false := decide_eq_false hqi
   have HMK2 := hid (hq2 ▸ HMK.out)
   generalize hP3 : (os.getD k Or.z).1.id = i2 at *
   generalize hP4 : (os.getD k Or.z).1.name = m2 at *
   have y0 := hxb.cell 0 rfl
   have y1 := hxb.cell 1 rfl
   have y2 := hxb.cell 2 rfl
   have y3 := hxb.cell 3 rfl
   have c0 := HRB.out.cell 0 rfl
   have c1' := HRB.out.cell 1 rfl
   have c2' := HRB.out.cell 2 rfl
   have c3 := HRB.out.cell 3 rfl
   have z0 := HRB.out.frozen 0
   have z1 := HRB.out.frozen 1
   have z2 := HRB.out.frozen 2
   have z3 := HRB.out.frozen 3
   have HP := hid (And.intro hP3 hP4)
   clear hP3 hP4 hxb hq2
   go_wp2
   refine bodyPost_ret (v := .agg #[.int .i64 i2, .string m2, .slice a1 n1 c1, .slice a2 n2 c2]) (by simp [results, Tryz.results61, go_sem, c0, c1', c2', c3]) rfl ⟨k, hk, HMK2.out, by rw [orV, ← List.getD_eq_getElem?_getD, HP.out.1, HP.out.2, HF1.out, HF2.out], ?_⟩
   have hbe := HB.out
   exact (((hbe.setCell (p := ⟨w.heap.size, 0, none⟩) (Nat.le_refl _) _).setCell (p := ⟨w.heap.size, 1, none⟩) (Nat.le_refl _) _).setCell (p := ⟨w.heap.size, 2, none⟩) (Nat.le_refl _) _).setCell (p := ⟨w.heap.size, 3, none⟩) (Nat.le_refl _) _
end Go.Proofs.YtaajpliifdlokaaGreatDoor

namespace Go.Proofs
open Go.Shelf
def Tryz.sortLink_ren : Go.Shelf.Ren := ⟨fun | 6 => 63 | 15 => 90 | 14 => 105 | 28 => 144 | 29 => 145 | 20 => 173 | 21 => 174 | 22 => 175 | 23 => 176 | 24 => 177 | 25 => 178 | 26 => 179 | 27 => 180 | 46 => 222 | 47 => 200 | 48 => 201 | 49 => 223 | 50 => 224 | 57 => 252 | n => n, fun | 22 => 70 | 24 => 76 | 25 => 115 | 3 => 3 | 39 => 135 | 0 => 0 | 53 => 159 | 55 => 157 | 4 => 4 | 46 => 173 | 45 => 172 | 50 => 66 | 5 => 5 | 9 => 9 | 66 => 215 | 70 => 219 | 76 => 248 | 77 => 249 | n => n, fun | n => n⟩
theorem Tryz.sortLink : Go.Proofs.SlLaysF0.n6 Tryz.prog Tryz.sortLink_ren := {
 mixed := by kernel_rfl
 f6 := ⟨Tryz.f63.name, by decide, Tryz.func63.trans (congrArg some (by kernel_rfl))⟩
 f14 := ⟨Tryz.f105.name, by decide, Tryz.func105.trans (congrArg some (by kernel_rfl))⟩
 f15 := Tryz.func90.trans (congrArg some (by kernel_rfl))
 f20 := ⟨Tryz.f173.name, by decide, Tryz.func173.trans (congrArg some (by kernel_rfl))⟩
 f21 := ⟨Tryz.f174.name, by decide, Tryz.func174.trans (congrArg some (by kernel_rfl))⟩
 f22 := ⟨Tryz.f175.name, by decide, Tryz.func175.trans (congrArg some (by kernel_rfl))⟩
 f23 := ⟨Tryz.f176.name, by decide, Tryz.func176.trans (congrArg some (by kernel_rfl))⟩
 f24 := ⟨Tryz.f177.name, by decide, Tryz.func177.trans (congrArg some (by kernel_rfl))⟩
 f25 := ⟨Tryz.f178.name, by decide, Tryz.func178.trans (congrArg some (by kernel_rfl))⟩
 f26 := ⟨Tryz.f179.name, by decide, Tryz.func179.trans (congrArg some (by kernel_rfl))⟩
 f27 := ⟨Tryz.f180.name, by decide, Tryz.func180.trans (congrArg some (by kernel_rfl))⟩
 f28 := Tryz.func144.trans (congrArg some (by kernel_rfl))
 f29 := Tryz.func145.trans (congrArg some (by kernel_rfl))
 f46 := ⟨Tryz.f222.name, by decide, Tryz.func222.trans (congrArg some (by kernel_rfl))⟩
 f47 := Tryz.func200.trans (congrArg some (by kernel_rfl))
 f48 := Tryz.func201.trans (congrArg some (by kernel_rfl))
 f49 := ⟨Tryz.f223.name, by decide, Tryz.func223.trans (congrArg some (by kernel_rfl))⟩
 f50 := ⟨Tryz.f224.name, by decide, Tryz.func224.trans (congrArg some (by kernel_rfl))⟩
 f57 := ⟨Tryz.f252.name, by decide, Tryz.func252.trans (congrArg some (by kernel_rfl))⟩
 t0 := Tryz.underlying0
 a0 := Tryz.isAgg0
 z0 := Tryz.sizeOf0
 v0 := Tryz.zeroValue0
 t3 := Tryz.underlying3
 a3 := Tryz.isAgg3
 z3 := Tryz.sizeOf3
 v3 := Tryz.zeroValue3
 t4 := Tryz.underlying4
 a4 := Tryz.isAgg4
 z4 := Tryz.sizeOf4
 v4 := Tryz.zeroValue4
 t5 := Tryz.underlying5
 a5 := Tryz.isAgg5
 z5 := Tryz.sizeOf5
 v5 := Tryz.zeroValue5
 t9 := Tryz.underlying9
 a9 := Tryz.isAgg9
 z9 := Tryz.sizeOf9
 v9 := Tryz.zeroValue9
 t22 := Tryz.underlying70
 a22 := Tryz.isAgg70
 z22 := Tryz.sizeOf70
 v22 := Tryz.zeroValue70
 t25 := Tryz.underlying115
 a25 := Tryz.isAgg115
 z25 := Tryz.sizeOf115
 v25 := Tryz.zeroValue115
 t39 := Tryz.underlying135
 a39 := Tryz.isAgg135
 z39 := Tryz.sizeOf135
 v39 := Tryz.zeroValue135
 t45 := Tryz.underlying172
 a45 := Tryz.isAgg172
 z45 := Tryz.sizeOf172
 v45 := Tryz.zeroValue172
 t46 := Tryz.underlying173
 a46 := Tryz.isAgg173
 z46 := Tryz.sizeOf173
 v46 := Tryz.zeroValue173
 t50 := Tryz.underlying66
 a50 := Tryz.isAgg66
 z50 := Tryz.sizeOf66
 v50 := Tryz.zeroValue66
 t53 := Tryz.underlying159
 a53 := Tryz.isAgg159
 z53 := Tryz.sizeOf159
 v53 := Tryz.zeroValue159
 t55 := Tryz.underlying157
 a55 := Tryz.isAgg157
 z55 := Tryz.sizeOf157
 v55 := Tryz.zeroValue157
 t66 := Tryz.underlying215
 a66 := Tryz.isAgg215
 z66 := Tryz.sizeOf215
 v66 := Tryz.zeroValue215
 t70 := Tryz.underlying219
 a70 := Tryz.isAgg219
 z70 := Tryz.sizeOf219
 v70 := Tryz.zeroValue219
 t76 := Tryz.underlying248
 a76 := Tryz.isAgg248
 z76 := Tryz.sizeOf248
 v76 := Tryz.zeroValue248
 t77 := Tryz.underlying249
 a77 := Tryz.isAgg249
 z77 := Tryz.sizeOf249
 v77 := Tryz.zeroValue249 }
end Go.Proofs
