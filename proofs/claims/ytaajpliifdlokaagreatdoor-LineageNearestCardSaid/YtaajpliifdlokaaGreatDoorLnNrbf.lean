/- Contracts of lineage.right and lineage.Check, at links that are right. Contract of lineage.Check, at links that are right. DERIVED: THE SHELF's CONTRACTS AT THIS DUMP, IN PLAIN WORDS (tools/lay-plain.mjs out of 'YtaajpliifdlokaaGreatDoorShOL.lean', which tools/lay-shelf.mjs wrote): THE SAME DECLARATIONS UNDER THE SAME NAMES: 'import', 'namespace', 'open', 'def', 'theorem' AND NOTHING ELSE: no command of the shelf's: FOR A HAND-IN. Each laying: the table of numbers ('.._ren') and one theorem, a field a fact of the dump's own or the kernel's comparison; each contract: ONE APPLICATION. Contracts of ref38.Same, ref03.SameCells and ref03.Same at equal arguments. -/
import Derived.Test.YtaajpliifdlokaaGreatDoorLnNrbd
import Derived.Test.YtaajpliifdlokaaGreatDoorLnNrbe
import Derived.Test.YtaajpliifdlokaaGreatDoorLnNraz
import Derived.Test.YtaajpliifdlokaaGreatDoorLnNrax
import Derived.Deep.RegionHeld3
import Derived.Deep.RegionLawGrows
import Derived.Shelf.SortM.Plain
import Derived.Shelf.SortM.SortNone
import Derived.Ground.SlgmProg
import Derived.Test.YtaajpliifdlokaaGreatDoorProg
import Derived.Test.YtaajpliifdlokaaGreatDoorLnNrbc
set_option linter.unusedVariables false
set_option linter.unusedSimpArgs false
namespace Go.Proofs.YtaajpliifdlokaaGreatDoor
open Go.RowKit
theorem rdCo_nx {w w' : World} {v : Value} {xs : List Co} (h : RdCo w (· < w.heap.size) v xs) (hb : Below w.heap.size w w') : RdCo w' (· < w'.heap.size) v xs :=
  (h.keep fun p (hp : p.block < w.heap.size) => hb.cell (p := p) hp).more fun b (hb' : b < w.heap.size) => Nat.lt_of_lt_of_le hb' hb.size
theorem find_mem {v : Value} {ts : List Ta} {B : Nat} {w : World} (h : ListV ts) (hv : RdTa w (· < B) v ts) (hB : B ≤ w.heap.size) {t : Ta} (ht : t ∈ ts) : Calls Tryz.prog 162 #[v, .int .i64 t.id] w (FindT w t) := by
  obtain ⟨i, hi, rfl⟩ := List.getElem_of_mem ht
  have e : ts[i] = ts.getD i Ta.z := by simp [List.getD, hi]
  rw [e]
  have hl := h.1
  obtain ⟨-, -, -, h64, n, hn, hc⟩ := h.2.1 _ ht
  rw [e] at h64 hc
  exact table_FindT v ts B i w hi (fun j hj => by have := ids_up h.2.2 hj hi; omega) (by omega) hv hB (by omega) (fun x hx => by have := (hc x hx).2.1; omega)
set_option maxRecDepth 100000 in
set_option maxHeartbeats 4000000 in
theorem lin_right (ts : List Ta) (v : Value) (x : Lk) (a b : Ta) (oa : Option Addr) (oc B : Nat) (w : World) (h : ListV ts) (ha : a ∈ ts) (hb : b ∈ ts) (hfa : Few a.cols) (e1 : a.id = x.src) (e2 : b.id = x.dst) (hg : grT a b = true) (hcan : canRun a.cols x.ops = true) (hrun : runL a.cols x.ops = b.cols) (hlen : x.ops.length ≤ 4)
  (hv : RdTa w (· < B) v ts) (hx : RdPo w (· < B) (.slice oa x.ops.length oc) x.ops) (hB : B ≤ w.heap.size) (hT : Tabs w) :
  Calls Tryz.prog 100 #[v, .agg #[.int .i64 x.src, .int .i64 x.dst, .slice oa x.ops.length oc]] w (Ret w (.bool true)) := by
 have HFA := hid (fun W (hW : Below w.heap.size w W) => find_mem h (hv.keep (w' := W) fun p (hp : p.block < B) => hW.cell (p := p) (by omega)) (Nat.le_trans hB hW.size) ha)
 have HFB := hid (fun W (hW : Below w.heap.size w W) => find_mem h (hv.keep (w' := W) fun p (hp : p.block < B) => hW.cell (p := p) (by omega)) (Nat.le_trans hB hW.size) hb)
 have hne : a.id ≠ b.id := fun e => by
  have := id_inj h.2.2 ha hb e
  subst this
  rw [grT_irrefl] at hg
  cases hg
 have HVA := hid (h.2.1 _ ha)
 have HVB := hid (h.2.1 _ hb)
 have HG := hid hg
 have HCAN := hid hcan
 have HRUN := hid hrun
 have HX := hid (fun W (hW : Below w.heap.size w W) => (hx.keep (w' := W) fun p (hp : p.block < B) => hW.cell (p := p) (by omega)).more (S' := (· < W.heap.size)) (fun b (hb : b < B) => by show b < W.heap.size; have := hW.size; omega))
 have HFW := hid hfa
 have HT := hid hT
 obtain ⟨tv, ⟨va, vc, rfl, -⟩, -⟩ := hv
 obtain ⟨ia, na, xa⟩ := a
 obtain ⟨ib, nb, xb⟩ := b
 obtain ⟨xs, xd, xo⟩ := x
 simp only at e1 e2 hne HFW HCAN HRUN HX hlen ⊢
 subst e1 e2
 clear h ha hb hfa hg hcan hrun hx hT
 generalize ts.length = M at *
 obtain ⟨l, hl⟩ : ∃ l, l = xo.length := ⟨_, rfl⟩
 rw [← hl] at HX hlen
 rw [← hl]
 have HL := hid hl.symm
 clear hl
 have hneb : (ia == ib) = false := by simpa using hne
 have HB0 := hid ((Below.refl w.heap.size w).alloc (Nat.le_refl _) (.cells #[.int .i64 ia, .int .i64 ib, .slice oa l oc] 76))
 have HBX := hid (BoxN.new w #[.int .i64 ia, .int .i64 ib, .slice oa l oc] 76)
 have x0 := HBX.out.cell 0 rfl
 go_enter Tryz.func100, Tryz.ntmps100
 go_wp2_with fail
 clear x0
 with_reducible refine (HFA.out _ HB0.out).mono ?_
 generalize w.alloc (.cells #[.int .i64 ia, .int .i64 ib, .slice oa l oc] 76) = W0 at *
 have hw0 := HB0.out.size
 rintro e w1 ⟨ua, rfl, hra, hb1⟩
 simp only at hra ⊢
 obtain ⟨p1, c1, rfl⟩ := rdCo_len hra
 obtain ⟨la, hla⟩ : ∃ la, la = xa.length := ⟨_, rfl⟩
 rw [← hla] at hra
 rw [← hla]
 clear hla
 have HB1 := hid (HB0.out.trans (hb1.mono hw0))
 have hbx1 := HBX.out.below hb1 HBX.out.lt
 have hs2 := (Below.refl w1.heap.size w1).alloc (Nat.le_refl _) (.cells #[.int .i64 ia, .string na, .slice p1 la c1] 51)
 have hbxl := hbx1.lt
 have HBX2 := hid (hbx1.below hs2 hbxl)
 have HBA2 := hid (BoxN.new w1 #[.int .i64 ia, .string na, .slice p1 la c1] 51)
 have HB2 := hid (HB1.out.trans (hs2.mono HB1.out.size))
 have HRA2 := hid (rdCo_nx (hra.more (S' := (· < w1.heap.size)) fun b hb => hb.2) hs2)
 have x1 := HBX2.out.cell 1 rfl
 clear hb1 hbx1 hs2 hra
 go_wp2_with fail
 clear x1
 with_reducible refine (HFB.out _ HB2.out).mono ?_
 generalize w1.alloc (.cells #[.int .i64 ia, .string na, .slice p1 la c1] 51) = W2 at *
 rintro e w3 ⟨ub, rfl, hrb, hb3⟩
 simp only at hrb ⊢
 obtain ⟨p3, c3, rfl⟩ := rdCo_len hrb
 obtain ⟨lb, hlb⟩ : ∃ lb, lb = xb.length := ⟨_, rfl⟩
 rw [← hlb] at hrb
 rw [← hlb]
 clear hlb
 have HB3 := hid (HB2.out.trans (hb3.mono HB2.out.size))
 have hs4 := hb3.trans (((Below.refl w3.heap.size w3).alloc (Nat.le_refl _) (.cells #[.int .i64 ib, .string nb, .slice p3 lb c3] 51)).mono hb3.size)
 have hs4' := (Below.refl w3.heap.size w3).alloc (Nat.le_refl _) (.cells #[.int .i64 ib, .string nb, .slice p3 lb c3] 51)
 have HBX4 := hid (HBX2.out.below hs4 HBX2.out.lt)
 have HBA4 := hid (HBA2.out.below hs4 HBA2.out.lt)
 have HBB4 := hid (BoxN.new w3 #[.int .i64 ib, .string nb, .slice p3 lb c3] 51)
 have HB4 := hid (HB3.out.trans (hs4'.mono HB3.out.size))
 have HRA4 := hid (rdCo_nx HRA2.out hs4)
 have HRB4 := hid (rdCo_nx (hrb.more (S' := (· < w3.heap.size)) fun b hb => hb.2) hs4')
 have HGR := hid (lin_greater ⟨ia, na, xa⟩ ⟨ib, nb, xb⟩ (.slice p1 la c1) (.slice p3 lb c3) _ _ HRA4.out HRB4.out (Nat.le_refl _) HVA.out.cnt HVB.out.cnt)
 rw [HG.out] at HGR
 simp only at HGR
 have x0 := HBX4.out.cell 0 rfl
 have x1 := HBX4.out.cell 1 rfl
 have y0 := HBA4.out.cell 0 rfl
 have y1 := HBA4.out.cell 1 rfl
 have y2 := HBA4.out.cell 2 rfl
 have z0 := HBB4.out.cell 0 rfl
 have z1 := HBB4.out.cell 1 rfl
 have z2 := HBB4.out.cell 2 rfl
 clear hb3 hs4 hs4' hrb
 go_wp2_with fail
 clear x0 x1 y0 y1 y2 z0 z1 z2
 with_reducible refine HGR.out.mono ?_
 generalize w3.alloc (.cells #[.int .i64 ib, .string nb, .slice p3 lb c3] 51) = W4 at *
 rintro e w5 ⟨rfl, hb5⟩
 have HB5 := hid (HB4.out.trans (hb5.mono HB4.out.size))
 have HBX5 := hid (HBX4.out.below hb5 HBX4.out.lt)
 have HBA5 := hid (HBA4.out.below hb5 HBA4.out.lt)
 have HBB5 := hid (HBB4.out.below hb5 HBB4.out.lt)
 have HRA5 := hid (rdCo_nx HRA4.out hb5)
 have HRB5 := hid (rdCo_nx HRB4.out hb5)
 have HRN := hid (expl_Run ⟨ia, na, xa⟩ (.slice p1 la c1) (.slice oa l oc) xo w5.heap.size w5 HVA.out HFW.out HRA5.out (HX.out w5 HB5.out) (Nat.le_refl _) (HT.out.below HB5.out) HCAN.out (by rw [HL.out]; omega))
 simp only at HRN
 rw [HRUN.out] at HRN
 have x2 := HBX5.out.cell 2 rfl
 have y0 := HBA5.out.cell 0 rfl
 have y1 := HBA5.out.cell 1 rfl
 have y2 := HBA5.out.cell 2 rfl
 clear hb5 HGR
 go_wp2_with fail
 clear x2 y0 y1 y2
 with_reducible refine HRN.out.mono ?_
 rintro e w6 ⟨y6, rfl, hrd6, hb6⟩
 obtain ⟨p6, c6, rfl⟩ := rdCo_len hrd6
 obtain ⟨l6, hl6⟩ : ∃ l6, l6 = xb.length := ⟨_, rfl⟩
 rw [← hl6] at hrd6
 rw [← hl6]
 clear hl6
 have HB6 := hid (HB5.out.trans (hb6.mono HB5.out.size))
 have hs7 := (Below.refl w6.heap.size w6).alloc (Nat.le_refl _) (.cells #[.int .i64 ia, .string na, .slice p6 l6 c6] 51)
 have hs57 := hb6.trans (hs7.mono hb6.size)
 have HB7 := hid (HB6.out.trans (hs7.mono HB6.out.size))
 have HBB7 := hid (HBB5.out.below hs57 HBB5.out.lt)
 have HBT7 := hid (BoxN.new w6 #[.int .i64 ia, .string na, .slice p6 l6 c6] 51)
 have HAL := hid (expl_Alike ia ib na nb (.slice p6 l6 c6) (.slice p3 lb c3) xb xb _ _ (rdCo_nx (hrd6.more (S' := (· < w6.heap.size)) fun b hb => hb.2) hs7) (rdCo_nx HRB5.out hs57) (Nat.le_refl _))
 rw [decide_eq_true rfl] at HAL
 have x0 := HBT7.out.cell 0 rfl
 have x1 := HBT7.out.cell 1 rfl
 have x2 := HBT7.out.cell 2 rfl
 have z0 := HBB7.out.cell 0 rfl
 have z1 := HBB7.out.cell 1 rfl
 have z2 := HBB7.out.cell 2 rfl
 clear hb6 hs7 hs57 hrd6 HRN
 go_wp2_with fail
 clear x0 x1 x2 z0 z1 z2
 with_reducible refine HAL.out.mono ?_
 rintro e w8 ⟨rfl, hb8⟩
 have HB8 := hid (HB7.out.trans (hb8.mono HB7.out.size))
 clear hb8
 go_wp2
 go_ret
 exact ⟨rfl, HB8.out⟩
end Go.Proofs.YtaajpliifdlokaaGreatDoor

namespace Go.Proofs.YtaajpliifdlokaaGreatDoor
open Go.RowKit
def RightL (ts : List Ta) (x : Lk) : Prop := ∃ a ∈ ts, ∃ b ∈ ts, Few a.cols ∧ a.id = x.src ∧ b.id = x.dst ∧ grT a b = true ∧ canRun a.cols x.ops = true ∧ runL a.cols x.ops = b.cols ∧ x.ops.length ≤ 4
set_option maxRecDepth 100000 in
set_option maxHeartbeats 4000000 in
theorem lin_Check (ts : List Ta) (xs : List Lk) (v u : Value) (B : Nat) (w : World) (h : ListV ts) (hr : ∀ x ∈ xs, RightL ts x) (hs : xs.Pairwise fun a b => a.dst < b.dst) (hl : xs.length ≤ 1048576) (hv : RdTa w (· < B) v ts) (hu : RdLk w (· < B) u xs) (hB : B ≤ w.heap.size) (hT : Tabs w) :
  Calls Tryz.prog 58 #[v, u] w (Ret w (.bool true)) := by
 obtain ⟨ua, uc, rfl, huc, hum⟩ := rdLk_len hu
 have HU := hid hu
 have HV := hid (fun W (hW : Below w.heap.size w W) => hv.keep (w' := W) fun p (hp : p.block < B) => hW.cell (p := p) (by omega))
 have HRI := hid (fun q (hq : q < xs.length) oa oc W (hW : Below w.heap.size w W) (hx : RdPo W (· < B) (.slice oa (xs.getD q Lk.z).ops.length oc) (xs.getD q Lk.z).ops) => (by
  obtain ⟨a, ha, b, hb, hf, e1, e2, hg, hc, hn, h4⟩ := hr _ (getD_mem hq Lk.z)
  exact lin_right ts v _ a b oa oc B W h ha hb hf e1 e2 hg hc hn h4 (HV.out W hW) hx (Nat.le_trans hB hW.size) (hT.below hW) :
  Calls Tryz.prog 100 #[v, .agg #[.int .i64 (xs.getD q Lk.z).src, .int .i64 (xs.getD q Lk.z).dst, .slice oa (xs.getD q Lk.z).ops.length oc]] W (Ret W (.bool true))))
 have HTO := hid (fun q (hq : q < xs.length) W (hW : Below w.heap.size w W) => (by
  have h1 := lin_to (.slice ua q uc) (xs.take q) B (xs.getD q Lk.z).dst W (by have := List.length_take_le q xs; omega) ((hu.take (q := q) (by omega)).keep fun p (hp : p.block < B) => hW.cell (p := p) (by omega)) (Nat.le_trans hB hW.size)
  have h2 : toL (xs.take q) (xs.getD q Lk.z).dst = none := toL_out fun j hj e => by
   have hlt : j < q := by rw [List.length_take] at hj; omega
   have h3 := List.pairwise_iff_getElem.1 hs j q (by omega) hq hlt
   simp [List.getD, List.getElem?_take, hlt, hq, show j < xs.length by omega] at e
   omega
  unfold ToP at h1
  rw [h2] at h1
  exact h1.mono fun e w' h => ⟨h.2, h.1⟩ :
  Calls Tryz.prog 98 #[.slice ua q uc, .int .i64 (xs.getD q Lk.z).dst] W (Ret W (.tuple #[.agg #[.int .i64 0, .int .i64 0, .slice none 0 0], .bool false]))))
 obtain ⟨tv, ⟨va, vc, rfl, -⟩, -⟩ := hv
 clear hu h hr hs hT HV
 generalize ts.length = M at *
 generalize hxl : xs.length = L at *
 have HXL := hid hxl
 clear hxl
 go_enter Tryz.func58, Tryz.ntmps58
 go_wp2_with fail
 go_loopg [11] L (fun N i wr => ∃ q : Nat, i = .int .i64 (q : Int) ∧ q + N = L ∧ Hid (Below w.heap.size w wr))
 case atStart => exact ⟨0, rfl, by omega, hid (Below.refl _ _)⟩
 case round =>
  obtain ⟨q, rfl, hq, HB⟩ := hrel
  have hwz := HB.out.size
  by_cases hp : 0 < gk
  ·have hqL : q < L := by omega
   have hrx := HU.out.keep (w' := wr) fun p (hp : p.block < B) => HB.out.cell (p := p) (by omega)
   obtain ⟨b, o, c3, y, e3, hb, hpo, k0, k1, k2⟩ := lk_at hrx (q := q) (by rw [HXL.out]; exact hqL)
   rw [HXL.out] at e3
   obtain ⟨rfl, -, rfl⟩ := Value.slice.inj e3
   obtain ⟨oa, oc, rfl⟩ := rdPo_len hpo
   have HRQ := hid (fun W hW hx => HRI.out q hqL oa oc W hW hx)
   have HTQ := hid (HTO.out q hqL)
   have HPO := hid (fun W (hW : Below wr.heap.size wr W) => hpo.keep (w' := W) fun p (hp : p.block < B) => hW.cell (p := p) (by omega))
   have hqi : (q : Int) < (L : Int) := by omega
   have hqc : (q : Int) ≤ (uc : Int) := by omega
   clear e3 hb hrx hpo
   generalize xs.getD q Lk.z = x at *
   obtain ⟨sx, dx, ox⟩ := x
   simp only at k0 k1 k2 HRQ HTQ HPO
   generalize ox.length = l at *
   obtain ⟨W2, hW2⟩ : ∃ W2, W2 = wr.alloc (.cells #[.int .i64 sx, .int .i64 dx, .slice oa l oc] 76) := ⟨_, rfl⟩
   have hbx := BoxN.new wr #[.int .i64 sx, .int .i64 dx, .slice oa l oc] 76
   have hsx := (Below.refl wr.heap.size wr).alloc (Nat.le_refl _) (.cells #[.int .i64 sx, .int .i64 dx, .slice oa l oc] 76)
   go_upto_region 4 with fail
   rw [← hW2] at hbx hsx ⊢
   have HB2 := hid (HB.out.trans (hsx.mono hwz))
   have HBX := hid hbx
   have HSX := hid hsx
   have hw2 := hsx.size
   have x1 := hbx.cell 1 rfl
   have hd2 : Below W2.heap.size W2 W2.drew := (Below.refl _ _).drew
   have ha2 := ((Below.refl W2.heap.size W2).alloc (Nat.le_refl _) (.cells #[.int .i64 0, .int .i64 0, .slice none 0 0] 76)).drew
   have x2 := (HBX.out.below ha2 HBX.out.lt).cell 1 rfl
   have HTA := hid (HTQ.out W2.drew (HB2.out.trans (hd2.mono HB2.out.size)))
   have HTB := hid (HTQ.out _ (HB2.out.trans (ha2.mono HB2.out.size)))
   have HLB := hid ((BoxN.new W2 #[.int .i64 0, .int .i64 0, .slice none 0 0] 76).drewN 1)
   have HD2 := hid hd2
   have HA2 := hid ha2
   clear hbx hsx hd2 ha2 hW2 k0 k1 k2
   go_region_law (first
    | (go_simp; go_at_call 98; go_must (first
     | ((with_reducible refine HTA.out.mono ?_); rintro e w5 ⟨rfl, hb5⟩; have H5 : Hid (Below W2.heap.size W2 w5) := hid (HD2.out.trans hb5); clear hb5)
     | ((with_reducible refine HTB.out.mono ?_); rintro e w5 ⟨rfl, hb5⟩; have H5 : Hid (Below W2.heap.size W2 w5) := hid (HA2.out.trans (hb5.mono HA2.out.size)); have hlb := HLB.out.below hb5 HLB.out.lt; have z0 := hlb.cell 0 rfl; have z1 := hlb.cell 1 rfl; have z2 := hlb.cell 2 rfl; have g0 := hlb.frozen 0; have g1 := hlb.frozen 1; have g2 := hlb.frozen 2; clear hb5 hlb))))
   all_goals
    first
     | (obtain ⟨W6, hW6⟩ : ∃ W6, W6 = w5.alloc (.cells #[.int .i64 0, .int .i64 0, .slice none 0 0] 76) := ⟨_, rfl⟩; rw [← hW6]; have H6 : Hid (Below W2.heap.size W2 W6) := hid (by rw [hW6]; exact H5.out.alloc H5.out.size _); clear hW6)
     | (obtain ⟨W6, hW6⟩ : ∃ W6, W6 = ((w5.setCell ⟨W2.heap.size, 0, none⟩ (.int .i64 0)).setCell ⟨W2.heap.size, 1, none⟩ (.int .i64 0)).setCell ⟨W2.heap.size, 2, none⟩ (.slice none 0 0) := ⟨_, rfl⟩; rw [← hW6]; have H6 : Hid (Below W2.heap.size W2 W6) := hid (by rw [hW6]; exact ((H5.out.setCell (p := ⟨W2.heap.size, 0, none⟩) (Nat.le_refl _) _).setCell (p := ⟨W2.heap.size, 1, none⟩) (Nat.le_refl _) _).setCell (p := ⟨W2.heap.size, 2, none⟩) (Nat.le_refl _) _); clear hW6)
    clear x1 x2
    have hx6 := HBX.out.below H6.out HBX.out.lt
    have HRR := hid (HRQ.out W6 (HB2.out.trans (H6.out.mono HB2.out.size)) (HPO.out W6 (HSX.out.trans (H6.out.mono hw2))))
    have x0 := hx6.cell 0 rfl
    have x1 := hx6.cell 1 rfl
    have x2 := hx6.cell 2 rfl
    clear hx6
    go_wp2_with fail
    with_reducible refine HRR.out.mono ?_
    rintro e w7 ⟨rfl, hb7⟩
    have H7 := hid (HB2.out.trans ((H6.out.trans (hb7.mono H6.out.size)).mono HB2.out.size))
    clear hb7 x0 x1 x2
    go_wp2
    go_roundg (gk - 1)
    case rel => exact ⟨q + 1, by go_num, by omega, H7⟩
    case measure => omega
  ·obtain rfl : gk = 0 := by omega
   obtain rfl : L = q := by omega
   go_wp2
   go_ret
   exact ⟨rfl, HB.out⟩
end Go.Proofs.YtaajpliifdlokaaGreatDoor

namespace Go.Proofs
open Go.Shelf
def Tryz.sortInt_ren : Go.Shelf.Ren := ⟨fun | 5 => 53 | 8 => 90 | 7 => 97 | 19 => 144 | 20 => 145 | 10 => 150 | 11 => 151 | 12 => 152 | 13 => 153 | 14 => 154 | 15 => 155 | 16 => 156 | 17 => 157 | 18 => 158 | 30 => 205 | 31 => 200 | 32 => 201 | 33 => 206 | 34 => 207 | 35 => 106 | 40 => 235 | n => n, fun | 23 => 22 | 25 => 3 | 3 => 3 | 32 => 135 | 22 => 22 | 0 => 0 | 44 => 159 | 46 => 157 | 4 => 4 | 36 => 173 | 35 => 172 | 41 => 66 | 5 => 5 | 9 => 9 | 53 => 215 | 57 => 219 | 63 => 248 | 64 => 249 | n => n, fun | n => n⟩
theorem Tryz.sortInt : Go.Proofs.SlLaysM.n5 Tryz.prog Tryz.sortInt_ren := {
 mixed := by kernel_rfl
 f5 := ⟨Tryz.f53.name, by decide, Tryz.func53.trans (congrArg some (by kernel_rfl))⟩
 f7 := ⟨Tryz.f97.name, by decide, Tryz.func97.trans (congrArg some (by kernel_rfl))⟩
 f8 := Tryz.func90.trans (congrArg some (by kernel_rfl))
 f10 := ⟨Tryz.f150.name, by decide, Tryz.func150.trans (congrArg some (by kernel_rfl))⟩
 f11 := ⟨Tryz.f151.name, by decide, Tryz.func151.trans (congrArg some (by kernel_rfl))⟩
 f12 := ⟨Tryz.f152.name, by decide, Tryz.func152.trans (congrArg some (by kernel_rfl))⟩
 f13 := ⟨Tryz.f153.name, by decide, Tryz.func153.trans (congrArg some (by kernel_rfl))⟩
 f14 := ⟨Tryz.f154.name, by decide, Tryz.func154.trans (congrArg some (by kernel_rfl))⟩
 f15 := ⟨Tryz.f155.name, by decide, Tryz.func155.trans (congrArg some (by kernel_rfl))⟩
 f16 := ⟨Tryz.f156.name, by decide, Tryz.func156.trans (congrArg some (by kernel_rfl))⟩
 f17 := ⟨Tryz.f157.name, by decide, Tryz.func157.trans (congrArg some (by kernel_rfl))⟩
 f18 := ⟨Tryz.f158.name, by decide, Tryz.func158.trans (congrArg some (by kernel_rfl))⟩
 f19 := Tryz.func144.trans (congrArg some (by kernel_rfl))
 f20 := Tryz.func145.trans (congrArg some (by kernel_rfl))
 f30 := ⟨Tryz.f205.name, by decide, Tryz.func205.trans (congrArg some (by kernel_rfl))⟩
 f31 := Tryz.func200.trans (congrArg some (by kernel_rfl))
 f32 := Tryz.func201.trans (congrArg some (by kernel_rfl))
 f33 := ⟨Tryz.f206.name, by decide, Tryz.func206.trans (congrArg some (by kernel_rfl))⟩
 f34 := ⟨Tryz.f207.name, by decide, Tryz.func207.trans (congrArg some (by kernel_rfl))⟩
 f35 := ⟨Tryz.f106.name, by decide, Tryz.func106.trans (congrArg some (by kernel_rfl))⟩
 f40 := ⟨Tryz.f235.name, by decide, Tryz.func235.trans (congrArg some (by kernel_rfl))⟩
 t0 := Tryz.underlying0
 a0 := Tryz.isAgg0
 z0 := Tryz.sizeOf0
 v0 := Tryz.zeroValue0
 t3 := Tryz.underlying3
 a3 := Tryz.isAgg3
 z3 := Tryz.sizeOf3
 v3 := Tryz.zeroValue3
 t4 := Tryz.underlying4
 a4 := Tryz.isAgg4
 z4 := Tryz.sizeOf4
 v4 := Tryz.zeroValue4
 t5 := Tryz.underlying5
 a5 := Tryz.isAgg5
 z5 := Tryz.sizeOf5
 v5 := Tryz.zeroValue5
 t9 := Tryz.underlying9
 a9 := Tryz.isAgg9
 z9 := Tryz.sizeOf9
 v9 := Tryz.zeroValue9
 t22 := Tryz.underlying22
 a22 := Tryz.isAgg22
 z22 := Tryz.sizeOf22
 v22 := Tryz.zeroValue22
 t23 := Tryz.underlying22
 a23 := Tryz.isAgg22
 z23 := Tryz.sizeOf22
 v23 := Tryz.zeroValue22
 t25 := Tryz.underlying3
 a25 := Tryz.isAgg3
 z25 := Tryz.sizeOf3
 v25 := Tryz.zeroValue3
 t32 := Tryz.underlying135
 a32 := Tryz.isAgg135
 z32 := Tryz.sizeOf135
 v32 := Tryz.zeroValue135
 t35 := Tryz.underlying172
 a35 := Tryz.isAgg172
 z35 := Tryz.sizeOf172
 v35 := Tryz.zeroValue172
 t36 := Tryz.underlying173
 a36 := Tryz.isAgg173
 z36 := Tryz.sizeOf173
 v36 := Tryz.zeroValue173
 t41 := Tryz.underlying66
 a41 := Tryz.isAgg66
 z41 := Tryz.sizeOf66
 v41 := Tryz.zeroValue66
 t44 := Tryz.underlying159
 a44 := Tryz.isAgg159
 z44 := Tryz.sizeOf159
 v44 := Tryz.zeroValue159
 t46 := Tryz.underlying157
 a46 := Tryz.isAgg157
 z46 := Tryz.sizeOf157
 v46 := Tryz.zeroValue157
 t53 := Tryz.underlying215
 a53 := Tryz.isAgg215
 z53 := Tryz.sizeOf215
 v53 := Tryz.zeroValue215
 t57 := Tryz.underlying219
 a57 := Tryz.isAgg219
 z57 := Tryz.sizeOf219
 v57 := Tryz.zeroValue219
 t63 := Tryz.underlying248
 a63 := Tryz.isAgg248
 z63 := Tryz.sizeOf248
 v63 := Tryz.zeroValue248
 t64 := Tryz.underlying249
 a64 := Tryz.isAgg249
 z64 := Tryz.sizeOf249
 v64 := Tryz.zeroValue249 }
end Go.Proofs

namespace Go.Proofs.YtaajpliifdlokaaGreatDoor
open Go.RowKit
theorem rdKs_max {w : World} {S : Nat → Prop} {v : Value} {os : List Int} (h : RdKs w S v os) : os.length ≤ 9223372036854775807 := by
  obtain ⟨a, c, -, h1, h2, -⟩ := h
  unfold maxLen at h2
  omega
theorem ks_at {w : World} {S : Nat → Prop} {v : Value} {ks : List Int} (h : RdKs w S v ks) {k : Nat} (hk : k < ks.length) : ∃ b o c, v = .slice (some ⟨b, o, none⟩) ks.length c ∧ S b ∧ w.cell? ⟨b, o + k, none⟩ = some (.int .i64 (ks.getD k 0)) := by
  obtain ⟨a, c, e, -, -, hr⟩ := h
  obtain ⟨b, o, rfl, hb, hc⟩ := hr (by omega)
  refine ⟨b, o, c, e, hb, ?_⟩
  have := hc k hk 0 (by omega)
  simpa [zF] using this
end Go.Proofs.YtaajpliifdlokaaGreatDoor
