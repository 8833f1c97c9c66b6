/- Contract of table.Find where the table is there. Contracts of lineage.right and lineage.Check, at links that are right. Contract of lineage.Check, at links that are right. DERIVED: THE SHELF's CONTRACTS AT THIS DUMP, IN PLAIN WORDS (tools/lay-plain.mjs out of 'YtfmlpaplnkohpaaGreatDoorShOL.lean', which tools/lay-shelf.mjs wrote): THE SAME DECLARATIONS UNDER THE SAME NAMES: 'import', 'namespace', 'open', 'def', 'theorem' AND NOTHING ELSE: no command of the shelf's: FOR A HAND-IN. Each laying: the table of numbers ('.._ren') and one theorem, a field a fact of the dump's own or the kernel's comparison; each contract: ONE APPLICATION. Contracts of ref38.Same, ref03.SameCells and ref03.Same at equal arguments. -/
import Derived.Test.YtfmlpaplnkohpaaGreatDoorLnBbe
import Derived.Test.YtfmlpaplnkohpaaGreatDoorLnBbd
import Derived.Test.YtfmlpaplnkohpaaGreatDoorLnBaz
import Derived.Test.YtfmlpaplnkohpaaGreatDoorLnBax
import Derived.Deep.RegionHeld3
import Derived.Deep.RegionLawGrows
import Derived.Shelf.SortM.Plain
import Derived.Shelf.SortM.SortNone
import Derived.Ground.SlgmProg
import Derived.Test.YtfmlpaplnkohpaaGreatDoorProg
import Derived.Test.YtfmlpaplnkohpaaGreatDoorLnBbc
set_option linter.unusedVariables false
set_option linter.unusedSimpArgs false
namespace Go.Proofs.YtfmlpaplnkohpaaGreatDoor
open Go.RowKit
def FindT (w : World) (t : Ta) (e : Ending) (w' : World) : Prop :=
  ∃ u, e = .returned (.tuple #[.agg #[.int .i64 t.id, .string t.name, u], .bool true]) ∧ RdCo w' (News w w') u t.cols ∧ Below w.heap.size w w'
set_option maxRecDepth 100000 in
set_option maxHeartbeats 2000000 in
theorem table_FindT (v : Value) (ts : List Ta) (B i : Nat) (w : World) (hi : i < ts.length) (hu : ∀ j, j < i → (ts.getD j Ta.z).id ≠ (ts.getD i Ta.z).id) (hl : ts.length ≤ 1048576) (hv : RdTa w (· < B) v ts) (hB : B ≤ w.heap.size)
    (hxl : (ts.getD i Ta.z).cols.length ≤ 1048576) (hc : ∀ x ∈ (ts.getD i Ta.z).cols, x.cells.length ≤ 1048576) :
    Calls Tryz.prog 97 #[v, .int .i64 (ts.getD i Ta.z).id] w (FindT w (ts.getD i Ta.z)) := by
  have HFI := hid (fun W (hW : Below w.heap.size w W) => table_find v ts B i W hi hu hl (hv.keep fun p (hp : p.block < B) => hW.cell (p := p) (by omega)) (by have := hW.size; omega))
  obtain ⟨tv, ⟨a, c, rfl, hcc, hm, hrd⟩, hco⟩ := hv
  obtain ⟨b, o, rfl, hb, hcell⟩ := hrd (by omega)
  have hbw : b < w.heap.size := by have : b < B := hb; omega
  have k0 := hcell i hi 0 (by omega)
  have k1 := hcell i hi 1 (by omega)
  have k2 := hcell i hi 2 (by omega)
  simp only [taF, three, Nat.add_zero] at k0 k1 k2
  have hcx := hco i hi
  obtain ⟨ca, ck, hcv⟩ : ∃ a c, tv i = .slice a (ts.getD i Ta.z).cols.length c := by
    obtain ⟨cv, ⟨a, c, e, -⟩, -⟩ := hcx
    exact ⟨a, c, e⟩
  rw [hcv] at k2 hcx
  have HCX := hid hcx
  have HC := hid hc
  have HZ := hid (BoxN.new w #[.int .i64 0, .string ⟨#[]⟩, .slice none 0 0] 29)
  have HB0 := hid ((Below.refl w.heap.size w).alloc (Nat.le_refl _) (.cells #[.int .i64 0, .string ⟨#[]⟩, .slice none 0 0] 29))
  unfold FindT
  clear hcell hrd hco hcv hcx hu hc
  generalize ts.getD i Ta.z = t at *
  obtain ⟨id, nm, xs⟩ := t
  simp only at k0 k1 k2 HFI HCX HC hxl ⊢
  obtain ⟨L, hL⟩ : ∃ L, L = xs.length := ⟨_, rfl⟩
  rw [← hL] at k2 HCX hxl
  have HL := hid hL.symm
  clear hL
  have hii : (i : Int) < (ts.length : Int) := by omega
  have hi0 : ¬ (i : Int) < 0 := by omega
  generalize ts.length = M at *
  go_enter Tryz.func97, Tryz.ntmps97
  go_wp2_with fail
  with_reducible refine (HFI.out _ HB0.out).mono ?_
  generalize w.alloc (.cells #[.int .i64 0, .string ⟨#[]⟩, .slice none 0 0] 29) = W0 at *
  have hw0 := HB0.out.size
  rintro e w1 ⟨rfl, hb1⟩
  have HB1 := hid (HB0.out.trans (hb1.mono hw0))
  have HZ1 := hid (HZ.out.below hb1 HZ.out.lt)
  have m0 := (HB1.out.cell (p := ⟨b, o + i * 3, none⟩) hbw).trans k0
  have m1 := (HB1.out.cell (p := ⟨b, o + i * 3 + 1, none⟩) hbw).trans k1
  have m2 := (HB1.out.cell (p := ⟨b, o + i * 3 + 2, none⟩) hbw).trans k2
  have hsx := (Below.refl w1.heap.size w1).alloc (Nat.le_refl _) (.cells #[.int .i64 id, .string nm, .slice ca L ck] 29)
  have hbx := BoxN.new w1 #[.int .i64 id, .string nm, .slice ca L ck] 29
  have HB2 := hid (HB1.out.trans (hsx.mono HB1.out.size))
  have HZ2 := hid (HZ1.out.below hsx HZ1.out.lt)
  have hw1 := HB1.out.size
  have HWI := hid (table_with id nm xs w1.heap.size (.slice ca L ck) B (w1.alloc (.cells #[.int .i64 id, .string nm, .slice ca L ck] 29)) (hbx.cell 2 rfl) (HCX.out.keep fun p (hp : p.block < B) => HB2.out.cell (p := p) (by omega)) (Nat.le_trans hB HB2.out.size) (by rw [HL.out]; exact hxl) HC.out)
  rw [HL.out] at HWI
  have x0 := hbx.cell 0 rfl
  have x1 := hbx.cell 1 rfl
  have x2 := hbx.cell 2 rfl
  clear hb1 k0 k1 k2 hbx HFI
  go_wp2_with fail
  clear x0 x1 x2 m0 m1 m2
  with_reducible refine HWI.out.mono ?_
  rintro e w3 ⟨u, rfl, hco, hb3⟩
  have hrd := hco.read
  obtain ⟨ua, uc, rfl⟩ : ∃ a c, u = .slice a xs.length c := by
    obtain ⟨cv, ⟨a, c, e, -⟩, -⟩ := hrd
    exact ⟨a, c, e⟩
  rw [HL.out] at hrd ⊢
  have hz2 : (w1.alloc (.cells #[.int .i64 id, .string nm, .slice ca L ck] 29)).heap.size = w1.heap.size + 1 := by simp
  have HRD := hid hrd
  have HB3 := hid (HB2.out.trans (hb3.mono HB2.out.size))
  have hz3 := HZ2.out.below hb3 HZ2.out.lt
  have hzl := HZ1.out.lt
  have f0 := hz3.frozen 0
  have f1 := hz3.frozen 1
  have f2 := hz3.frozen 2
  have c0 := hz3.cell 0 rfl
  have c1 := hz3.cell 1 rfl
  have c2 := hz3.cell 2 rfl
  clear hco hrd hb3 hz3 HWI
  go_wp2
  refine bodyPost_ret (v := .tuple #[.agg #[.int .i64 id, .string nm, .slice ua L uc], .bool true]) (by simp [results, Tryz.results97, go_sem, c0, c1, c2]) rfl ⟨_, rfl, (HRD.out.keep fun p hp => ?_).more fun b hb => ?_, ((HB3.out.setCell (p := ⟨w.heap.size, 0, none⟩) (Nat.le_refl _) _).setCell (p := ⟨w.heap.size, 1, none⟩) (Nat.le_refl _) _).setCell (p := ⟨w.heap.size, 2, none⟩) (Nat.le_refl _) _⟩
  · have hp1 := hp.1
    rw [World.cell?_setCell_other _ _ _ _ (by intro e; subst e; simp at hp1; omega), World.cell?_setCell_other _ _ _ _ (by intro e; subst e; simp at hp1; omega), World.cell?_setCell_other _ _ _ _ (by intro e; subst e; simp at hp1; omega)]
  · have h1 := hb.1
    have h2 := hb.2
    exact ⟨by omega, by simp; omega⟩
end Go.Proofs.YtfmlpaplnkohpaaGreatDoor

namespace Go.Proofs.YtfmlpaplnkohpaaGreatDoor
open Go.RowKit
theorem rdCo_nx {w w' : World} {v : Value} {xs : List Co} (h : RdCo w (· < w.heap.size) v xs) (hb : Below w.heap.size w w') : RdCo w' (· < w'.heap.size) v xs :=
  (h.keep fun p (hp : p.block < w.heap.size) => hb.cell (p := p) hp).more fun b (hb' : b < w.heap.size) => Nat.lt_of_lt_of_le hb' hb.size
theorem find_mem {v : Value} {ts : List Ta} {B : Nat} {w : World} (h : ListV ts) (hv : RdTa w (· < B) v ts) (hB : B ≤ w.heap.size) {t : Ta} (ht : t ∈ ts) : Calls Tryz.prog 97 #[v, .int .i64 t.id] w (FindT w t) := by
  obtain ⟨i, hi, rfl⟩ := List.getElem_of_mem ht
  have e : ts[i] = ts.getD i Ta.z := by simp [List.getD, hi]
  rw [e]
  have hl := h.1
  obtain ⟨-, -, -, h64, n, hn, hc⟩ := h.2.1 _ ht
  rw [e] at h64 hc
  exact table_FindT v ts B i w hi (fun j hj => by have := ids_up h.2.2 hj hi; omega) (by omega) hv hB (by omega) (fun x hx => by have := (hc x hx).2.1; omega)
set_option maxRecDepth 100000 in
set_option maxHeartbeats 4000000 in
theorem lin_right (ts : List Ta) (v : Value) (x : Lk) (a b : Ta) (oa : Option Addr) (oc B : Nat) (w : World) (h : ListV ts) (ha : a ∈ ts) (hb : b ∈ ts) (hfa : Few a.cols) (e1 : a.id = x.src) (e2 : b.id = x.dst) (hg : grT a b = true) (hcan : canRun a.cols x.ops = true) (hrun : runL a.cols x.ops = b.cols) (hlen : x.ops.length ≤ 4)
    (hv : RdTa w (· < B) v ts) (hx : RdPo w (· < B) (.slice oa x.ops.length oc) x.ops) (hB : B ≤ w.heap.size) (hT : Tabs w) :
    Calls Tryz.prog 58 #[v, .agg #[.int .i64 x.src, .int .i64 x.dst, .slice oa x.ops.length oc]] w (Ret w (.bool true)) := by
  have HFA := hid (fun W (hW : Below w.heap.size w W) => find_mem h (hv.keep (w' := W) fun p (hp : p.block < B) => hW.cell (p := p) (by omega)) (Nat.le_trans hB hW.size) ha)
  have HFB := hid (fun W (hW : Below w.heap.size w W) => find_mem h (hv.keep (w' := W) fun p (hp : p.block < B) => hW.cell (p := p) (by omega)) (Nat.le_trans hB hW.size) hb)
  have hne : a.id ≠ b.id := fun e => by
    have := id_inj h.2.2 ha hb e
    subst this
    rw [grT_irrefl] at hg
    cases hg
  have HVA := hid (h.2.1 _ ha)
  have HVB := hid (h.2.1 _ hb)
  have HG := hid hg
  have HCAN := hid hcan
  have HRUN := hid hrun
  have HX := hid (fun W (hW : Below w.heap.size w W) => (hx.keep (w' := W) fun p (hp : p.block < B) => hW.cell (p := p) (by omega)).more (S' := (· < W.heap.size)) (fun b (hb : b < B) => by show b < W.heap.size; have := hW.size; omega))
  have HFW := hid hfa
  have HT := hid hT
  obtain ⟨tv, ⟨va, vc, rfl, -⟩, -⟩ := hv
  obtain ⟨ia, na, xa⟩ := a
  obtain ⟨ib, nb, xb⟩ := b
  obtain ⟨xs, xd, xo⟩ := x
  simp only at e1 e2 hne HFW HCAN HRUN HX hlen ⊢
  subst e1 e2
  clear h ha hb hfa hg hcan hrun hx hT
  generalize ts.length = M at *
  obtain ⟨l, hl⟩ : ∃ l, l = xo.length := ⟨_, rfl⟩
  rw [← hl] at HX hlen
  rw [← hl]
  have HL := hid hl.symm
  clear hl
  have hneb : (ia == ib) = false := by simpa using hne
  have HB0 := hid ((Below.refl w.heap.size w).alloc (Nat.le_refl _) (.cells #[.int .i64 ia, .int .i64 ib, .slice oa l oc] 66))
  have HBX := hid (BoxN.new w #[.int .i64 ia, .int .i64 ib, .slice oa l oc] 66)
  have x0 := HBX.out.cell 0 rfl
  go_enter Tryz.func58, Tryz.ntmps58
  go_wp2_with fail
  clear x0
  with_reducible refine (HFA.out _ HB0.out).mono ?_
  generalize w.alloc (.cells #[.int .i64 ia, .int .i64 ib, .slice oa l oc] 66) = W0 at *
  have hw0 := HB0.out.size
  rintro e w1 ⟨ua, rfl, hra, hb1⟩
  simp only at hra ⊢
  obtain ⟨p1, c1, rfl⟩ := rdCo_len hra
  obtain ⟨la, hla⟩ : ∃ la, la = xa.length := ⟨_, rfl⟩
  rw [← hla] at hra
  rw [← hla]
  clear hla
  have HB1 := hid (HB0.out.trans (hb1.mono hw0))
  have hbx1 := HBX.out.below hb1 HBX.out.lt
  have hs2 := (Below.refl w1.heap.size w1).alloc (Nat.le_refl _) (.cells #[.int .i64 ia, .string na, .slice p1 la c1] 29)
  have hbxl := hbx1.lt
  have HBX2 := hid (hbx1.below hs2 hbxl)
  have HBA2 := hid (BoxN.new w1 #[.int .i64 ia, .string na, .slice p1 la c1] 29)
  have HB2 := hid (HB1.out.trans (hs2.mono HB1.out.size))
  have HRA2 := hid (rdCo_nx (hra.more (S' := (· < w1.heap.size)) fun b hb => hb.2) hs2)
  have x1 := HBX2.out.cell 1 rfl
  clear hb1 hbx1 hs2 hra
  go_wp2_with fail
  clear x1
  with_reducible refine (HFB.out _ HB2.out).mono ?_
  generalize w1.alloc (.cells #[.int .i64 ia, .string na, .slice p1 la c1] 29) = W2 at *
  rintro e w3 ⟨ub, rfl, hrb, hb3⟩
  simp only at hrb ⊢
  obtain ⟨p3, c3, rfl⟩ := rdCo_len hrb
  obtain ⟨lb, hlb⟩ : ∃ lb, lb = xb.length := ⟨_, rfl⟩
  rw [← hlb] at hrb
  rw [← hlb]
  clear hlb
  have HB3 := hid (HB2.out.trans (hb3.mono HB2.out.size))
  have hs4 := hb3.trans (((Below.refl w3.heap.size w3).alloc (Nat.le_refl _) (.cells #[.int .i64 ib, .string nb, .slice p3 lb c3] 29)).mono hb3.size)
  have hs4' := (Below.refl w3.heap.size w3).alloc (Nat.le_refl _) (.cells #[.int .i64 ib, .string nb, .slice p3 lb c3] 29)
  have HBX4 := hid (HBX2.out.below hs4 HBX2.out.lt)
  have HBA4 := hid (HBA2.out.below hs4 HBA2.out.lt)
  have HBB4 := hid (BoxN.new w3 #[.int .i64 ib, .string nb, .slice p3 lb c3] 29)
  have HB4 := hid (HB3.out.trans (hs4'.mono HB3.out.size))
  have HRA4 := hid (rdCo_nx HRA2.out hs4)
  have HRB4 := hid (rdCo_nx (hrb.more (S' := (· < w3.heap.size)) fun b hb => hb.2) hs4')
  have HGR := hid (lin_greater ⟨ia, na, xa⟩ ⟨ib, nb, xb⟩ (.slice p1 la c1) (.slice p3 lb c3) _ _ HRA4.out HRB4.out (Nat.le_refl _) HVA.out.cnt HVB.out.cnt)
  rw [HG.out] at HGR
  simp only at HGR
  have x0 := HBX4.out.cell 0 rfl
  have x1 := HBX4.out.cell 1 rfl
  have y0 := HBA4.out.cell 0 rfl
  have y1 := HBA4.out.cell 1 rfl
  have y2 := HBA4.out.cell 2 rfl
  have z0 := HBB4.out.cell 0 rfl
  have z1 := HBB4.out.cell 1 rfl
  have z2 := HBB4.out.cell 2 rfl
  clear hb3 hs4 hs4' hrb
  go_wp2_with fail
  clear x0 x1 y0 y1 y2 z0 z1 z2
  with_reducible refine HGR.out.mono ?_
  generalize w3.alloc (.cells #[.int .i64 ib, .string nb, .slice p3 lb c3] 29) = W4 at *
  rintro e w5 ⟨rfl, hb5⟩
  have HB5 := hid (HB4.out.trans (hb5.mono HB4.out.size))
  have HBX5 := hid (HBX4.out.below hb5 HBX4.out.lt)
  have HBA5 := hid (HBA4.out.below hb5 HBA4.out.lt)
  have HBB5 := hid (HBB4.out.below hb5 HBB4.out.lt)
  have HRA5 := hid (rdCo_nx HRA4.out hb5)
  have HRB5 := hid (rdCo_nx HRB4.out hb5)
  have HRN := hid (expl_Run ⟨ia, na, xa⟩ (.slice p1 la c1) (.slice oa l oc) xo w5.heap.size w5 HVA.out HFW.out HRA5.out (HX.out w5 HB5.out) (Nat.le_refl _) (HT.out.below HB5.out) HCAN.out (by rw [HL.out]; omega))
  simp only at HRN
  rw [HRUN.out] at HRN
  have x2 := HBX5.out.cell 2 rfl
  have y0 := HBA5.out.cell 0 rfl
  have y1 := HBA5.out.cell 1 rfl
  have y2 := HBA5.out.cell 2 rfl
  clear hb5 HGR
  go_wp2_with fail
  clear x2 y0 y1 y2
  with_reducible refine HRN.out.mono ?_
  rintro e w6 ⟨y6, rfl, hrd6, hb6⟩
  obtain ⟨p6, c6, rfl⟩ := rdCo_len hrd6
  obtain ⟨l6, hl6⟩ : ∃ l6, l6 = xb.length := ⟨_, rfl⟩
  rw [← hl6] at hrd6
  rw [← hl6]
  clear hl6
  have HB6 := hid (HB5.out.trans (hb6.mono HB5.out.size))
  have hs7 := (Below.refl w6.heap.size w6).alloc (Nat.le_refl _) (.cells #[.int .i64 ia, .string na, .slice p6 l6 c6] 29)
  have hs57 := hb6.trans (hs7.mono hb6.size)
  have HB7 := hid (HB6.out.trans (hs7.mono HB6.out.size))
  have HBB7 := hid (HBB5.out.below hs57 HBB5.out.lt)
  have HBT7 := hid (BoxN.new w6 #[.int .i64 ia, .string na, .slice p6 l6 c6] 29)
  have HAL := hid (expl_Alike ia ib na nb (.slice p6 l6 c6) (.slice p3 lb c3) xb xb _ _ (rdCo_nx (hrd6.more (S' := (· < w6.heap.size)) fun b hb => hb.2) hs7) (rdCo_nx HRB5.out hs57) (Nat.le_refl _))
  rw [decide_eq_true rfl] at HAL
  have x0 := HBT7.out.cell 0 rfl
  have x1 := HBT7.out.cell 1 rfl
  have x2 := HBT7.out.cell 2 rfl
  have z0 := HBB7.out.cell 0 rfl
  have z1 := HBB7.out.cell 1 rfl
  have z2 := HBB7.out.cell 2 rfl
  clear hb6 hs7 hs57 hrd6 HRN
  go_wp2_with fail
  clear x0 x1 x2 z0 z1 z2
  with_reducible refine HAL.out.mono ?_
  rintro e w8 ⟨rfl, hb8⟩
  have HB8 := hid (HB7.out.trans (hb8.mono HB7.out.size))
  clear hb8
  go_wp2
  go_ret
  exact ⟨rfl, HB8.out⟩
end Go.Proofs.YtfmlpaplnkohpaaGreatDoor

namespace Go.Proofs.YtfmlpaplnkohpaaGreatDoor
open Go.RowKit
def RightL (ts : List Ta) (x : Lk) : Prop := ∃ a ∈ ts, ∃ b ∈ ts, Few a.cols ∧ a.id = x.src ∧ b.id = x.dst ∧ grT a b = true ∧ canRun a.cols x.ops = true ∧ runL a.cols x.ops = b.cols ∧ x.ops.length ≤ 4
set_option maxRecDepth 100000 in
set_option maxHeartbeats 4000000 in
theorem lin_Check (ts : List Ta) (xs : List Lk) (v u : Value) (B : Nat) (w : World) (h : ListV ts) (hr : ∀ x ∈ xs, RightL ts x) (hs : xs.Pairwise fun a b => a.dst < b.dst) (hl : xs.length ≤ 1048576) (hv : RdTa w (· < B) v ts) (hu : RdLk w (· < B) u xs) (hB : B ≤ w.heap.size) (hT : Tabs w) :
    Calls Tryz.prog 29 #[v, u] w (Ret w (.bool true)) := by
  obtain ⟨ua, uc, rfl, huc, hum⟩ := rdLk_len hu
  have HU := hid hu
  have HV := hid (fun W (hW : Below w.heap.size w W) => hv.keep (w' := W) fun p (hp : p.block < B) => hW.cell (p := p) (by omega))
  have HRI := hid (fun q (hq : q < xs.length) oa oc W (hW : Below w.heap.size w W) (hx : RdPo W (· < B) (.slice oa (xs.getD q Lk.z).ops.length oc) (xs.getD q Lk.z).ops) => (by
    obtain ⟨a, ha, b, hb, hf, e1, e2, hg, hc, hn, h4⟩ := hr _ (getD_mem hq Lk.z)
    exact lin_right ts v _ a b oa oc B W h ha hb hf e1 e2 hg hc hn h4 (HV.out W hW) hx (Nat.le_trans hB hW.size) (hT.below hW) :
    Calls Tryz.prog 58 #[v, .agg #[.int .i64 (xs.getD q Lk.z).src, .int .i64 (xs.getD q Lk.z).dst, .slice oa (xs.getD q Lk.z).ops.length oc]] W (Ret W (.bool true))))
  have HTO := hid (fun q (hq : q < xs.length) W (hW : Below w.heap.size w W) => (by
    have h1 := lin_to (.slice ua q uc) (xs.take q) B (xs.getD q Lk.z).dst W (by have := List.length_take_le q xs; omega) ((hu.take (q := q) (by omega)).keep fun p (hp : p.block < B) => hW.cell (p := p) (by omega)) (Nat.le_trans hB hW.size)
    have h2 : toL (xs.take q) (xs.getD q Lk.z).dst = none := toL_out fun j hj e => by
      have hlt : j < q := by rw [List.length_take] at hj; omega
      have h3 := List.pairwise_iff_getElem.1 hs j q (by omega) hq hlt
      simp [List.getD, List.getElem?_take, hlt, hq, show j < xs.length by omega] at e
      omega
    unfold ToP at h1
    rw [h2] at h1
    exact h1.mono fun e w' h => ⟨h.2, h.1⟩ :
    Calls Tryz.prog 57 #[.slice ua q uc, .int .i64 (xs.getD q Lk.z).dst] W (Ret W (.tuple #[.agg #[.int .i64 0, .int .i64 0, .slice none 0 0], .bool false]))))
  obtain ⟨tv, ⟨va, vc, rfl, -⟩, -⟩ := hv
  clear hu h hr hs hT HV
  generalize ts.length = M at *
  generalize hxl : xs.length = L at *
  have HXL := hid hxl
  clear hxl
  go_enter Tryz.func29, Tryz.ntmps29
  go_wp2_with fail
  go_loopg [11] L (fun N i wr => ∃ q : Nat, i = .int .i64 (q : Int) ∧ q + N = L ∧ Hid (Below w.heap.size w wr))
  case atStart => exact ⟨0, rfl, by omega, hid (Below.refl _ _)⟩
  case round =>
    obtain ⟨q, rfl, hq, HB⟩ := hrel
    have hwz := HB.out.size
    by_cases hp : 0 < gk
    · have hqL : q < L := by omega
      have hrx := HU.out.keep (w' := wr) fun p (hp : p.block < B) => HB.out.cell (p := p) (by omega)
      obtain ⟨b, o, c3, y, e3, hb, hpo, k0, k1, k2⟩ := lk_at hrx (q := q) (by rw [HXL.out]; exact hqL)
      rw [HXL.out] at e3
      obtain ⟨rfl, -, rfl⟩ := Value.slice.inj e3
      obtain ⟨oa, oc, rfl⟩ := rdPo_len hpo
      have HRQ := hid (fun W hW hx => HRI.out q hqL oa oc W hW hx)
      have HTQ := hid (HTO.out q hqL)
      have HPO := hid (fun W (hW : Below wr.heap.size wr W) => hpo.keep (w' := W) fun p (hp : p.block < B) => hW.cell (p := p) (by omega))
      have hqi : (q : Int) < (L : Int) := by omega
      have hqc : (q : Int) ≤ (uc : Int) := by omega
      clear e3 hb hrx hpo
      generalize xs.getD q Lk.z = x at *
      obtain ⟨sx, dx, ox⟩ := x
      simp only at k0 k1 k2 HRQ HTQ HPO
      generalize ox.length = l at *
      obtain ⟨W2, hW2⟩ : ∃ W2, W2 = wr.alloc (.cells #[.int .i64 sx, .int .i64 dx, .slice oa l oc] 66) := ⟨_, rfl⟩
      have hbx := BoxN.new wr #[.int .i64 sx, .int .i64 dx, .slice oa l oc] 66
      have hsx := (Below.refl wr.heap.size wr).alloc (Nat.le_refl _) (.cells #[.int .i64 sx, .int .i64 dx, .slice oa l oc] 66)
      go_upto_region 4 with fail
      rw [← hW2] at hbx hsx ⊢
      have HB2 := hid (HB.out.trans (hsx.mono hwz))
      have HBX := hid hbx
      have HSX := hid hsx
      have hw2 := hsx.size
      have x1 := hbx.cell 1 rfl
      have hd2 : Below W2.heap.size W2 W2.drew := (Below.refl _ _).drew
      have ha2 := ((Below.refl W2.heap.size W2).alloc (Nat.le_refl _) (.cells #[.int .i64 0, .int .i64 0, .slice none 0 0] 66)).drew
      have x2 := (HBX.out.below ha2 HBX.out.lt).cell 1 rfl
      have HTA := hid (HTQ.out W2.drew (HB2.out.trans (hd2.mono HB2.out.size)))
      have HTB := hid (HTQ.out _ (HB2.out.trans (ha2.mono HB2.out.size)))
      have HLB := hid ((BoxN.new W2 #[.int .i64 0, .int .i64 0, .slice none 0 0] 66).drewN 1)
      have HD2 := hid hd2
      have HA2 := hid ha2
      clear hbx hsx hd2 ha2 hW2 k0 k1 k2
      go_region_law (first
        | (go_simp; go_at_call 57; go_must (first
          | ((with_reducible refine HTA.out.mono ?_); rintro e w5 ⟨rfl, hb5⟩; have H5 : Hid (Below W2.heap.size W2 w5) := hid (HD2.out.trans hb5); clear hb5)
          | ((with_reducible refine HTB.out.mono ?_); rintro e w5 ⟨rfl, hb5⟩; have H5 : Hid (Below W2.heap.size W2 w5) := hid (HA2.out.trans (hb5.mono HA2.out.size)); have hlb := HLB.out.below hb5 HLB.out.lt; have z0 := hlb.cell 0 rfl; have z1 := hlb.cell 1 rfl; have z2 := hlb.cell 2 rfl; have g0 := hlb.frozen 0; have g1 := hlb.frozen 1; have g2 := hlb.frozen 2; clear hb5 hlb))))
      all_goals
        first
          | (obtain ⟨W6, hW6⟩ : ∃ W6, W6 = w5.alloc (.cells #[.int .i64 0, .int .i64 0, .slice none 0 0] 66) := ⟨_, rfl⟩; rw [← hW6]; have H6 : Hid (Below W2.heap.size W2 W6) := hid (by rw [hW6]; exact H5.out.alloc H5.out.size _); clear hW6)
          | (obtain ⟨W6, hW6⟩ : ∃ W6, W6 = ((w5.setCell ⟨W2.heap.size, 0, none⟩ (.int .i64 0)).setCell ⟨W2.heap.size, 1, none⟩ (.int .i64 0)).setCell ⟨W2.heap.size, 2, none⟩ (.slice none 0 0) := ⟨_, rfl⟩; rw [← hW6]; have H6 : Hid (Below W2.heap.size W2 W6) := hid (by rw [hW6]; exact ((H5.out.setCell (p := ⟨W2.heap.size, 0, none⟩) (Nat.le_refl _) _).setCell (p := ⟨W2.heap.size, 1, none⟩) (Nat.le_refl _) _).setCell (p := ⟨W2.heap.size, 2, none⟩) (Nat.le_refl _) _); clear hW6)
        clear x1 x2
        have hx6 := HBX.out.below H6.out HBX.out.lt
        have HRR := hid (HRQ.out W6 (HB2.out.trans (H6.out.mono HB2.out.size)) (HPO.out W6 (HSX.out.trans (H6.out.mono hw2))))
        have x0 := hx6.cell 0 rfl
        have x1 := hx6.cell 1 rfl
        have x2 := hx6.cell 2 rfl
        clear hx6
        go_wp2_with fail
        with_reducible refine HRR.out.mono ?_
        rintro e w7 ⟨rfl, hb7⟩
        have H7 := hid (HB2.out.trans ((H6.out.trans (hb7.mono H6.out.size)).mono HB2.out.size))
        clear hb7 x0 x1 x2
        go_wp2
        go_roundg (gk - 1)
        case rel => exact ⟨q + 1, by go_num, by omega, H7⟩
        case measure => omega
    · obtain rfl : gk = 0 := by omega
      obtain rfl : L = q := by omega
      go_wp2
      go_ret
      exact ⟨rfl, HB.out⟩
end Go.Proofs.YtfmlpaplnkohpaaGreatDoor

namespace Go.Proofs
open Go.Shelf
def Tryz.sortInt_ren : Go.Shelf.Ren := ⟨fun | 5 => 59 | 8 => 93 | 7 => 98 | 19 => 131 | 20 => 132 | 10 => 137 | 11 => 138 | 12 => 139 | 13 => 140 | 14 => 141 | 15 => 142 | 16 => 143 | 17 => 144 | 18 => 145 | 30 => 169 | 31 => 163 | 32 => 164 | 33 => 170 | 34 => 171 | 35 => 94 | 40 => 182 | n => n, fun | 23 => 22 | 25 => 3 | 3 => 3 | 32 => 122 | 22 => 22 | 0 => 0 | 44 => 151 | 46 => 153 | 4 => 4 | 36 => 144 | 35 => 143 | 41 => 148 | 5 => 5 | 9 => 9 | 53 => 173 | 57 => 177 | 63 => 195 | 64 => 196 | n => n, fun | n => n⟩
theorem Tryz.sortInt : Go.Proofs.SlLaysM.n5 Tryz.prog Tryz.sortInt_ren := {
  mixed := by kernel_rfl
  f5 := ⟨Tryz.f59.name, by decide, Tryz.func59.trans (congrArg some (by kernel_rfl))⟩
  f7 := ⟨Tryz.f98.name, by decide, Tryz.func98.trans (congrArg some (by kernel_rfl))⟩
  f8 := Tryz.func93.trans (congrArg some (by kernel_rfl))
  f10 := ⟨Tryz.f137.name, by decide, Tryz.func137.trans (congrArg some (by kernel_rfl))⟩
  f11 := ⟨Tryz.f138.name, by decide, Tryz.func138.trans (congrArg some (by kernel_rfl))⟩
  f12 := ⟨Tryz.f139.name, by decide, Tryz.func139.trans (congrArg some (by kernel_rfl))⟩
  f13 := ⟨Tryz.f140.name, by decide, Tryz.func140.trans (congrArg some (by kernel_rfl))⟩
  f14 := ⟨Tryz.f141.name, by decide, Tryz.func141.trans (congrArg some (by kernel_rfl))⟩
  f15 := ⟨Tryz.f142.name, by decide, Tryz.func142.trans (congrArg some (by kernel_rfl))⟩
  f16 := ⟨Tryz.f143.name, by decide, Tryz.func143.trans (congrArg some (by kernel_rfl))⟩
  f17 := ⟨Tryz.f144.name, by decide, Tryz.func144.trans (congrArg some (by kernel_rfl))⟩
  f18 := ⟨Tryz.f145.name, by decide, Tryz.func145.trans (congrArg some (by kernel_rfl))⟩
  f19 := Tryz.func131.trans (congrArg some (by kernel_rfl))
  f20 := Tryz.func132.trans (congrArg some (by kernel_rfl))
  f30 := ⟨Tryz.f169.name, by decide, Tryz.func169.trans (congrArg some (by kernel_rfl))⟩
  f31 := Tryz.func163.trans (congrArg some (by kernel_rfl))
  f32 := Tryz.func164.trans (congrArg some (by kernel_rfl))
  f33 := ⟨Tryz.f170.name, by decide, Tryz.func170.trans (congrArg some (by kernel_rfl))⟩
  f34 := ⟨Tryz.f171.name, by decide, Tryz.func171.trans (congrArg some (by kernel_rfl))⟩
  f35 := ⟨Tryz.f94.name, by decide, Tryz.func94.trans (congrArg some (by kernel_rfl))⟩
  f40 := ⟨Tryz.f182.name, by decide, Tryz.func182.trans (congrArg some (by kernel_rfl))⟩
  t0 := Tryz.underlying0
  a0 := Tryz.isAgg0
  z0 := Tryz.sizeOf0
  v0 := Tryz.zeroValue0
  t3 := Tryz.underlying3
  a3 := Tryz.isAgg3
  z3 := Tryz.sizeOf3
  v3 := Tryz.zeroValue3
  t4 := Tryz.underlying4
  a4 := Tryz.isAgg4
  z4 := Tryz.sizeOf4
  v4 := Tryz.zeroValue4
  t5 := Tryz.underlying5
  a5 := Tryz.isAgg5
  z5 := Tryz.sizeOf5
  v5 := Tryz.zeroValue5
  t9 := Tryz.underlying9
  a9 := Tryz.isAgg9
  z9 := Tryz.sizeOf9
  v9 := Tryz.zeroValue9
  t22 := Tryz.underlying22
  a22 := Tryz.isAgg22
  z22 := Tryz.sizeOf22
  v22 := Tryz.zeroValue22
  t23 := Tryz.underlying22
  a23 := Tryz.isAgg22
  z23 := Tryz.sizeOf22
  v23 := Tryz.zeroValue22
  t25 := Tryz.underlying3
  a25 := Tryz.isAgg3
  z25 := Tryz.sizeOf3
  v25 := Tryz.zeroValue3
  t32 := Tryz.underlying122
  a32 := Tryz.isAgg122
  z32 := Tryz.sizeOf122
  v32 := Tryz.zeroValue122
  t35 := Tryz.underlying143
  a35 := Tryz.isAgg143
  z35 := Tryz.sizeOf143
  v35 := Tryz.zeroValue143
  t36 := Tryz.underlying144
  a36 := Tryz.isAgg144
  z36 := Tryz.sizeOf144
  v36 := Tryz.zeroValue144
  t41 := Tryz.underlying148
  a41 := Tryz.isAgg148
  z41 := Tryz.sizeOf148
  v41 := Tryz.zeroValue148
  t44 := Tryz.underlying151
  a44 := Tryz.isAgg151
  z44 := Tryz.sizeOf151
  v44 := Tryz.zeroValue151
  t46 := Tryz.underlying153
  a46 := Tryz.isAgg153
  z46 := Tryz.sizeOf153
  v46 := Tryz.zeroValue153
  t53 := Tryz.underlying173
  a53 := Tryz.isAgg173
  z53 := Tryz.sizeOf173
  v53 := Tryz.zeroValue173
  t57 := Tryz.underlying177
  a57 := Tryz.isAgg177
  z57 := Tryz.sizeOf177
  v57 := Tryz.zeroValue177
  t63 := Tryz.underlying195
  a63 := Tryz.isAgg195
  z63 := Tryz.sizeOf195
  v63 := Tryz.zeroValue195
  t64 := Tryz.underlying196
  a64 := Tryz.isAgg196
  z64 := Tryz.sizeOf196
  v64 := Tryz.zeroValue196 }
end Go.Proofs

namespace Go.Proofs.YtfmlpaplnkohpaaGreatDoor
open Go.RowKit
theorem rdPo_max {w : World} {S : Nat → Prop} {v : Value} {os : List Po} (h : RdPo w S v os) : os.length ≤ 9223372036854775807 := by
  obtain ⟨uv, ⟨a, c, -, h1, h2, -⟩, -⟩ := h
  unfold maxLen at h2
  omega
theorem rdKs_max {w : World} {S : Nat → Prop} {v : Value} {os : List Int} (h : RdKs w S v os) : os.length ≤ 9223372036854775807 := by
  obtain ⟨a, c, -, h1, h2, -⟩ := h
  unfold maxLen at h2
  omega
theorem ks_at {w : World} {S : Nat → Prop} {v : Value} {ks : List Int} (h : RdKs w S v ks) {k : Nat} (hk : k < ks.length) : ∃ b o c, v = .slice (some ⟨b, o, none⟩) ks.length c ∧ S b ∧ w.cell? ⟨b, o + k, none⟩ = some (.int .i64 (ks.getD k 0)) := by
  obtain ⟨a, c, e, -, -, hr⟩ := h
  obtain ⟨b, o, rfl, hb, hc⟩ := hr (by omega)
  refine ⟨b, o, c, e, hb, ?_⟩
  have := hc k hk 0 (by omega)
  simpa [zF] using this
set_option maxRecDepth 100000 in
set_option maxHeartbeats 4000000 in
theorem ref_SameOps (u v : Value) (os : List Po) (B : Nat) (w : World) (hu : RdPo w (· < B) u os) (hv : RdPo w (· < B) v os) (hB : B ≤ w.heap.size) :
    Calls Tryz.prog 18 #[u, v] w (Ret w (.bool true)) := by
  have HU := hid hu
  have HV := hid hv
  obtain ⟨ua, uc, rfl⟩ := rdPo_len hu
  obtain ⟨va, vc, rfl⟩ := rdPo_len hv
  have hmx := rdPo_max hu
  clear hu hv
  generalize hl : os.length = L at *
  have HL := hid hl
  clear hl
  go_enter Tryz.func18, Tryz.ntmps18
  go_wp2_with fail
  go_loopg [17] L (fun N i wr => ∃ q : Nat, q + N = L ∧ i = .int .i64 (q : Int) ∧ Hid (Below w.heap.size w wr))
  case atStart => exact ⟨0, by omega, rfl, hid (Below.refl _ _)⟩
  case round =>
    obtain ⟨q, hq, rfl, HB⟩ := hrel
    by_cases hp : 0 < gk
    · have hqL : q < L := by omega
      obtain ⟨go, rfl⟩ : ∃ go, go = gk := ⟨gk, rfl⟩
      have hws := HB.out.size
      obtain ⟨b, o, c, uv, hl, hb, hks, -, -, k0, k1, k2, k3⟩ := rdPo_at (HU.out.keep (w' := wr) fun p (hp : p.block < B) => HB.out.cell (p := p) (by omega)) (q := q) (by rw [HL.out]; exact hqL)
      obtain ⟨b', o', c', uv', hl', hb', hks', -, -, m0, m1, m2, m3⟩ := rdPo_at (HV.out.keep (w' := wr) fun p (hp : p.block < B) => HB.out.cell (p := p) (by omega)) (q := q) (by rw [HL.out]; exact hqL)
      obtain ⟨rfl, -, rfl⟩ := Value.slice.inj hl
      obtain ⟨rfl, -, rfl⟩ := Value.slice.inj hl'
      have hbB : b < wr.heap.size := by have : b < B := hb; omega
      have hbB' : b' < wr.heap.size := by have : b' < B := hb'; omega
      have HK := hid hks
      have HK' := hid hks'
      obtain ⟨oa, oc, rfl⟩ : ∃ a c, uv = .slice a (os.getD q Po.z).cols.length c := by
        obtain ⟨a, c, e, -⟩ := hks
        exact ⟨a, c, e⟩
      obtain ⟨oa', oc', rfl⟩ : ∃ a c, uv' = .slice a (os.getD q Po.z).cols.length c := by
        obtain ⟨a, c, e, -⟩ := hks'
        exact ⟨a, c, e⟩
      have hmk := rdKs_max hks
      clear hl hl' hb hb' hks hks'
      generalize os.getD q Po.z = P at *
      obtain ⟨kind, col, text, cols⟩ := P
      simp only at k0 k1 k2 k3 m0 m1 m2 m3 HK HK' hmk
      generalize hnn : cols.length = nn at *
      have HNN := hid hnn
      clear hnn
      have hce : ∀ O : Obj, ∀ p : Addr, p.block < wr.heap.size → (wr.alloc O).cell? p = wr.cell? p := fun O p hp => World.cell?_alloc_lt _ _ _ hp
      have n0 := (hce (.cells #[.int .i64 kind, .int .i64 col, .string text, .slice oa nn oc] 47) ⟨b', o' + q * 4, none⟩ hbB').trans m0
      have n1 := (hce (.cells #[.int .i64 kind, .int .i64 col, .string text, .slice oa nn oc] 47) ⟨b', o' + q * 4 + 1, none⟩ hbB').trans m1
      have n2 := (hce (.cells #[.int .i64 kind, .int .i64 col, .string text, .slice oa nn oc] 47) ⟨b', o' + q * 4 + 2, none⟩ hbB').trans m2
      have n3 := (hce (.cells #[.int .i64 kind, .int .i64 col, .string text, .slice oa nn oc] 47) ⟨b', o' + q * 4 + 3, none⟩ hbB').trans m3
      have HQ := hid ((BoxN.new wr #[.int .i64 kind, .int .i64 col, .string text, .slice oa nn oc] 47).alloc (.cells #[.int .i64 kind, .int .i64 col, .string text, .slice oa' nn oc'] 47))
      have hr := BoxN.new (wr.alloc (.cells #[.int .i64 kind, .int .i64 col, .string text, .slice oa nn oc] 47)) #[.int .i64 kind, .int .i64 col, .string text, .slice oa' nn oc'] 47
      rw [World.size_alloc] at hr
      have HR := hid hr
      have HB2 := hid ((HB.out.alloc hws (.cells #[.int .i64 kind, .int .i64 col, .string text, .slice oa nn oc] 47)).alloc (by simp; omega) (.cells #[.int .i64 kind, .int .i64 col, .string text, .slice oa' nn oc'] 47))
      have HBN := hid (((Below.refl wr.heap.size wr).alloc (Nat.le_refl _) (.cells #[.int .i64 kind, .int .i64 col, .string text, .slice oa nn oc] 47)).alloc (by simp) (.cells #[.int .i64 kind, .int .i64 col, .string text, .slice oa' nn oc'] 47))
      have q0 := HQ.out.cell 0 rfl
      have q1 := HQ.out.cell 1 rfl
      have q2 := HQ.out.cell 2 rfl
      have q3 := HQ.out.cell 3 rfl
      have r0 := hr.cell 0 rfl
      have r1 := hr.cell 1 rfl
      have r2 := hr.cell 2 rfl
      have r3 := hr.cell 3 rfl
      have ht : (text.toList == text.toList) = true := by simp
      clear hce hr
      generalize hLB : Code.loop _ = LB
      go_wp2_with fail
      generalize (wr.alloc (.cells #[.int .i64 kind, .int .i64 col, .string text, .slice oa nn oc] 47)).alloc (.cells #[.int .i64 kind, .int .i64 col, .string text, .slice oa' nn oc'] 47) = W2 at *
      subst hLB
      clear q0 q1 q2 q3 r0 r1 r2 r3 k0 k1 k2 k3 m0 m1 m2 m3 n0 n1 n2 n3
      go_loopg [57] nn (fun N i W => ∃ k : Nat, k + N = nn ∧ i = .int .i64 (k : Int) ∧ Hid (Below W2.heap.size W2 W))
      case atStart => exact ⟨0, by omega, rfl, hid (Below.refl _ _)⟩
      case round =>
        obtain ⟨k, hk, rfl, HBI⟩ := hrel
        by_cases hpk : 0 < gk
        · have hkn : k < nn := by omega
          have hn2 := HBN.out.size
          obtain ⟨b5, o5, c5, e5, hb5, h5⟩ := ks_at HK.out (k := k) (by rw [HNN.out]; exact hkn)
          obtain ⟨b6, o6, c6, e6, hb6, h6⟩ := ks_at HK'.out (k := k) (by rw [HNN.out]; exact hkn)
          obtain ⟨rfl, -, rfl⟩ := Value.slice.inj e5
          obtain ⟨rfl, -, rfl⟩ := Value.slice.inj e6
          have hb5' : b5 < B := hb5
          have hb6' : b6 < B := hb6
          have s0 := (HBI.out.cell (p := ⟨b5, o5 + k, none⟩) (by show b5 < _; omega)).trans ((HBN.out.cell (p := ⟨b5, o5 + k, none⟩) (by show b5 < _; omega)).trans h5)
          have s1 := (HBI.out.cell (p := ⟨b6, o6 + k, none⟩) (by show b6 < _; omega)).trans ((HBN.out.cell (p := ⟨b6, o6 + k, none⟩) (by show b6 < _; omega)).trans h6)
          have s2 := (HR.out.below HBI.out HR.out.lt).cell 3 rfl
          clear e5 e6 h5 h6
          generalize cols.getD k 0 = z at *
          go_wp2
          go_roundg (gk - 1)
          case rel => exact ⟨k + 1, by omega, by go_num, HBI⟩
          case measure => omega
        · obtain rfl : gk = 0 := by omega
          obtain rfl : nn = k := by omega
          have HF := hid (HB2.out.trans (HBI.out.mono HB2.out.size))
          go_wp2
          go_roundg (go - 1)
          case rel => exact ⟨q + 1, by omega, by go_num, HF⟩
          case measure => omega
    · obtain rfl : q = L := by omega
      go_wp2
      go_ret
      exact ⟨rfl, HB.out⟩
end Go.Proofs.YtfmlpaplnkohpaaGreatDoor
