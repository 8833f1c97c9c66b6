/- Contract of the reference's Of (chapter 29): what GraphFrom needs of it. -/
import Derived.Deep.RegionHeld3
import Derived.Deep.Cut
import Derived.Deep.CutRange
import Derived.Test.YtaajpliifdlokaaGreatDoorGFrbe
import Derived.Test.YtaajpliifdlokaaGreatDoorGFrao
import Derived.Test.YtaajpliifdlokaaGreatDoorGFrap
import Derived.Test.YtaajpliifdlokaaGreatDoorGFrar
set_option linter.unusedVariables false
set_option linter.unusedSimpArgs false
namespace Go.Proofs.YtaajpliifdlokaaGreatDoor
open Go.RowKit
def GivesRw (w : World) (ia : Int) (i : Nat) (ib : Int) (j : Nat) (e : Ending) (w' : World) : Prop :=
  ∃ (co oa : Nat) (ob ma mb la lb : Int), e = .returned (.tuple #[(⟨ia, (i : Int), ib, (j : Int), (co : Int), (oa : Int), ob, ma, mb, la, lb⟩ : Rl).val, .int .i64 0]) ∧ co + oa ≤ 4096 ∧ Below w.heap.size w w'
theorem ranges_le {P : Program} {k : TypeId} {R : Value → Option (DataW Unit × List MemPlace)} {w : World} {b r n : Nat} {D : DataW Unit} {left : Lit → Bool} {cnt : Nat} (h : w.ranges P k R b r n D left cnt) : cnt ≤ n := by
  obtain ⟨es, clock, since, seen, c0, hb, F, hs, hD, hr, hx, hc, -⟩ := h
  rw [← hc]
  refine Nat.le_trans ?_ hs
  unfold leftOf
  exact Array.size_filter_le
theorem grown_put (w : World) (b i : Nat) (v : Value) : w.grownBy (w.setCell ⟨b, i, none⟩ v) (some b) :=
  ⟨rfl, rfl, rfl, by simp, fun k _ hk => Below.heap_setCell _ _ _ _ (fun e => hk (by rw [e]))⟩
set_option maxRecDepth 100000 in
set_option maxHeartbeats 8000000 in
theorem ref29_Of (a b : Ta) (u v : Value) (i j B : Nat) (w : World) (ha : TabV a) (hb : TabV b) (hi : i < a.cols.length) (hj : j < b.cols.length) (hu : RdCo w (· < B) u a.cols) (hv : RdCo w (· < B) v b.cols) (hB : B ≤ w.heap.size) (hT : Tabs w) :
  Calls Tryz.prog 52 #[.agg #[.int .i64 a.id, .string a.name, u], .int .i64 (i : Int), .agg #[.int .i64 b.id, .string b.name, v], .int .i64 (j : Int)] w (GivesRw w a.id i b.id j) := by
 have huk := fun W (hW : Below w.heap.size w W) => (hu.keep (w' := W) fun p (hp : p.block < B) => hW.cell (p := p) (by omega))
 have hvk := fun W (hW : Below w.heap.size w W) => (hv.keep (w' := W) fun p (hp : p.block < B) => hW.cell (p := p) (by omega))
 have HV1 := hid (fun W (hW : Below w.heap.size w W) => ref_ValidTab a u B W ha (huk W hW) (Nat.le_trans hB hW.size) (hT.below hW))
 have HV2 := hid (fun W (hW : Below w.heap.size w W) => ref_ValidTab b v B W hb (hvk W hW) (Nat.le_trans hB hW.size) (hT.below hW))
 have HR1 := hid (fun W (hW : Below w.heap.size w W) => ref03_Rows a.id a.name u a.cols B W (huk W hW) (Nat.le_trans hB hW.size))
 have HR2 := hid (fun W (hW : Below w.heap.size w W) => ref03_Rows b.id b.name v b.cols B W (hvk W hW) (Nat.le_trans hB hW.size))
 obtain ⟨b1, o1, c1, u1, rfl, hS1, hcl1, k0, k1⟩ := co_at hu hi
 obtain ⟨b2, o2, c2, u2, rfl, hS2, hcl2, l0, l1⟩ := co_at hv hj
 have hb1w : b1 < w.heap.size := Nat.lt_of_lt_of_le hS1 hB
 have hb2w : b2 < w.heap.size := Nat.lt_of_lt_of_le hS2 hB
 have HC1 : Hid (∀ W, Below w.heap.size w W → Calls Tryz.prog 96 #[.agg #[.string (a.cols.getD i Co.z).name, u1]] W (GivesC W (txC a i))) := hid (fun W (hW : Below w.heap.size w W) => (ref29_counts (a.cols.getD i Co.z).name (a.cols.getD i Co.z).cells u1 B W (hcl1.keep fun p (hp : p.block < B) => hW.cell (p := p) (by omega)) (Nat.le_trans hB hW.size) (tx_cells ha hi) (tx_size ha hi)))
 have HC2 : Hid (∀ W, Below w.heap.size w W → Calls Tryz.prog 96 #[.agg #[.string (b.cols.getD j Co.z).name, u2]] W (GivesC W (txC b j))) := hid (fun W (hW : Below w.heap.size w W) => (ref29_counts (b.cols.getD j Co.z).name (b.cols.getD j Co.z).cells u2 B W (hcl2.keep fun p (hp : p.block < B) => hW.cell (p := p) (by omega)) (Nat.le_trans hB hW.size) (tx_cells hb hj) (tx_size hb hj)))
 have HLX : Hid ((setOfL (txC a i)).length ≤ 4096) := hid (Nat.le_trans (setOfL_len _) (tx_len ha i))
 have HLY : Hid ((setOfL (txC b j)).length ≤ 4096) := hid (Nat.le_trans (setOfL_len _) (tx_len hb j))
 have HK := hid (fun W (hW : Below w.heap.size w W) => (⟨(hW.cell (p := ⟨b1, o1 + i * 2, none⟩) hb1w).trans k0, (hW.cell (p := ⟨b1, o1 + i * 2 + 1, none⟩) hb1w).trans k1, (hW.cell (p := ⟨b2, o2 + j * 2, none⟩) hb2w).trans l0, (hW.cell (p := ⟨b2, o2 + j * 2 + 1, none⟩) hb2w).trans l1⟩ : W.cell? ⟨b1, o1 + i * 2, none⟩ = some (.string (a.cols.getD i Co.z).name) ∧ W.cell? ⟨b1, o1 + i * 2 + 1, none⟩ = some u1 ∧ W.cell? ⟨b2, o2 + j * 2, none⟩ = some (.string (b.cols.getD j Co.z).name) ∧ W.cell? ⟨b2, o2 + j * 2 + 1, none⟩ = some u2))
 have HRAB : Hid (rowsC a.cols ≤ 4096 ∧ rowsC b.cols ≤ 4096) := hid ⟨rows_4096 ha, rows_4096 hb⟩
 have HCX : Hid (∀ s, cntT (txC a i) s ≤ 4096) := hid (fun s => Nat.le_trans (cntT_le _ s) (tx_len ha i))
 have HCY : Hid (∀ s, cntT (txC b j) s ≤ 4096) := hid (fun s => Nat.le_trans (cntT_le _ s) (tx_len hb j))
 have hla : a.cols.length ≤ 64 := ha.2.2.2.1
 have hlb : b.cols.length ≤ 64 := hb.2.2.2.1
 have hir : (i : Int) < (a.cols.length : Int) := by omega
 have hjr : (j : Int) < (b.cols.length : Int) := by omega
 clear hcl1 hcl2 huk hvk hu hv hT ha hb k0 k1 l0 l1 hS1 hS2
 generalize txC a i = xs at *
 generalize txC b j = ys at *
 generalize (a.cols.getD i Co.z).name = n1 at *
 generalize (a.cols.getD i Co.z).cells = cl1 at *
 generalize (b.cols.getD j Co.z).name = n2 at *
 generalize (b.cols.getD j Co.z).cells = cl2 at *
 generalize rowsC a.cols = ra at *
 generalize rowsC b.cols = rb at *
 obtain ⟨ia, na, ca⟩ := a
 obtain ⟨ib, nb, cb⟩ := b
 simp only at *
 generalize ca.length = La at *
 generalize cb.length = Lb at *
 have hx1 := ((BoxN.new w #[.int .i64 ia, .string na, .slice (some ⟨b1, o1, none⟩) La c1] 51).alloc (.cells #[.int .i64 ib, .string nb, .slice (some ⟨b2, o2, none⟩) Lb c2] 51)).alloc (.cells #[.int .i64 0, .int .i64 0, .int .i64 0, .int .i64 0, .int .i64 0, .int .i64 0, .int .i64 0, .int .i64 0, .int .i64 0, .int .i64 0, .int .i64 0] 44)
 have hx2 := (BoxN.new (w.alloc (.cells #[.int .i64 ia, .string na, .slice (some ⟨b1, o1, none⟩) La c1] 51)) #[.int .i64 ib, .string nb, .slice (some ⟨b2, o2, none⟩) Lb c2] 51).alloc (.cells #[.int .i64 0, .int .i64 0, .int .i64 0, .int .i64 0, .int .i64 0, .int .i64 0, .int .i64 0, .int .i64 0, .int .i64 0, .int .i64 0, .int .i64 0] 44)
 have hx3 := BoxN.new ((w.alloc (.cells #[.int .i64 ia, .string na, .slice (some ⟨b1, o1, none⟩) La c1] 51)).alloc (.cells #[.int .i64 ib, .string nb, .slice (some ⟨b2, o2, none⟩) Lb c2] 51)) #[.int .i64 0, .int .i64 0, .int .i64 0, .int .i64 0, .int .i64 0, .int .i64 0, .int .i64 0, .int .i64 0, .int .i64 0, .int .i64 0, .int .i64 0] 44
 have hs0 := (((Below.refl w.heap.size w).alloc (Nat.le_refl _) (.cells #[.int .i64 ia, .string na, .slice (some ⟨b1, o1, none⟩) La c1] 51)).alloc (by simp) (.cells #[.int .i64 ib, .string nb, .slice (some ⟨b2, o2, none⟩) Lb c2] 51)).alloc (by simp; omega) (.cells #[.int .i64 0, .int .i64 0, .int .i64 0, .int .i64 0, .int .i64 0, .int .i64 0, .int .i64 0, .int .i64 0, .int .i64 0, .int .i64 0, .int .i64 0] 44)
 simp only [World.size_alloc] at hx2 hx3
 obtain ⟨W0, hW0⟩ : ∃ W, W = ((w.alloc (.cells #[.int .i64 ia, .string na, .slice (some ⟨b1, o1, none⟩) La c1] 51)).alloc (.cells #[.int .i64 ib, .string nb, .slice (some ⟨b2, o2, none⟩) Lb c2] 51)).alloc (.cells #[.int .i64 0, .int .i64 0, .int .i64 0, .int .i64 0, .int .i64 0, .int .i64 0, .int .i64 0, .int .i64 0, .int .i64 0, .int .i64 0, .int .i64 0] 44) := ⟨_, rfl⟩
 rw [← hW0] at hx1 hx2 hx3 hs0
 have HX1 := hid (fun W (hW : Below W0.heap.size W0 W) => hx1.below hW hx1.lt)
 have HX2 := hid (fun W (hW : Below W0.heap.size W0 W) => hx2.below hW hx2.lt)
 have HX3 := hid (fun W (hW : Below W0.heap.size W0 W) => hx3.below hW hx3.lt)
 have HS0 := hid hs0
 have hl3 := hx3.lt
 have a0 := hx1.cell 0 rfl
 have a1 := hx1.cell 1 rfl
 have a2 := hx1.cell 2 rfl
 rw [hW0] at a0 a1 a2
 clear hx1 hx2 hx3 hs0
 go_enter Tryz.func52, Tryz.ntmps52
 go_wp2_with fail
 rw [← hW0]
 clear hW0 a0 a1 a2
 with_reducible refine (HV1.out W0 HS0.out).mono ?_
 rintro e w1 ⟨rfl, hb1⟩
 have HS1 := hid hb1
 have HT1 := hid (HS0.out.trans (hb1.mono HS0.out.size))
 have b0 := (HX2.out w1 hb1).cell 0 rfl
 have b1' := (HX2.out w1 hb1).cell 1 rfl
 have b2' := (HX2.out w1 hb1).cell 2 rfl
 clear hb1
 go_wp2_with fail
 clear b0 b1' b2'
 with_reducible refine (HV2.out w1 HT1.out).mono ?_
 rintro e w2 ⟨rfl, hb2⟩
 have HS2 := hid (HS1.out.trans (hb2.mono HS1.out.size))
 have HT2 := hid (HS0.out.trans (HS2.out.mono HS0.out.size))
 have a0 := (HX1.out w2 HS2.out).cell 0 rfl
 have a1 := (HX1.out w2 HS2.out).cell 1 rfl
 have a2 := (HX1.out w2 HS2.out).cell 2 rfl
 have b0 := (HX2.out w2 HS2.out).cell 0 rfl
 have b1' := (HX2.out w2 HS2.out).cell 1 rfl
 have b2' := (HX2.out w2 HS2.out).cell 2 rfl
 have q0 : ¬ (i : Int) < 0 := by omega
 have q1 : ¬ (La : Int) ≤ (i : Int) := by omega
 have q2 : ¬ (j : Int) < 0 := by omega
 have q3 : ¬ (Lb : Int) ≤ (j : Int) := by omega
 clear hb2 HV1 HV2 HS1 HT1
 go_upto_region 5 with fail
 clear a0 a1 a2 b0 b1' b2'
 have HG := hid (fun W (hW : Below w2.heap.size w2 W) => (by
  have h1 := HS2.out.trans (hW.mono HS2.out.size)
  exact ⟨(HX1.out W h1).cell 2 rfl, (HX2.out W h1).cell 2 rfl, HK.out W (HS0.out.trans (h1.mono HS0.out.size))⟩ : W.cell? ⟨w.heap.size, 2, none⟩ = some (.slice (some ⟨b1, o1, none⟩) La c1) ∧ W.cell? ⟨w.heap.size + 1, 2, none⟩ = some (.slice (some ⟨b2, o2, none⟩) Lb c2) ∧ W.cell? ⟨b1, o1 + i * 2, none⟩ = some (.string n1) ∧ W.cell? ⟨b1, o1 + i * 2 + 1, none⟩ = some u1 ∧ W.cell? ⟨b2, o2 + j * 2, none⟩ = some (.string n2) ∧ W.cell? ⟨b2, o2 + j * 2 + 1, none⟩ = some u2))
 have HQ1 := hid (fun W (hW : Below w2.heap.size w2 W) => HC1.out W (HT2.out.trans (hW.mono HT2.out.size)))
 have HQ2 := hid (fun W (hW : Below w2.heap.size w2 W) => HC2.out W (HT2.out.trans (hW.mono HT2.out.size)))
 have HD2 := hid (Below.refl w2.heap.size w2)
 go_region_held3 (fun W => W.cell? ⟨w.heap.size, 2, none⟩ = some (.slice (some ⟨b1, o1, none⟩) La c1) ∧ W.cell? ⟨w.heap.size + 1, 2, none⟩ = some (.slice (some ⟨b2, o2, none⟩) Lb c2) ∧ W.cell? ⟨b1, o1 + i * 2, none⟩ = some (.string n1) ∧ W.cell? ⟨b1, o1 + i * 2 + 1, none⟩ = some u1 ∧ W.cell? ⟨b2, o2 + j * 2, none⟩ = some (.string n2) ∧ W.cell? ⟨b2, o2 + j * 2 + 1, none⟩ = some u2)
  (first | exact HG.out _ (Below.refl w2.heap.size w2).drew | exact HG.out _ HC5.out | exact HG.out _ HC6.out | go_keep)
  ((go_at_call 96; go_must (first
   | ((with_reducible refine (HQ1.out _ (by first | (have h1 := HC6.out; have h2 := HC6.out.size; repeat' (first | (with_reducible exact Below.refl _ _) | (with_reducible assumption) | (with_reducible refine below_drewN ?_) | (with_reducible refine Below.alloc ?_ ?_ _) | (with_reducible refine Below.drew ?_) | (with_reducible refine Below.setCell ?_ ?_ _) | (with_reducible refine Below.trans ?_ (Below.mono (by with_reducible assumption) ?_)) | go_size)) | (have h1 := HD2.out; have h2 := HD2.out.size; repeat' (first | (with_reducible exact Below.refl _ _) | (with_reducible assumption) | (with_reducible refine below_drewN ?_) | (with_reducible refine Below.alloc ?_ ?_ _) | (with_reducible refine Below.drew ?_) | (with_reducible refine Below.setCell ?_ ?_ _) | (with_reducible refine Below.trans ?_ (Below.mono (by with_reducible assumption) ?_)) | go_size)))).mono ?_); rintro e w5 ⟨m5, rfl, hm5, hc5, hb5⟩; have HC5 : Hid (Below w2.heap.size w2 w5) := hid (by first | (have h1 := HC6.out; have h2 := HC6.out.size; repeat' (first | (with_reducible exact Below.refl _ _) | (with_reducible assumption) | (with_reducible refine below_drewN ?_) | (with_reducible refine Below.alloc ?_ ?_ _) | (with_reducible refine Below.drew ?_) | (with_reducible refine Below.setCell ?_ ?_ _) | (with_reducible refine Below.trans ?_ (Below.mono (by with_reducible assumption) ?_)) | go_size)) | (have h1 := HD2.out; have h2 := HD2.out.size; repeat' (first | (with_reducible exact Below.refl _ _) | (with_reducible assumption) | (with_reducible refine below_drewN ?_) | (with_reducible refine Below.alloc ?_ ?_ _) | (with_reducible refine Below.drew ?_) | (with_reducible refine Below.setCell ?_ ?_ _) | (with_reducible refine Below.trans ?_ (Below.mono (by with_reducible assumption) ?_)) | go_size))); have HM5 := hid hc5; have HB5 := hid hb5; clear hb5 hc5)
   | ((with_reducible refine (HQ2.out _ (by first | (have h1 := HC5.out; have h2 := HC5.out.size; repeat' (first | (with_reducible exact Below.refl _ _) | (with_reducible assumption) | (with_reducible refine below_drewN ?_) | (with_reducible refine Below.alloc ?_ ?_ _) | (with_reducible refine Below.drew ?_) | (with_reducible refine Below.setCell ?_ ?_ _) | (with_reducible refine Below.trans ?_ (Below.mono (by with_reducible assumption) ?_)) | go_size)) | (have h1 := HD2.out; have h2 := HD2.out.size; repeat' (first | (with_reducible exact Below.refl _ _) | (with_reducible assumption) | (with_reducible refine below_drewN ?_) | (with_reducible refine Below.alloc ?_ ?_ _) | (with_reducible refine Below.drew ?_) | (with_reducible refine Below.setCell ?_ ?_ _) | (with_reducible refine Below.trans ?_ (Below.mono (by with_reducible assumption) ?_)) | go_size)))).mono ?_); rintro e w6 ⟨m6, rfl, hm6, hc6, hb6⟩; have HC6 : Hid (Below w2.heap.size w2 w6) := hid (by first | (have h1 := HC5.out; have h2 := HC5.out.size; repeat' (first | (with_reducible exact Below.refl _ _) | (with_reducible assumption) | (with_reducible refine below_drewN ?_) | (with_reducible refine Below.alloc ?_ ?_ _) | (with_reducible refine Below.drew ?_) | (with_reducible refine Below.setCell ?_ ?_ _) | (with_reducible refine Below.trans ?_ (Below.mono (by with_reducible assumption) ?_)) | go_size)) | (have h1 := HD2.out; have h2 := HD2.out.size; repeat' (first | (with_reducible exact Below.refl _ _) | (with_reducible assumption) | (with_reducible refine below_drewN ?_) | (with_reducible refine Below.alloc ?_ ?_ _) | (with_reducible refine Below.drew ?_) | (with_reducible refine Below.setCell ?_ ?_ _) | (with_reducible refine Below.trans ?_ (Below.mono (by with_reducible assumption) ?_)) | go_size))); have HM6 := hid hc6; have HB6 := hid hb6; clear hb6 hc6))))
 all_goals
  first
   | (have HMa := hid (HM5.out.below HB6.out HM5.out.lt); have HMb := HM6; have HC7 := HC6; clear HM5 HM6 HC5 HC6 HB5 HB6; obtain ⟨w7, rfl⟩ : ∃ W, W = w6 := ⟨_, rfl⟩)
   | (have HMb := hid (HM6.out.below HB5.out HM6.out.lt); have HMa := HM5; have HC7 := HC6; clear HM5 HM6 HC5 HC6 HB5 HB6; obtain ⟨w7, rfl⟩ : ∃ W, W = w5 := ⟨_, rfl⟩)
   | (have HMb := hid (HM6.out.below HB5.out HM6.out.lt); have HMa := HM5; have HC7 := HC5; clear HM5 HM6 HC5 HC6 HB5 HB6; obtain ⟨w7, rfl⟩ : ∃ W, W = w5 := ⟨_, rfl⟩)
  have HS7 := hid (HS2.out.trans (HC7.out.mono HS2.out.size))
  have h7l := HS7.out.size
  have hma := HMa.out.lt
  have hmb := HMb.out.lt
  clear HG HQ1 HQ2 HD2 HC7 HC1 HC2 HK
  have HW7 := hid (HS0.out.trans (HS7.out.mono HS0.out.size))
  have HRA := hid (fun W (hW : Below w7.heap.size w7 W) => HR1.out W (HW7.out.trans (hW.mono HW7.out.size)))
  have HRB := hid (fun W (hW : Below w7.heap.size w7 W) => HR2.out W (HW7.out.trans (hW.mono HW7.out.size)))
  have HG := hid (fun W (hW : Below w7.heap.size w7 W) => (by
   have h1 := HX1.out W (HS7.out.trans (hW.mono h7l))
   have h2 := HX2.out W (HS7.out.trans (hW.mono h7l))
   exact ⟨h1.cell 0 rfl, h1.cell 1 rfl, h1.cell 2 rfl, h2.cell 0 rfl, h2.cell 1 rfl, h2.cell 2 rfl⟩ : W.cell? ⟨w.heap.size, 0, none⟩ = some (.int .i64 ia) ∧ W.cell? ⟨w.heap.size, 1, none⟩ = some (.string na) ∧ W.cell? ⟨w.heap.size, 2, none⟩ = some (.slice (some ⟨b1, o1, none⟩) La c1) ∧ W.cell? ⟨w.heap.size + 1, 0, none⟩ = some (.int .i64 ib) ∧ W.cell? ⟨w.heap.size + 1, 1, none⟩ = some (.string nb) ∧ W.cell? ⟨w.heap.size + 1, 2, none⟩ = some (.slice (some ⟨b2, o2, none⟩) Lb c2)))
  have HXR := hid (fun W (hW : Below w7.heap.size w7 W) => HX3.out W (HS7.out.trans (hW.mono h7l)))
  have hl3b : w.heap.size + 1 + 1 < w7.heap.size := by omega
  clear HR1 HR2 HX1 HX2 HX3 HS7 HS2 HT2
  go_upto_region 6 with fail
  go_cut [12] from 60 to 72 (fun s12 wx => ∃ rq : Nat, s12 = .pointer (some ⟨rq, 0, none⟩) ∧ w7.heap.size ≤ rq ∧ Hid (Below w7.heap.size w7 wx) ∧ Hid (BoxN wx rq 44 #[.int .i64 ia, .int .i64 (i : Int), .int .i64 ib, .int .i64 (j : Int), .int .i64 0, .int .i64 0, .int .i64 0, .int .i64 0, .int .i64 0, .int .i64 (ra : Int), .int .i64 (rb : Int)]))
  case first =>
   have HD := hid (show Below w7.heap.size w7 w7.drew from (Below.refl w7.heap.size w7).drew)
   refine wp_region_held_drew (S := fun W => W.cell? ⟨w.heap.size, 0, none⟩ = some (.int .i64 ia) ∧ W.cell? ⟨w.heap.size, 1, none⟩ = some (.string na) ∧ W.cell? ⟨w.heap.size, 2, none⟩ = some (.slice (some ⟨b1, o1, none⟩) La c1) ∧ W.cell? ⟨w.heap.size + 1, 0, none⟩ = some (.int .i64 ib) ∧ W.cell? ⟨w.heap.size + 1, 1, none⟩ = some (.string nb) ∧ W.cell? ⟨w.heap.size + 1, 2, none⟩ = some (.slice (some ⟨b2, o2, none⟩) Lb c2)) (by kernel_rfl) (HG.out _ HD.out) (fun hHeld => ?_)
   have hdz : w7.heap.size ≤ w7.drew.heap.size := Nat.le_refl _
   generalize w7.drew = Wd at *
   refine wpAnyH_take (i := 0) (v := ?_) (by simp only [List.getElem?_toArray, List.getElem?_cons_zero, List.getElem?_cons_succ]; rfl) (by kernel_rfl) (by kernel_rfl) (by kernel_rfl) (by intro _ _ _ h; exact h) (Or.inl ⟨by rfl, ?_⟩) (by assumption) ?_
   rotate_left
   ·(intro w' hSw; (try dsimp only at hSw); go_simp) <;> with_reducible rfl
   try simp only [Act.put, List.setIfInBounds_toArray, List.set_cons_zero, List.set_cons_succ]
   refine wpAnyH_take (i := 1) (v := ?_) (by simp only [List.getElem?_toArray, List.getElem?_cons_zero, List.getElem?_cons_succ]; rfl) (by kernel_rfl) (by kernel_rfl) (by kernel_rfl) (by intro _ _ _ h; exact h) (Or.inl ⟨by rfl, ?_⟩) (by assumption) ?_
   rotate_left
   ·(intro w' hSw; (try dsimp only at hSw); go_simp) <;> with_reducible rfl
   try simp only [Act.put, List.setIfInBounds_toArray, List.set_cons_zero, List.set_cons_succ]
   refine wpAnyH_take (i := 2) (v := ?_) (by simp only [List.getElem?_toArray, List.getElem?_cons_zero, List.getElem?_cons_succ]; rfl) (by kernel_rfl) (by kernel_rfl) (by kernel_rfl) (by intro _ _ _ h; exact h) (Or.inl ⟨by rfl, ?_⟩) (by assumption) ?_
   rotate_left
   ·(intro w' hSw; (try dsimp only at hSw); go_simp) <;> with_reducible rfl
   try simp only [Act.put, List.setIfInBounds_toArray, List.set_cons_zero, List.set_cons_succ]
   refine wpAnyH_take (i := 3) (v := ?_) (by simp only [List.getElem?_toArray, List.getElem?_cons_zero, List.getElem?_cons_succ]; rfl) (by kernel_rfl) (by kernel_rfl) (by kernel_rfl) (by intro _ _ _ h; exact h) (Or.inl ⟨by rfl, ?_⟩) (by assumption) ?_
   rotate_left
   ·(intro w' hSw; (try dsimp only at hSw); go_simp) <;> with_reducible rfl
   try simp only [Act.put, List.setIfInBounds_toArray, List.set_cons_zero, List.set_cons_succ]
   refine wpAnyH_take (i := 4) (v := ?_) (by simp only [List.getElem?_toArray, List.getElem?_cons_zero, List.getElem?_cons_succ]; rfl) (by kernel_rfl) (by kernel_rfl) (by kernel_rfl) (by intro _ _ _ h; exact h) (Or.inl ⟨by rfl, ?_⟩) (by assumption) ?_
   rotate_left
   ·(intro w' hSw; (try dsimp only at hSw); go_simp) <;> with_reducible rfl
   try simp only [Act.put, List.setIfInBounds_toArray, List.set_cons_zero, List.set_cons_succ]
   refine wpAnyH_take (i := 5) (v := ?_) (by simp only [List.getElem?_toArray, List.getElem?_cons_zero, List.getElem?_cons_succ]; rfl) (by kernel_rfl) (by kernel_rfl) (by kernel_rfl) (by intro _ _ _ h; exact h) (Or.inl ⟨by rfl, ?_⟩) (by assumption) ?_
   rotate_left
   ·(intro w' hSw; (try dsimp only at hSw); go_simp) <;> with_reducible rfl
   try simp only [Act.put, List.setIfInBounds_toArray, List.set_cons_zero, List.set_cons_succ]
   refine wpAnyH_take (i := 6) (v := ?_) (by simp only [List.getElem?_toArray, List.getElem?_cons_zero, List.getElem?_cons_succ]; rfl) (by kernel_rfl) (by kernel_rfl) (by kernel_rfl) (by intro _ _ _ h; exact h) (Or.inl ⟨by rfl, ?_⟩) (by assumption) ?_
   rotate_left
   ·(intro w' hSw; (try dsimp only at hSw); go_simp) <;> with_reducible rfl
   try simp only [Act.put, List.setIfInBounds_toArray, List.set_cons_zero, List.set_cons_succ]
   refine wpAnyH_take (i := 7) (v := ?_) (by simp only [List.getElem?_toArray, List.getElem?_cons_zero, List.getElem?_cons_succ]; rfl) (by kernel_rfl) (by kernel_rfl) (by kernel_rfl) (by intro _ _ _ h; exact h) (Or.inl ⟨by rfl, ?_⟩) (by assumption) ?_
   rotate_left
   ·(intro w' hSw; (try dsimp only at hSw); go_simp) <;> with_reducible rfl
   try simp only [Act.put, List.setIfInBounds_toArray, List.set_cons_zero, List.set_cons_succ]
   refine wpAnyH_take (i := 8) (v := ?_) (by simp only [List.getElem?_toArray, List.getElem?_cons_zero, List.getElem?_cons_succ]; rfl) (by kernel_rfl) (by kernel_rfl) (by kernel_rfl) (by intro _ _ _ h; exact h) (Or.inl ⟨by rfl, ?_⟩) (by assumption) ?_
   rotate_left
   ·(intro w' hSw; (try dsimp only at hSw); go_simp) <;> with_reducible rfl
   try simp only [Act.put, List.setIfInBounds_toArray, List.set_cons_zero, List.set_cons_succ]
   refine wpAnyH_take (i := 10) (v := ?_) (by simp only [List.getElem?_toArray, List.getElem?_cons_zero, List.getElem?_cons_succ]; rfl) (by kernel_rfl) (by kernel_rfl) (by kernel_rfl) (by intro _ _ _ h; exact h) (Or.inl ⟨by rfl, ?_⟩) (by assumption) ?_
   rotate_left
   ·(intro w' hSw; (try dsimp only at hSw); go_simp) <;> with_reducible rfl
   try simp only [Act.put, List.setIfInBounds_toArray, List.set_cons_zero, List.set_cons_succ]
   refine wpAnyH_ready (rs := [9, 13]) (by kernel_rfl) (by simp) ?_
   refine AllReadyH.cons (by simp only [List.getElem?_toArray, List.getElem?_cons_zero, List.getElem?_cons_succ]; rfl) (fun K hK => ?_) ?_
   ·go_simp
    go_at_call 31
    go_must ((with_reducible refine (HRA.out _ HD.out).mono ?_); rintro e wc0 ⟨rfl, hbc⟩; have HBc0 := hid (HD.out.trans (hbc.mono HD.out.size)); clear hbc)
    (try go_wp2_with fail)
    refine hK.out _ _ (HG.out _ HBc0.out) (fun hHeld => ?_)
    clear hK K
    try simp only [Act.put, List.setIfInBounds_toArray, List.set_cons_zero, List.set_cons_succ]
    refine wpAnyH_ready (rs := [11, 13]) (by kernel_rfl) (by simp) ?_
    refine AllReadyH.cons (by simp only [List.getElem?_toArray, List.getElem?_cons_zero, List.getElem?_cons_succ]; rfl) (fun K hK => ?_) ?_
    ·go_simp
     go_at_call 31
     go_must ((with_reducible refine (HRB.out _ HBc0.out).mono ?_); rintro e wc1 ⟨rfl, hbc⟩; have HBc1 := hid (HBc0.out.trans (hbc.mono HBc0.out.size)); clear hbc)
     (try go_wp2_with fail)
     refine hK.out _ _ (HG.out _ HBc1.out) (fun hHeld => ?_)
     clear hK K
     try simp only [Act.put, List.setIfInBounds_toArray, List.set_cons_zero, List.set_cons_succ]
     refine wpAnyH_take (i := 12) (v := ?_) (by simp only [List.getElem?_toArray, List.getElem?_cons_zero, List.getElem?_cons_succ]; rfl) (by kernel_rfl) (by kernel_rfl) (by kernel_rfl) (by intro _ _ _ h; exact h) (Or.inl ⟨by rfl, ?_⟩) (by assumption) ?_
     rotate_left
     ·(intro w' hSw; (try dsimp only at hSw); go_simp) <;> with_reducible rfl
     try simp only [Act.put, List.setIfInBounds_toArray, List.set_cons_zero, List.set_cons_succ]
     refine wpAnyH_ready (rs := [13]) (by kernel_rfl) (by simp) ?_
     refine AllReadyH.cons (by simp only [List.getElem?_toArray, List.getElem?_cons_zero, List.getElem?_cons_succ]; rfl) (fun K hK => ?_) ?_
     ·go_simp
      have HBa2 := hid (HBc1.out.alloc HBc1.out.size (.cells #[.int .i64 0, .int .i64 0, .int .i64 0, .int .i64 0, .int .i64 0, .int .i64 0, .int .i64 0, .int .i64 0, .int .i64 0, .int .i64 0, .int .i64 0] 44))
      have HX2 := hid (BoxN.new wc1 #[.int .i64 0, .int .i64 0, .int .i64 0, .int .i64 0, .int .i64 0, .int .i64 0, .int .i64 0, .int .i64 0, .int .i64 0, .int .i64 0, .int .i64 0] 44)
      refine hK.out _ _ (HG.out _ HBa2.out) (fun hHeld => ?_)
      clear hK K
      try simp only [Act.put, List.setIfInBounds_toArray, List.set_cons_zero, List.set_cons_succ]
      obtain ⟨Wa2, hWa2⟩ : ∃ V, V = World.alloc wc1 (.cells #[.int .i64 0, .int .i64 0, .int .i64 0, .int .i64 0, .int .i64 0, .int .i64 0, .int .i64 0, .int .i64 0, .int .i64 0, .int .i64 0, .int .i64 0] 44) := ⟨_, rfl⟩
      rw [← hWa2] at HBa2 HX2 hHeld ⊢
      clear hWa2
      refine wpAnyH_ready (rs := [14]) (by kernel_rfl) (by simp) ?_
      refine AllReadyH.cons (by simp only [List.getElem?_toArray, List.getElem?_cons_zero, List.getElem?_cons_succ]; rfl) (fun K hK => ?_) AllReadyH.nil
      have e0 := HX2.out.cell 0 rfl
      have f0 := HX2.out.frozen 0
      have e1 := HX2.out.cell 1 rfl
      have f1 := HX2.out.frozen 1
      have e2 := HX2.out.cell 2 rfl
      have f2 := HX2.out.frozen 2
      have e3 := HX2.out.cell 3 rfl
      have f3 := HX2.out.frozen 3
      have e4 := HX2.out.cell 4 rfl
      have f4 := HX2.out.frozen 4
      have e5 := HX2.out.cell 5 rfl
      have f5 := HX2.out.frozen 5
      have e6 := HX2.out.cell 6 rfl
      have f6 := HX2.out.frozen 6
      have e7 := HX2.out.cell 7 rfl
      have f7 := HX2.out.frozen 7
      have e8 := HX2.out.cell 8 rfl
      have f8 := HX2.out.frozen 8
      have e9 := HX2.out.cell 9 rfl
      have f9 := HX2.out.frozen 9
      have e10 := HX2.out.cell 10 rfl
      have f10 := HX2.out.frozen 10
      have hlow : w7.heap.size ≤ wc1.heap.size := by first | exact Nat.le_refl _ | (have := hdz; omega) | exact HBc0.out.size | exact HBc1.out.size
      go_simp
      have g0 : BoxN _ wc1.heap.size 44 #[.int .i64 ia, .int .i64 0, .int .i64 0, .int .i64 0, .int .i64 0, .int .i64 0, .int .i64 0, .int .i64 0, .int .i64 0, .int .i64 0, .int .i64 0] := HX2.out.set 0 (.int .i64 ia)
      have h0 := HBa2.out.setCell (p := ⟨wc1.heap.size, 0, none⟩) hlow (.int .i64 ia)
      have g1 : BoxN _ wc1.heap.size 44 #[.int .i64 ia, .int .i64 (i : Int), .int .i64 0, .int .i64 0, .int .i64 0, .int .i64 0, .int .i64 0, .int .i64 0, .int .i64 0, .int .i64 0, .int .i64 0] := g0.set 1 (.int .i64 (i : Int))
      have h1 := h0.setCell (p := ⟨wc1.heap.size, 1, none⟩) hlow (.int .i64 (i : Int))
      have g2 : BoxN _ wc1.heap.size 44 #[.int .i64 ia, .int .i64 (i : Int), .int .i64 ib, .int .i64 0, .int .i64 0, .int .i64 0, .int .i64 0, .int .i64 0, .int .i64 0, .int .i64 0, .int .i64 0] := g1.set 2 (.int .i64 ib)
      have h2 := h1.setCell (p := ⟨wc1.heap.size, 2, none⟩) hlow (.int .i64 ib)
      have g3 : BoxN _ wc1.heap.size 44 #[.int .i64 ia, .int .i64 (i : Int), .int .i64 ib, .int .i64 (j : Int), .int .i64 0, .int .i64 0, .int .i64 0, .int .i64 0, .int .i64 0, .int .i64 0, .int .i64 0] := g2.set 3 (.int .i64 (j : Int))
      have h3 := h2.setCell (p := ⟨wc1.heap.size, 3, none⟩) hlow (.int .i64 (j : Int))
      have g4 : BoxN _ wc1.heap.size 44 #[.int .i64 ia, .int .i64 (i : Int), .int .i64 ib, .int .i64 (j : Int), .int .i64 0, .int .i64 0, .int .i64 0, .int .i64 0, .int .i64 0, .int .i64 0, .int .i64 0] := g3.set 4 (.int .i64 0)
      have h4 := h3.setCell (p := ⟨wc1.heap.size, 4, none⟩) hlow (.int .i64 0)
      have g5 : BoxN _ wc1.heap.size 44 #[.int .i64 ia, .int .i64 (i : Int), .int .i64 ib, .int .i64 (j : Int), .int .i64 0, .int .i64 0, .int .i64 0, .int .i64 0, .int .i64 0, .int .i64 0, .int .i64 0] := g4.set 5 (.int .i64 0)
      have h5 := h4.setCell (p := ⟨wc1.heap.size, 5, none⟩) hlow (.int .i64 0)
      have g6 : BoxN _ wc1.heap.size 44 #[.int .i64 ia, .int .i64 (i : Int), .int .i64 ib, .int .i64 (j : Int), .int .i64 0, .int .i64 0, .int .i64 0, .int .i64 0, .int .i64 0, .int .i64 0, .int .i64 0] := g5.set 6 (.int .i64 0)
      have h6 := h5.setCell (p := ⟨wc1.heap.size, 6, none⟩) hlow (.int .i64 0)
      have g7 : BoxN _ wc1.heap.size 44 #[.int .i64 ia, .int .i64 (i : Int), .int .i64 ib, .int .i64 (j : Int), .int .i64 0, .int .i64 0, .int .i64 0, .int .i64 0, .int .i64 0, .int .i64 0, .int .i64 0] := g6.set 7 (.int .i64 0)
      have h7 := h6.setCell (p := ⟨wc1.heap.size, 7, none⟩) hlow (.int .i64 0)
      have g8 : BoxN _ wc1.heap.size 44 #[.int .i64 ia, .int .i64 (i : Int), .int .i64 ib, .int .i64 (j : Int), .int .i64 0, .int .i64 0, .int .i64 0, .int .i64 0, .int .i64 0, .int .i64 0, .int .i64 0] := g7.set 8 (.int .i64 0)
      have h8 := h7.setCell (p := ⟨wc1.heap.size, 8, none⟩) hlow (.int .i64 0)
      have g9 : BoxN _ wc1.heap.size 44 #[.int .i64 ia, .int .i64 (i : Int), .int .i64 ib, .int .i64 (j : Int), .int .i64 0, .int .i64 0, .int .i64 0, .int .i64 0, .int .i64 0, .int .i64 (ra : Int), .int .i64 0] := g8.set 9 (.int .i64 (ra : Int))
      have h9 := h8.setCell (p := ⟨wc1.heap.size, 9, none⟩) hlow (.int .i64 (ra : Int))
      have g10 : BoxN _ wc1.heap.size 44 #[.int .i64 ia, .int .i64 (i : Int), .int .i64 ib, .int .i64 (j : Int), .int .i64 0, .int .i64 0, .int .i64 0, .int .i64 0, .int .i64 0, .int .i64 (ra : Int), .int .i64 (rb : Int)] := g9.set 10 (.int .i64 (rb : Int))
      have h10 := h9.setCell (p := ⟨wc1.heap.size, 10, none⟩) hlow (.int .i64 (rb : Int))
      have HGX := hid g10
      have HHX := hid h10
      clear g0 h0 e0 f0 g1 h1 e1 f1 g2 h2 e2 f2 g3 h3 e3 f3 g4 h4 e4 f4 g5 h5 e5 f5 g6 h6 e6 f6 g7 h7 e7 f7 g8 h8 e8 f8 g9 h9 e9 f9 g10 h10 e10 f10
      refine hK.out _ _ (HG.out _ HHX.out) (fun hHeld => ?_)
      clear hK K
      try simp only [Act.put, List.setIfInBounds_toArray, List.set_cons_zero, List.set_cons_succ]
      refine wpAnyH_done (by kernel_rfl) ?_ _
      go_wp2_with fail
      go_meet
      exact ⟨_, rfl, hlow, HHX, HGX⟩
     exact AllReadyH.nil
    refine AllReadyH.cons (by simp only [List.getElem?_toArray, List.getElem?_cons_zero, List.getElem?_cons_succ]; rfl) (fun K hK => ?_) ?_
    ·go_simp
     have HBa1 := hid (HBc0.out.alloc HBc0.out.size (.cells #[.int .i64 0, .int .i64 0, .int .i64 0, .int .i64 0, .int .i64 0, .int .i64 0, .int .i64 0, .int .i64 0, .int .i64 0, .int .i64 0, .int .i64 0] 44))
     have HX1 := hid (BoxN.new wc0 #[.int .i64 0, .int .i64 0, .int .i64 0, .int .i64 0, .int .i64 0, .int .i64 0, .int .i64 0, .int .i64 0, .int .i64 0, .int .i64 0, .int .i64 0] 44)
     refine hK.out _ _ (HG.out _ HBa1.out) (fun hHeld => ?_)
     clear hK K
     try simp only [Act.put, List.setIfInBounds_toArray, List.set_cons_zero, List.set_cons_succ]
     obtain ⟨Wa1, hWa1⟩ : ∃ V, V = World.alloc wc0 (.cells #[.int .i64 0, .int .i64 0, .int .i64 0, .int .i64 0, .int .i64 0, .int .i64 0, .int .i64 0, .int .i64 0, .int .i64 0, .int .i64 0, .int .i64 0] 44) := ⟨_, rfl⟩
     rw [← hWa1] at HBa1 HX1 hHeld ⊢
     clear hWa1
     refine wpAnyH_ready (rs := [11]) (by kernel_rfl) (by simp) ?_
     refine AllReadyH.cons (by simp only [List.getElem?_toArray, List.getElem?_cons_zero, List.getElem?_cons_succ]; rfl) (fun K hK => ?_) ?_
     ·go_simp
      go_at_call 31
      go_must ((with_reducible refine (HRB.out _ HBa1.out).mono ?_); rintro e wc2 ⟨rfl, hbc⟩; have HBc2 := hid (HBa1.out.trans (hbc.mono HBa1.out.size)); have HY2 := hid (HX1.out.below hbc HX1.out.lt); clear hbc)
      (try go_wp2_with fail)
      refine hK.out _ _ (HG.out _ HBc2.out) (fun hHeld => ?_)
      clear hK K
      try simp only [Act.put, List.setIfInBounds_toArray, List.set_cons_zero, List.set_cons_succ]
      refine wpAnyH_take (i := 12) (v := ?_) (by simp only [List.getElem?_toArray, List.getElem?_cons_zero, List.getElem?_cons_succ]; rfl) (by kernel_rfl) (by kernel_rfl) (by kernel_rfl) (by intro _ _ _ h; exact h) (Or.inl ⟨by rfl, ?_⟩) (by assumption) ?_
      rotate_left
      ·(intro w' hSw; (try dsimp only at hSw); go_simp) <;> with_reducible rfl
      try simp only [Act.put, List.setIfInBounds_toArray, List.set_cons_zero, List.set_cons_succ]
      refine wpAnyH_ready (rs := [14]) (by kernel_rfl) (by simp) ?_
      refine AllReadyH.cons (by simp only [List.getElem?_toArray, List.getElem?_cons_zero, List.getElem?_cons_succ]; rfl) (fun K hK => ?_) AllReadyH.nil
      have e0 := HY2.out.cell 0 rfl
      have f0 := HY2.out.frozen 0
      have e1 := HY2.out.cell 1 rfl
      have f1 := HY2.out.frozen 1
      have e2 := HY2.out.cell 2 rfl
      have f2 := HY2.out.frozen 2
      have e3 := HY2.out.cell 3 rfl
      have f3 := HY2.out.frozen 3
      have e4 := HY2.out.cell 4 rfl
      have f4 := HY2.out.frozen 4
      have e5 := HY2.out.cell 5 rfl
      have f5 := HY2.out.frozen 5
      have e6 := HY2.out.cell 6 rfl
      have f6 := HY2.out.frozen 6
      have e7 := HY2.out.cell 7 rfl
      have f7 := HY2.out.frozen 7
      have e8 := HY2.out.cell 8 rfl
      have f8 := HY2.out.frozen 8
      have e9 := HY2.out.cell 9 rfl
      have f9 := HY2.out.frozen 9
      have e10 := HY2.out.cell 10 rfl
      have f10 := HY2.out.frozen 10
      have hlow : w7.heap.size ≤ wc0.heap.size := by first | exact Nat.le_refl _ | (have := hdz; omega) | exact HBc0.out.size | exact HBc1.out.size
      go_simp
      have g0 : BoxN _ wc0.heap.size 44 #[.int .i64 ia, .int .i64 0, .int .i64 0, .int .i64 0, .int .i64 0, .int .i64 0, .int .i64 0, .int .i64 0, .int .i64 0, .int .i64 0, .int .i64 0] := HY2.out.set 0 (.int .i64 ia)
      have h0 := HBc2.out.setCell (p := ⟨wc0.heap.size, 0, none⟩) hlow (.int .i64 ia)
      have g1 : BoxN _ wc0.heap.size 44 #[.int .i64 ia, .int .i64 (i : Int), .int .i64 0, .int .i64 0, .int .i64 0, .int .i64 0, .int .i64 0, .int .i64 0, .int .i64 0, .int .i64 0, .int .i64 0] := g0.set 1 (.int .i64 (i : Int))
      have h1 := h0.setCell (p := ⟨wc0.heap.size, 1, none⟩) hlow (.int .i64 (i : Int))
      have g2 : BoxN _ wc0.heap.size 44 #[.int .i64 ia, .int .i64 (i : Int), .int .i64 ib, .int .i64 0, .int .i64 0, .int .i64 0, .int .i64 0, .int .i64 0, .int .i64 0, .int .i64 0, .int .i64 0] := g1.set 2 (.int .i64 ib)
      have h2 := h1.setCell (p := ⟨wc0.heap.size, 2, none⟩) hlow (.int .i64 ib)
      have g3 : BoxN _ wc0.heap.size 44 #[.int .i64 ia, .int .i64 (i : Int), .int .i64 ib, .int .i64 (j : Int), .int .i64 0, .int .i64 0, .int .i64 0, .int .i64 0, .int .i64 0, .int .i64 0, .int .i64 0] := g2.set 3 (.int .i64 (j : Int))
      have h3 := h2.setCell (p := ⟨wc0.heap.size, 3, none⟩) hlow (.int .i64 (j : Int))
      have g4 : BoxN _ wc0.heap.size 44 #[.int .i64 ia, .int .i64 (i : Int), .int .i64 ib, .int .i64 (j : Int), .int .i64 0, .int .i64 0, .int .i64 0, .int .i64 0, .int .i64 0, .int .i64 0, .int .i64 0] := g3.set 4 (.int .i64 0)
      have h4 := h3.setCell (p := ⟨wc0.heap.size, 4, none⟩) hlow (.int .i64 0)
      have g5 : BoxN _ wc0.heap.size 44 #[.int .i64 ia, .int .i64 (i : Int), .int .i64 ib, .int .i64 (j : Int), .int .i64 0, .int .i64 0, .int .i64 0, .int .i64 0, .int .i64 0, .int .i64 0, .int .i64 0] := g4.set 5 (.int .i64 0)
      have h5 := h4.setCell (p := ⟨wc0.heap.size, 5, none⟩) hlow (.int .i64 0)
      have g6 : BoxN _ wc0.heap.size 44 #[.int .i64 ia, .int .i64 (i : Int), .int .i64 ib, .int .i64 (j : Int), .int .i64 0, .int .i64 0, .int .i64 0, .int .i64 0, .int .i64 0, .int .i64 0, .int .i64 0] := g5.set 6 (.int .i64 0)
      have h6 := h5.setCell (p := ⟨wc0.heap.size, 6, none⟩) hlow (.int .i64 0)
      have g7 : BoxN _ wc0.heap.size 44 #[.int .i64 ia, .int .i64 (i : Int), .int .i64 ib, .int .i64 (j : Int), .int .i64 0, .int .i64 0, .int .i64 0, .int .i64 0, .int .i64 0, .int .i64 0, .int .i64 0] := g6.set 7 (.int .i64 0)
      have h7 := h6.setCell (p := ⟨wc0.heap.size, 7, none⟩) hlow (.int .i64 0)
      have g8 : BoxN _ wc0.heap.size 44 #[.int .i64 ia, .int .i64 (i : Int), .int .i64 ib, .int .i64 (j : Int), .int .i64 0, .int .i64 0, .int .i64 0, .int .i64 0, .int .i64 0, .int .i64 0, .int .i64 0] := g7.set 8 (.int .i64 0)
      have h8 := h7.setCell (p := ⟨wc0.heap.size, 8, none⟩) hlow (.int .i64 0)
      have g9 : BoxN _ wc0.heap.size 44 #[.int .i64 ia, .int .i64 (i : Int), .int .i64 ib, .int .i64 (j : Int), .int .i64 0, .int .i64 0, .int .i64 0, .int .i64 0, .int .i64 0, .int .i64 (ra : Int), .int .i64 0] := g8.set 9 (.int .i64 (ra : Int))
      have h9 := h8.setCell (p := ⟨wc0.heap.size, 9, none⟩) hlow (.int .i64 (ra : Int))
      have g10 : BoxN _ wc0.heap.size 44 #[.int .i64 ia, .int .i64 (i : Int), .int .i64 ib, .int .i64 (j : Int), .int .i64 0, .int .i64 0, .int .i64 0, .int .i64 0, .int .i64 0, .int .i64 (ra : Int), .int .i64 (rb : Int)] := g9.set 10 (.int .i64 (rb : Int))
      have h10 := h9.setCell (p := ⟨wc0.heap.size, 10, none⟩) hlow (.int .i64 (rb : Int))
      have HGX := hid g10
      have HHX := hid h10
      clear g0 h0 e0 f0 g1 h1 e1 f1 g2 h2 e2 f2 g3 h3 e3 f3 g4 h4 e4 f4 g5 h5 e5 f5 g6 h6 e6 f6 g7 h7 e7 f7 g8 h8 e8 f8 g9 h9 e9 f9 g10 h10 e10 f10
      refine hK.out _ _ (HG.out _ HHX.out) (fun hHeld => ?_)
      clear hK K
      try simp only [Act.put, List.setIfInBounds_toArray, List.set_cons_zero, List.set_cons_succ]
      refine wpAnyH_done (by kernel_rfl) ?_ _
      go_wp2_with fail
      go_meet
      exact ⟨_, rfl, hlow, HHX, HGX⟩
     exact AllReadyH.nil
    exact AllReadyH.nil
   refine AllReadyH.cons (by simp only [List.getElem?_toArray, List.getElem?_cons_zero, List.getElem?_cons_succ]; rfl) (fun K hK => ?_) ?_
   ·go_simp
    have HBa0 := hid (HD.out.alloc HD.out.size (.cells #[.int .i64 0, .int .i64 0, .int .i64 0, .int .i64 0, .int .i64 0, .int .i64 0, .int .i64 0, .int .i64 0, .int .i64 0, .int .i64 0, .int .i64 0] 44))
    have HX0 := hid (BoxN.new Wd #[.int .i64 0, .int .i64 0, .int .i64 0, .int .i64 0, .int .i64 0, .int .i64 0, .int .i64 0, .int .i64 0, .int .i64 0, .int .i64 0, .int .i64 0] 44)
    refine hK.out _ _ (HG.out _ HBa0.out) (fun hHeld => ?_)
    clear hK K
    try simp only [Act.put, List.setIfInBounds_toArray, List.set_cons_zero, List.set_cons_succ]
    obtain ⟨Wa0, hWa0⟩ : ∃ V, V = World.alloc Wd (.cells #[.int .i64 0, .int .i64 0, .int .i64 0, .int .i64 0, .int .i64 0, .int .i64 0, .int .i64 0, .int .i64 0, .int .i64 0, .int .i64 0, .int .i64 0] 44) := ⟨_, rfl⟩
    rw [← hWa0] at HBa0 HX0 hHeld ⊢
    clear hWa0
    refine wpAnyH_ready (rs := [9]) (by kernel_rfl) (by simp) ?_
    refine AllReadyH.cons (by simp only [List.getElem?_toArray, List.getElem?_cons_zero, List.getElem?_cons_succ]; rfl) (fun K hK => ?_) ?_
    ·go_simp
     go_at_call 31
     go_must ((with_reducible refine (HRA.out _ HBa0.out).mono ?_); rintro e wc1 ⟨rfl, hbc⟩; have HBc1 := hid (HBa0.out.trans (hbc.mono HBa0.out.size)); have HY1 := hid (HX0.out.below hbc HX0.out.lt); clear hbc)
     (try go_wp2_with fail)
     refine hK.out _ _ (HG.out _ HBc1.out) (fun hHeld => ?_)
     clear hK K
     try simp only [Act.put, List.setIfInBounds_toArray, List.set_cons_zero, List.set_cons_succ]
     refine wpAnyH_ready (rs := [11]) (by kernel_rfl) (by simp) ?_
     refine AllReadyH.cons (by simp only [List.getElem?_toArray, List.getElem?_cons_zero, List.getElem?_cons_succ]; rfl) (fun K hK => ?_) ?_
     ·go_simp
      go_at_call 31
      go_must ((with_reducible refine (HRB.out _ HBc1.out).mono ?_); rintro e wc2 ⟨rfl, hbc⟩; have HBc2 := hid (HBc1.out.trans (hbc.mono HBc1.out.size)); have HY2 := hid (HY1.out.below hbc HY1.out.lt); clear hbc)
      (try go_wp2_with fail)
      refine hK.out _ _ (HG.out _ HBc2.out) (fun hHeld => ?_)
      clear hK K
      try simp only [Act.put, List.setIfInBounds_toArray, List.set_cons_zero, List.set_cons_succ]
      refine wpAnyH_take (i := 12) (v := ?_) (by simp only [List.getElem?_toArray, List.getElem?_cons_zero, List.getElem?_cons_succ]; rfl) (by kernel_rfl) (by kernel_rfl) (by kernel_rfl) (by intro _ _ _ h; exact h) (Or.inl ⟨by rfl, ?_⟩) (by assumption) ?_
      rotate_left
      ·(intro w' hSw; (try dsimp only at hSw); go_simp) <;> with_reducible rfl
      try simp only [Act.put, List.setIfInBounds_toArray, List.set_cons_zero, List.set_cons_succ]
      refine wpAnyH_ready (rs := [14]) (by kernel_rfl) (by simp) ?_
      refine AllReadyH.cons (by simp only [List.getElem?_toArray, List.getElem?_cons_zero, List.getElem?_cons_succ]; rfl) (fun K hK => ?_) AllReadyH.nil
      have e0 := HY2.out.cell 0 rfl
      have f0 := HY2.out.frozen 0
      have e1 := HY2.out.cell 1 rfl
      have f1 := HY2.out.frozen 1
      have e2 := HY2.out.cell 2 rfl
      have f2 := HY2.out.frozen 2
      have e3 := HY2.out.cell 3 rfl
      have f3 := HY2.out.frozen 3
      have e4 := HY2.out.cell 4 rfl
      have f4 := HY2.out.frozen 4
      have e5 := HY2.out.cell 5 rfl
      have f5 := HY2.out.frozen 5
      have e6 := HY2.out.cell 6 rfl
      have f6 := HY2.out.frozen 6
      have e7 := HY2.out.cell 7 rfl
      have f7 := HY2.out.frozen 7
      have e8 := HY2.out.cell 8 rfl
      have f8 := HY2.out.frozen 8
      have e9 := HY2.out.cell 9 rfl
      have f9 := HY2.out.frozen 9
      have e10 := HY2.out.cell 10 rfl
      have f10 := HY2.out.frozen 10
      have hlow : w7.heap.size ≤ Wd.heap.size := by first | exact Nat.le_refl _ | (have := hdz; omega) | exact HBc0.out.size | exact HBc1.out.size
      go_simp
      have g0 : BoxN _ Wd.heap.size 44 #[.int .i64 ia, .int .i64 0, .int .i64 0, .int .i64 0, .int .i64 0, .int .i64 0, .int .i64 0, .int .i64 0, .int .i64 0, .int .i64 0, .int .i64 0] := HY2.out.set 0 (.int .i64 ia)
      have h0 := HBc2.out.setCell (p := ⟨Wd.heap.size, 0, none⟩) hlow (.int .i64 ia)
      have g1 : BoxN _ Wd.heap.size 44 #[.int .i64 ia, .int .i64 (i : Int), .int .i64 0, .int .i64 0, .int .i64 0, .int .i64 0, .int .i64 0, .int .i64 0, .int .i64 0, .int .i64 0, .int .i64 0] := g0.set 1 (.int .i64 (i : Int))
      have h1 := h0.setCell (p := ⟨Wd.heap.size, 1, none⟩) hlow (.int .i64 (i : Int))
      have g2 : BoxN _ Wd.heap.size 44 #[.int .i64 ia, .int .i64 (i : Int), .int .i64 ib, .int .i64 0, .int .i64 0, .int .i64 0, .int .i64 0, .int .i64 0, .int .i64 0, .int .i64 0, .int .i64 0] := g1.set 2 (.int .i64 ib)
      have h2 := h1.setCell (p := ⟨Wd.heap.size, 2, none⟩) hlow (.int .i64 ib)
      have g3 : BoxN _ Wd.heap.size 44 #[.int .i64 ia, .int .i64 (i : Int), .int .i64 ib, .int .i64 (j : Int), .int .i64 0, .int .i64 0, .int .i64 0, .int .i64 0, .int .i64 0, .int .i64 0, .int .i64 0] := g2.set 3 (.int .i64 (j : Int))
      have h3 := h2.setCell (p := ⟨Wd.heap.size, 3, none⟩) hlow (.int .i64 (j : Int))
      have g4 : BoxN _ Wd.heap.size 44 #[.int .i64 ia, .int .i64 (i : Int), .int .i64 ib, .int .i64 (j : Int), .int .i64 0, .int .i64 0, .int .i64 0, .int .i64 0, .int .i64 0, .int .i64 0, .int .i64 0] := g3.set 4 (.int .i64 0)
      have h4 := h3.setCell (p := ⟨Wd.heap.size, 4, none⟩) hlow (.int .i64 0)
      have g5 : BoxN _ Wd.heap.size 44 #[.int .i64 ia, .int .i64 (i : Int), .int .i64 ib, .int .i64 (j : Int), .int .i64 0, .int .i64 0, .int .i64 0, .int .i64 0, .int .i64 0, .int .i64 0, .int .i64 0] := g4.set 5 (.int .i64 0)
      have h5 := h4.setCell (p := ⟨Wd.heap.size, 5, none⟩) hlow (.int .i64 0)
      have g6 : BoxN _ Wd.heap.size 44 #[.int .i64 ia, .int .i64 (i : Int), .int .i64 ib, .int .i64 (j : Int), .int .i64 0, .int .i64 0, .int .i64 0, .int .i64 0, .int .i64 0, .int .i64 0, .int .i64 0] := g5.set 6 (.int .i64 0)
      have h6 := h5.setCell (p := ⟨Wd.heap.size, 6, none⟩) hlow (.int .i64 0)
      have g7 : BoxN _ Wd.heap.size 44 #[.int .i64 ia, .int .i64 (i : Int), .int .i64 ib, .int .i64 (j : Int), .int .i64 0, .int .i64 0, .int .i64 0, .int .i64 0, .int .i64 0, .int .i64 0, .int .i64 0] := g6.set 7 (.int .i64 0)
      have h7 := h6.setCell (p := ⟨Wd.heap.size, 7, none⟩) hlow (.int .i64 0)
      have g8 : BoxN _ Wd.heap.size 44 #[.int .i64 ia, .int .i64 (i : Int), .int .i64 ib, .int .i64 (j : Int), .int .i64 0, .int .i64 0, .int .i64 0, .int .i64 0, .int .i64 0, .int .i64 0, .int .i64 0] := g7.set 8 (.int .i64 0)
      have h8 := h7.setCell (p := ⟨Wd.heap.size, 8, none⟩) hlow (.int .i64 0)
      have g9 : BoxN _ Wd.heap.size 44 #[.int .i64 ia, .int .i64 (i : Int), .int .i64 ib, .int .i64 (j : Int), .int .i64 0, .int .i64 0, .int .i64 0, .int .i64 0, .int .i64 0, .int .i64 (ra : Int), .int .i64 0] := g8.set 9 (.int .i64 (ra : Int))
      have h9 := h8.setCell (p := ⟨Wd.heap.size, 9, none⟩) hlow (.int .i64 (ra : Int))
      have g10 : BoxN _ Wd.heap.size 44 #[.int .i64 ia, .int .i64 (i : Int), .int .i64 ib, .int .i64 (j : Int), .int .i64 0, .int .i64 0, .int .i64 0, .int .i64 0, .int .i64 0, .int .i64 (ra : Int), .int .i64 (rb : Int)] := g9.set 10 (.int .i64 (rb : Int))
      have h10 := h9.setCell (p := ⟨Wd.heap.size, 10, none⟩) hlow (.int .i64 (rb : Int))
      have HGX := hid g10
      have HHX := hid h10
      clear g0 h0 e0 f0 g1 h1 e1 f1 g2 h2 e2 f2 g3 h3 e3 f3 g4 h4 e4 f4 g5 h5 e5 f5 g6 h6 e6 f6 g7 h7 e7 f7 g8 h8 e8 f8 g9 h9 e9 f9 g10 h10 e10 f10
      refine hK.out _ _ (HG.out _ HHX.out) (fun hHeld => ?_)
      clear hK K
      try simp only [Act.put, List.setIfInBounds_toArray, List.set_cons_zero, List.set_cons_succ]
      refine wpAnyH_done (by kernel_rfl) ?_ _
      go_wp2_with fail
      go_meet
      exact ⟨_, rfl, hlow, HHX, HGX⟩
     exact AllReadyH.nil
    exact AllReadyH.nil
   exact AllReadyH.nil
  case rest =>
   obtain ⟨rq, rfl, hrq, HB8, HR8⟩ := hcut
   obtain ⟨w8, rfl⟩ : ∃ W, W = wc := ⟨wc, rfl⟩
   clear HG HRA HRB
   have HMa8 := hid (HMa.out.below HB8.out hma)
   have HMb8 := hid (HMb.out.below HB8.out hmb)
   obtain ⟨D, hown, hno, hz⟩ := HMa8.out
   have HOWN := hid hown
   have HNO := hid hno
   have hr8 := HR8.out.lt
   have hm8 := HMa8.out.lt
   have hz8 := HB8.out.size
   have hab := HRAB.out
   clear hown hno hz HMa HMb
   go_wp2_with (first
    | (at_range; refine wpList_range_own _ rfl _ 129 rfl 9 3 law_strU Tryz.underlying129 _ m5 (setOfL xs).length D rfl HOWN.out ?_; intro w0 hrg0 hg0 hs0)
    | go_in)
   go_frame
   have HRG0 := hid hrg0
   have hcnt := ranges_le hrg0
   have hlx := HLX.out
   have HB0 := hid (HB8.out.grown hg0 hz8 (fun k hk => by cases hk))
   have HR0 := hid (HR8.out.grown hg0 (by intro e; cases e))
   clear hg0
   go_loopw [14] (fun s9 wr => ∃ (left : Lit → Bool) (cnt co oa : Nat) (ma mb la lb : Int), co + oa + cnt ≤ 4096 ∧ (0 ≤ ma ∧ ma ≤ 4096) ∧ (0 ≤ mb ∧ mb ≤ 4096) ∧ (-(4096 * ((co + oa : Nat) : Int)) ≤ la ∧ la ≤ 4096) ∧ (-(4096 * ((co + oa : Nat) : Int)) ≤ lb ∧ lb ≤ 4096) ∧ Hid (wr.ranges Tryz.prog 9 (plainElem (H := Unit) Tryz.prog 3) m5 w8.heap.size (setOfL xs).length D left cnt) ∧ Hid (Below w7.heap.size w7 wr) ∧ Hid (BoxN wr rq 44 #[.int .i64 ia, .int .i64 (i : Int), .int .i64 ib, .int .i64 (j : Int), .int .i64 (co : Int), .int .i64 (oa : Int), .int .i64 0, .int .i64 ma, .int .i64 mb, .int .i64 la, .int .i64 lb]))
    (fun _ wr => wr.rangeLeft m5 w8.heap.size)
   case atStart => exact ⟨_, _, 0, 0, 0, 0, _, _, by omega, by omega, by omega, by omega, by omega, HRG0, HB0, HR0⟩
   case round =>
    clear HRG0 HB0 HR0
    obtain ⟨left, cnt, co, oa, ma, mb, la, lb, hsum, hma2, hmb2, hla2, hlb2, HRG, HB, HR⟩ := hrel
    have hbz := HB.out.size
    go_wp2_with (first
     | (at_next; refine wpList_next_ranges _ rfl _ rfl 9 law_strU (plainElem (H := Unit) Tryz.prog 3) Value.string (Value.int .i64) (fun key kl hkey => Go.Maps.keyOf_string_inv Tryz.underlying9 hkey) (fun v y hv => by obtain ⟨c, rfl, _⟩ := plainElem_int_inv Tryz.underlying3 hv; exact ⟨c, rfl⟩) m5 w8.heap.size (setOfL xs).length D left cnt rfl HRG.out ?_ ?_)
     | go_in)
    ·intro _ hl0
     have hln := (HMb8.out.later (w' := wr) ((HB.out.block _ hmb).trans (HB8.out.block _ hmb).symm)).len
     have hly := HLY.out
     generalize (setOfL ys).length = sy at *
     have c4 := HR.out.cell 4 rfl
     have f6 := HR.out.frozen 6
     have c6 := HR.out.cell 6 rfl
     clear hl0
     go_upto_region 17 with fail
     have HRQ : Hid (BoxN (wr.setCell ⟨rq, 6, none⟩ (.int .i64 ((sy : Int) - (co : Int)))) rq 44 #[.int .i64 ia, .int .i64 (i : Int), .int .i64 ib, .int .i64 (j : Int), .int .i64 (co : Int), .int .i64 (oa : Int), .int .i64 ((sy : Int) - (co : Int)), .int .i64 ma, .int .i64 mb, .int .i64 la, .int .i64 lb]) := hid (HR.out.set 6 _)
     have HBQ := hid (HB.out.setCell (p := ⟨rq, 6, none⟩) hrq (.int .i64 ((sy : Int) - (co : Int))))
     clear c4 c6 f6 hln
     generalize wr.setCell ⟨rq, 6, none⟩ (.int .i64 ((sy : Int) - (co : Int))) = U at *
     generalize ((sy : Int) - (co : Int)) = obv at *
     have hr := HXR.out U HBQ.out
     have y0 := HRQ.out.cell 0 rfl
     have y1 := HRQ.out.cell 1 rfl
     have y2 := HRQ.out.cell 2 rfl
     have y3 := HRQ.out.cell 3 rfl
     have y4 := HRQ.out.cell 4 rfl
     have y5 := HRQ.out.cell 5 rfl
     have y6 := HRQ.out.cell 6 rfl
     have y7 := HRQ.out.cell 7 rfl
     have y8 := HRQ.out.cell 8 rfl
     have y9 := HRQ.out.cell 9 rfl
     have y10 := HRQ.out.cell 10 rfl
     have e0 := hr.cell 0 rfl
     have e1 := hr.cell 1 rfl
     have e2 := hr.cell 2 rfl
     have e3 := hr.cell 3 rfl
     have e4 := hr.cell 4 rfl
     have e5 := hr.cell 5 rfl
     have e6 := hr.cell 6 rfl
     have e7 := hr.cell 7 rfl
     have e8 := hr.cell 8 rfl
     have e9 := hr.cell 9 rfl
     have e10 := hr.cell 10 rfl
     have f0 := hr.frozen 0
     have f1 := hr.frozen 1
     have f2 := hr.frozen 2
     have f3 := hr.frozen 3
     have f4 := hr.frozen 4
     have f5 := hr.frozen 5
     have f6 := hr.frozen 6
     have f7 := hr.frozen 7
     have f8 := hr.frozen 8
     have f9 := hr.frozen 9
     have f10 := hr.frozen 10
     have hr0 : BoxN (U.setCell ⟨w.heap.size + 1 + 1, 0, none⟩ (.int .i64 ia)) (w.heap.size + 1 + 1) 44 #[.int .i64 ia, .int .i64 0, .int .i64 0, .int .i64 0, .int .i64 0, .int .i64 0, .int .i64 0, .int .i64 0, .int .i64 0, .int .i64 0, .int .i64 0] := hr.set 0 (.int .i64 ia)
     have hr1 : BoxN ((U.setCell ⟨w.heap.size + 1 + 1, 0, none⟩ (.int .i64 ia)).setCell ⟨w.heap.size + 1 + 1, 1, none⟩ (.int .i64 (i : Int))) (w.heap.size + 1 + 1) 44 #[.int .i64 ia, .int .i64 (i : Int), .int .i64 0, .int .i64 0, .int .i64 0, .int .i64 0, .int .i64 0, .int .i64 0, .int .i64 0, .int .i64 0, .int .i64 0] := hr0.set 1 (.int .i64 (i : Int))
     have hr2 : BoxN (((U.setCell ⟨w.heap.size + 1 + 1, 0, none⟩ (.int .i64 ia)).setCell ⟨w.heap.size + 1 + 1, 1, none⟩ (.int .i64 (i : Int))).setCell ⟨w.heap.size + 1 + 1, 2, none⟩ (.int .i64 ib)) (w.heap.size + 1 + 1) 44 #[.int .i64 ia, .int .i64 (i : Int), .int .i64 ib, .int .i64 0, .int .i64 0, .int .i64 0, .int .i64 0, .int .i64 0, .int .i64 0, .int .i64 0, .int .i64 0] := hr1.set 2 (.int .i64 ib)
     have hr3 : BoxN ((((U.setCell ⟨w.heap.size + 1 + 1, 0, none⟩ (.int .i64 ia)).setCell ⟨w.heap.size + 1 + 1, 1, none⟩ (.int .i64 (i : Int))).setCell ⟨w.heap.size + 1 + 1, 2, none⟩ (.int .i64 ib)).setCell ⟨w.heap.size + 1 + 1, 3, none⟩ (.int .i64 (j : Int))) (w.heap.size + 1 + 1) 44 #[.int .i64 ia, .int .i64 (i : Int), .int .i64 ib, .int .i64 (j : Int), .int .i64 0, .int .i64 0, .int .i64 0, .int .i64 0, .int .i64 0, .int .i64 0, .int .i64 0] := hr2.set 3 (.int .i64 (j : Int))
     have hr4 : BoxN (((((U.setCell ⟨w.heap.size + 1 + 1, 0, none⟩ (.int .i64 ia)).setCell ⟨w.heap.size + 1 + 1, 1, none⟩ (.int .i64 (i : Int))).setCell ⟨w.heap.size + 1 + 1, 2, none⟩ (.int .i64 ib)).setCell ⟨w.heap.size + 1 + 1, 3, none⟩ (.int .i64 (j : Int))).setCell ⟨w.heap.size + 1 + 1, 4, none⟩ (.int .i64 (co : Int))) (w.heap.size + 1 + 1) 44 #[.int .i64 ia, .int .i64 (i : Int), .int .i64 ib, .int .i64 (j : Int), .int .i64 (co : Int), .int .i64 0, .int .i64 0, .int .i64 0, .int .i64 0, .int .i64 0, .int .i64 0] := hr3.set 4 (.int .i64 (co : Int))
     have hr5 : BoxN ((((((U.setCell ⟨w.heap.size + 1 + 1, 0, none⟩ (.int .i64 ia)).setCell ⟨w.heap.size + 1 + 1, 1, none⟩ (.int .i64 (i : Int))).setCell ⟨w.heap.size + 1 + 1, 2, none⟩ (.int .i64 ib)).setCell ⟨w.heap.size + 1 + 1, 3, none⟩ (.int .i64 (j : Int))).setCell ⟨w.heap.size + 1 + 1, 4, none⟩ (.int .i64 (co : Int))).setCell ⟨w.heap.size + 1 + 1, 5, none⟩ (.int .i64 (oa : Int))) (w.heap.size + 1 + 1) 44 #[.int .i64 ia, .int .i64 (i : Int), .int .i64 ib, .int .i64 (j : Int), .int .i64 (co : Int), .int .i64 (oa : Int), .int .i64 0, .int .i64 0, .int .i64 0, .int .i64 0, .int .i64 0] := hr4.set 5 (.int .i64 (oa : Int))
     have hr6 : BoxN (((((((U.setCell ⟨w.heap.size + 1 + 1, 0, none⟩ (.int .i64 ia)).setCell ⟨w.heap.size + 1 + 1, 1, none⟩ (.int .i64 (i : Int))).setCell ⟨w.heap.size + 1 + 1, 2, none⟩ (.int .i64 ib)).setCell ⟨w.heap.size + 1 + 1, 3, none⟩ (.int .i64 (j : Int))).setCell ⟨w.heap.size + 1 + 1, 4, none⟩ (.int .i64 (co : Int))).setCell ⟨w.heap.size + 1 + 1, 5, none⟩ (.int .i64 (oa : Int))).setCell ⟨w.heap.size + 1 + 1, 6, none⟩ (.int .i64 obv)) (w.heap.size + 1 + 1) 44 #[.int .i64 ia, .int .i64 (i : Int), .int .i64 ib, .int .i64 (j : Int), .int .i64 (co : Int), .int .i64 (oa : Int), .int .i64 obv, .int .i64 0, .int .i64 0, .int .i64 0, .int .i64 0] := hr5.set 6 (.int .i64 obv)
     have hr7 : BoxN ((((((((U.setCell ⟨w.heap.size + 1 + 1, 0, none⟩ (.int .i64 ia)).setCell ⟨w.heap.size + 1 + 1, 1, none⟩ (.int .i64 (i : Int))).setCell ⟨w.heap.size + 1 + 1, 2, none⟩ (.int .i64 ib)).setCell ⟨w.heap.size + 1 + 1, 3, none⟩ (.int .i64 (j : Int))).setCell ⟨w.heap.size + 1 + 1, 4, none⟩ (.int .i64 (co : Int))).setCell ⟨w.heap.size + 1 + 1, 5, none⟩ (.int .i64 (oa : Int))).setCell ⟨w.heap.size + 1 + 1, 6, none⟩ (.int .i64 obv)).setCell ⟨w.heap.size + 1 + 1, 7, none⟩ (.int .i64 ma)) (w.heap.size + 1 + 1) 44 #[.int .i64 ia, .int .i64 (i : Int), .int .i64 ib, .int .i64 (j : Int), .int .i64 (co : Int), .int .i64 (oa : Int), .int .i64 obv, .int .i64 ma, .int .i64 0, .int .i64 0, .int .i64 0] := hr6.set 7 (.int .i64 ma)
     have hr8 : BoxN (((((((((U.setCell ⟨w.heap.size + 1 + 1, 0, none⟩ (.int .i64 ia)).setCell ⟨w.heap.size + 1 + 1, 1, none⟩ (.int .i64 (i : Int))).setCell ⟨w.heap.size + 1 + 1, 2, none⟩ (.int .i64 ib)).setCell ⟨w.heap.size + 1 + 1, 3, none⟩ (.int .i64 (j : Int))).setCell ⟨w.heap.size + 1 + 1, 4, none⟩ (.int .i64 (co : Int))).setCell ⟨w.heap.size + 1 + 1, 5, none⟩ (.int .i64 (oa : Int))).setCell ⟨w.heap.size + 1 + 1, 6, none⟩ (.int .i64 obv)).setCell ⟨w.heap.size + 1 + 1, 7, none⟩ (.int .i64 ma)).setCell ⟨w.heap.size + 1 + 1, 8, none⟩ (.int .i64 mb)) (w.heap.size + 1 + 1) 44 #[.int .i64 ia, .int .i64 (i : Int), .int .i64 ib, .int .i64 (j : Int), .int .i64 (co : Int), .int .i64 (oa : Int), .int .i64 obv, .int .i64 ma, .int .i64 mb, .int .i64 0, .int .i64 0] := hr7.set 8 (.int .i64 mb)
     have hr9 : BoxN ((((((((((U.setCell ⟨w.heap.size + 1 + 1, 0, none⟩ (.int .i64 ia)).setCell ⟨w.heap.size + 1 + 1, 1, none⟩ (.int .i64 (i : Int))).setCell ⟨w.heap.size + 1 + 1, 2, none⟩ (.int .i64 ib)).setCell ⟨w.heap.size + 1 + 1, 3, none⟩ (.int .i64 (j : Int))).setCell ⟨w.heap.size + 1 + 1, 4, none⟩ (.int .i64 (co : Int))).setCell ⟨w.heap.size + 1 + 1, 5, none⟩ (.int .i64 (oa : Int))).setCell ⟨w.heap.size + 1 + 1, 6, none⟩ (.int .i64 obv)).setCell ⟨w.heap.size + 1 + 1, 7, none⟩ (.int .i64 ma)).setCell ⟨w.heap.size + 1 + 1, 8, none⟩ (.int .i64 mb)).setCell ⟨w.heap.size + 1 + 1, 9, none⟩ (.int .i64 la)) (w.heap.size + 1 + 1) 44 #[.int .i64 ia, .int .i64 (i : Int), .int .i64 ib, .int .i64 (j : Int), .int .i64 (co : Int), .int .i64 (oa : Int), .int .i64 obv, .int .i64 ma, .int .i64 mb, .int .i64 la, .int .i64 0] := hr8.set 9 (.int .i64 la)
     have hr10 : BoxN (((((((((((U.setCell ⟨w.heap.size + 1 + 1, 0, none⟩ (.int .i64 ia)).setCell ⟨w.heap.size + 1 + 1, 1, none⟩ (.int .i64 (i : Int))).setCell ⟨w.heap.size + 1 + 1, 2, none⟩ (.int .i64 ib)).setCell ⟨w.heap.size + 1 + 1, 3, none⟩ (.int .i64 (j : Int))).setCell ⟨w.heap.size + 1 + 1, 4, none⟩ (.int .i64 (co : Int))).setCell ⟨w.heap.size + 1 + 1, 5, none⟩ (.int .i64 (oa : Int))).setCell ⟨w.heap.size + 1 + 1, 6, none⟩ (.int .i64 obv)).setCell ⟨w.heap.size + 1 + 1, 7, none⟩ (.int .i64 ma)).setCell ⟨w.heap.size + 1 + 1, 8, none⟩ (.int .i64 mb)).setCell ⟨w.heap.size + 1 + 1, 9, none⟩ (.int .i64 la)).setCell ⟨w.heap.size + 1 + 1, 10, none⟩ (.int .i64 lb)) (w.heap.size + 1 + 1) 44 #[.int .i64 ia, .int .i64 (i : Int), .int .i64 ib, .int .i64 (j : Int), .int .i64 (co : Int), .int .i64 (oa : Int), .int .i64 obv, .int .i64 ma, .int .i64 mb, .int .i64 la, .int .i64 lb] := hr9.set 10 (.int .i64 lb)
     have HRF := hid hr10
     have HTU := hid (HW7.out.trans (HBQ.out.mono HW7.out.size))
     clear hr0 hr1 hr2 hr3 hr4 hr5 hr6 hr7 hr8 hr9 hr10 hr
     go_wp2
     have d0 := HRF.out.cell 0 rfl
     have d1 := HRF.out.cell 1 rfl
     have d2 := HRF.out.cell 2 rfl
     have d3 := HRF.out.cell 3 rfl
     have d4 := HRF.out.cell 4 rfl
     have d5 := HRF.out.cell 5 rfl
     have d6 := HRF.out.cell 6 rfl
     have d7 := HRF.out.cell 7 rfl
     have d8 := HRF.out.cell 8 rfl
     have d9 := HRF.out.cell 9 rfl
     have d10 := HRF.out.cell 10 rfl
     refine bodyPost_ret (v := .tuple #[(⟨ia, (i : Int), ib, (j : Int), (co : Int), (oa : Int), obv, ma, mb, la, lb⟩ : Rl).val, .int .i64 0]) (by simp [results, Tryz.results52, go_sem, d0, d1, d2, d3, d4, d5, d6, d7, d8, d9, d10, Rl.val, Rl.cs]) rfl ⟨co, oa, obv, ma, mb, la, lb, rfl, by omega, ?_⟩
     have := HTU.out
     repeat' (first | (with_reducible exact Below.refl _ _) | (with_reducible assumption) | (with_reducible refine below_drewN ?_) | (with_reducible refine Below.alloc ?_ ?_ _) | (with_reducible refine Below.drew ?_) | (with_reducible refine Below.setCell ?_ ?_ _) | (with_reducible refine Below.trans ?_ (Below.mono (by with_reducible assumption) ?_)) | go_size)
    ·intro x c kl ya yb w1 cnt1 hkey hlk hyv hat hrg1 hlt hg1 hs1 hen
     obtain ⟨rfl, hsx⟩ := key_str_inv hkey
     obtain ⟨hmem, rfl⟩ := entry_cnt HNO.out hyv hat
     have HRG1 := hid hrg1
     have HB1 := hid (HB.out.grown hg1 hbz (fun k hk => by have := Option.some.inj hk; omega))
     have HR1 := hid (HR.out.grown hg1 (by intro e; have := Option.some.inj e; omega))
     have hlk2 := (HMb8.out.later (w' := w1) ((HB1.out.block _ hmb).trans (HB8.out.block _ hmb).symm)).mapI.look hsx
     rw [cntF_get] at hlk2
     have hcx := HCX.out x
     have hcy := HCY.out x
     have HLT : Hid (w1.rangeLeft m5 w8.heap.size < wr.rangeLeft m5 w8.heap.size) := hid (by rw [hrg1.left_eq, HRG.out.left_eq]; exact hlt)
     clear hkey hlk hyv hat hrg1 hg1 hmem HRG HB HR
     generalize cntT xs x = cx at *
     generalize cntT ys x = cy at *
     have c4 := HR1.out.cell 4 rfl
     have f4 := HR1.out.frozen 4
     have c5 := HR1.out.cell 5 rfl
     have f5 := HR1.out.frozen 5
     have c7 := HR1.out.cell 7 rfl
     have f7 := HR1.out.frozen 7
     have c8 := HR1.out.cell 8 rfl
     have f8 := HR1.out.frozen 8
     have c9 := HR1.out.cell 9 rfl
     have f9 := HR1.out.frozen 9
     have c10 := HR1.out.cell 10 rfl
     have f10 := HR1.out.frozen 10
     by_cases hm0 : cy = 0
     ·subst hm0
      have g0 : BoxN _ rq 44 #[.int .i64 ia, .int .i64 (i : Int), .int .i64 ib, .int .i64 (j : Int), .int .i64 (co : Int), .int .i64 ((oa : Int) + 1), .int .i64 0, .int .i64 ma, .int .i64 mb, .int .i64 la, .int .i64 lb] := HR1.out.set 5 (.int .i64 ((oa : Int) + 1))
      have h0 := HB1.out.setCell (p := ⟨rq, 5, none⟩) hrq (.int .i64 ((oa : Int) + 1))
      have r0 := HRG1.out.kept (grown_put _ rq 5 (.int .i64 ((oa : Int) + 1))) (by intro e; have := Option.some.inj e; omega) (by intro e; have := Option.some.inj e; omega)
      have HG5 := hid g0
      have HH5 := hid h0
      have HR5 := hid r0
      clear g0 h0 r0
      go_wp2_with fail
      go_roundw
      case rel => exact ⟨_, cnt1, co, oa + 1, ma, mb, la, lb, by omega, by omega, by omega, by omega, by omega, HR5, HH5, HG5⟩
      case measure => rw [HR5.out.left_eq, ← HRG1.out.left_eq]; exact HLT.out
     ·have hm0i : ¬ ((cy : Int) = 0) := by omega
      have hm0b : ((cy : Int) == 0) = false := beq_false_of_ne hm0i
      have hm0d : decide ((cy : Int) = 0) = false := decide_eq_false hm0i
      obtain ⟨m1, hm1, hm1a⟩ : ∃ z : Int, max ma (cx : Int) = z ∧ 0 ≤ z ∧ z ≤ 4096 := ⟨_, rfl, by omega, by omega⟩
      obtain ⟨m2, hm2, hm2a⟩ : ∃ z : Int, max mb (cy : Int) = z ∧ 0 ≤ z ∧ z ≤ 4096 := ⟨_, rfl, by omega, by omega⟩
      have g0 : BoxN _ rq 44 #[.int .i64 ia, .int .i64 (i : Int), .int .i64 ib, .int .i64 (j : Int), .int .i64 ((co : Int) + 1), .int .i64 (oa : Int), .int .i64 0, .int .i64 ma, .int .i64 mb, .int .i64 la, .int .i64 lb] := HR1.out.set 4 (.int .i64 ((co : Int) + 1))
      have h0 := HB1.out.setCell (p := ⟨rq, 4, none⟩) hrq (.int .i64 ((co : Int) + 1))
      have r0 := HRG1.out.kept (grown_put _ rq 4 (.int .i64 ((co : Int) + 1))) (by intro e; have := Option.some.inj e; omega) (by intro e; have := Option.some.inj e; omega)
      have g1 : BoxN _ rq 44 #[.int .i64 ia, .int .i64 (i : Int), .int .i64 ib, .int .i64 (j : Int), .int .i64 ((co : Int) + 1), .int .i64 (oa : Int), .int .i64 0, .int .i64 m1, .int .i64 mb, .int .i64 la, .int .i64 lb] := g0.set 7 (.int .i64 m1)
      have h1 := h0.setCell (p := ⟨rq, 7, none⟩) hrq (.int .i64 m1)
      have r1 := r0.kept (grown_put _ rq 7 (.int .i64 m1)) (by intro e; have := Option.some.inj e; omega) (by intro e; have := Option.some.inj e; omega)
      have g2 : BoxN _ rq 44 #[.int .i64 ia, .int .i64 (i : Int), .int .i64 ib, .int .i64 (j : Int), .int .i64 ((co : Int) + 1), .int .i64 (oa : Int), .int .i64 0, .int .i64 m1, .int .i64 m2, .int .i64 la, .int .i64 lb] := g1.set 8 (.int .i64 m2)
      have h2 := h1.setCell (p := ⟨rq, 8, none⟩) hrq (.int .i64 m2)
      have r2 := r1.kept (grown_put _ rq 8 (.int .i64 m2)) (by intro e; have := Option.some.inj e; omega) (by intro e; have := Option.some.inj e; omega)
      have g3 : BoxN _ rq 44 #[.int .i64 ia, .int .i64 (i : Int), .int .i64 ib, .int .i64 (j : Int), .int .i64 ((co : Int) + 1), .int .i64 (oa : Int), .int .i64 0, .int .i64 m1, .int .i64 m2, .int .i64 (la - (cx : Int)), .int .i64 lb] := g2.set 9 (.int .i64 (la - (cx : Int)))
      have h3 := h2.setCell (p := ⟨rq, 9, none⟩) hrq (.int .i64 (la - (cx : Int)))
      have r3 := r2.kept (grown_put _ rq 9 (.int .i64 (la - (cx : Int)))) (by intro e; have := Option.some.inj e; omega) (by intro e; have := Option.some.inj e; omega)
      have g4 : BoxN _ rq 44 #[.int .i64 ia, .int .i64 (i : Int), .int .i64 ib, .int .i64 (j : Int), .int .i64 ((co : Int) + 1), .int .i64 (oa : Int), .int .i64 0, .int .i64 m1, .int .i64 m2, .int .i64 (la - (cx : Int)), .int .i64 (lb - (cy : Int))] := g3.set 10 (.int .i64 (lb - (cy : Int)))
      have h4 := h3.setCell (p := ⟨rq, 10, none⟩) hrq (.int .i64 (lb - (cy : Int)))
      have r4 := r3.kept (grown_put _ rq 10 (.int .i64 (lb - (cy : Int)))) (by intro e; have := Option.some.inj e; omega) (by intro e; have := Option.some.inj e; omega)
      have HG5 := hid g4
      have HH5 := hid h4
      have HR5 := hid r4
      clear g0 h0 r0 g1 h1 r1 g2 h2 r2 g3 h3 r3 g4 h4 r4
      go_wp2_with fail
      go_roundw
      case rel => exact ⟨_, cnt1, co + 1, oa, m1, m2, la - (cx : Int), lb - (cy : Int), by omega, by omega, by omega, by omega, by omega, HR5, HH5, HG5⟩
      case measure => rw [HR5.out.left_eq, ← HRG1.out.left_eq]; exact HLT.out
end Go.Proofs.YtaajpliifdlokaaGreatDoor
