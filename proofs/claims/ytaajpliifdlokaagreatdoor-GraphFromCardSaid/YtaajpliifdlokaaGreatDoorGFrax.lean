/- Contract of relation.Of at valid tables. -/
import Derived.Deep.RegionHeld3
import Derived.Test.YtaajpliifdlokaaGreatDoorGFrap
import Derived.Test.YtaajpliifdlokaaGreatDoorGFrav
import Derived.Test.YtaajpliifdlokaaGreatDoorGFraw
set_option linter.unusedVariables false
set_option linter.unusedSimpArgs false
namespace Go.Proofs.YtaajpliifdlokaaGreatDoor
open Go.RowKit
def GivesRl (w : World) (r : Rl) (e : Ending) (w' : World) : Prop := e = .returned (.tuple #[r.val, .int .i64 0]) ∧ Below w.heap.size w w'
theorem tx_len {t : Ta} (h : TabV t) (i : Nat) : (txC t i).length ≤ 4096 := by
  unfold txC
  refine Nat.le_trans (texts_len _) ?_
  obtain ⟨n, hn, hc⟩ := h.2.2.2.2
  by_cases hi : i < t.cols.length
  · have h1 := (hc _ (getD_mem hi Co.z)).2.1
    omega
  · simp [List.getD, List.getElem?_eq_none (Nat.le_of_not_lt hi), Co.z]
theorem tx_size {t : Ta} (h : TabV t) {i : Nat} (hi : i < t.cols.length) : ∀ c ∈ (t.cols.getD i Co.z).cells, c.text.size ≤ maxLen := fun c hc => by
  obtain ⟨n, hn, hcc⟩ := h.2.2.2.2
  have h1 := ((hcc _ (getD_mem hi Co.z)).2.2 c hc).2.1
  unfold maxLen
  omega
theorem tx_cells {t : Ta} (h : TabV t) {i : Nat} (hi : i < t.cols.length) : (t.cols.getD i Co.z).cells.length ≤ 4096 := by
  obtain ⟨n, hn, hc⟩ := h.2.2.2.2
  have h1 := (hc _ (getD_mem hi Co.z)).2.1
  omega
theorem tx_txt {t : Ta} (h : TabV t) {i : Nat} (hi : i < t.cols.length) : ∀ s ∈ txC t i, s.size ≤ maxLen := fun s hs => by
  obtain ⟨c, hc, rfl⟩ := List.mem_map.1 hs
  exact tx_size h hi c (List.mem_filter.1 hc).1
theorem rows_4096 {t : Ta} (h : TabV t) : rowsC t.cols ≤ 4096 := by
  obtain ⟨n, hn, hc⟩ := h.2.2.2.2
  unfold rowsC
  by_cases hi : 0 < t.cols.length
  · have h1 := (hc _ (getD_mem hi Co.z)).2.1
    omega
  · simp [List.getD, List.getElem?_eq_none (Nat.le_of_not_lt hi), Co.z]
set_option maxRecDepth 100000 in
set_option maxHeartbeats 8000000 in
theorem rel_Of (a b : Ta) (u v : Value) (i j B : Nat) (w : World) (ha : TabV a) (hb : TabV b) (hi : i < a.cols.length) (hj : j < b.cols.length) (hu : RdCo w (· < B) u a.cols) (hv : RdCo w (· < B) v b.cols) (hB : B ≤ w.heap.size) (hT : Tabs w) :
  Calls Tryz.prog 42 #[.agg #[.int .i64 a.id, .string a.name, u], .int .i64 (i : Int), .agg #[.int .i64 b.id, .string b.name, v], .int .i64 (j : Int)] w (GivesRl w (relL a b i j)) := by
 have huk := fun W (hW : Below w.heap.size w W) => (hu.keep (w' := W) fun p (hp : p.block < B) => hW.cell (p := p) (by omega))
 have hvk := fun W (hW : Below w.heap.size w W) => (hv.keep (w' := W) fun p (hp : p.block < B) => hW.cell (p := p) (by omega))
 have HV1 := hid (fun W (hW : Below w.heap.size w W) => table_Valid a u B W ha (huk W hW) (Nat.le_trans hB hW.size) (hT.below hW))
 have HV2 := hid (fun W (hW : Below w.heap.size w W) => table_Valid b v B W hb (hvk W hW) (Nat.le_trans hB hW.size) (hT.below hW))
 have HR1 := hid (fun W (hW : Below w.heap.size w W) => table_Rows a.id a.name u a.cols B W (huk W hW) (Nat.le_trans hB hW.size))
 have HR2 := hid (fun W (hW : Below w.heap.size w W) => table_Rows b.id b.name v b.cols B W (hvk W hW) (Nat.le_trans hB hW.size))
 obtain ⟨b1, o1, c1, u1, rfl, hS1, hcl1, k0, k1⟩ := co_at hu hi
 obtain ⟨b2, o2, c2, u2, rfl, hS2, hcl2, l0, l1⟩ := co_at hv hj
 have hb1w : b1 < w.heap.size := Nat.lt_of_lt_of_le hS1 hB
 have hb2w : b2 < w.heap.size := Nat.lt_of_lt_of_le hS2 hB
 have HC1 : Hid (∀ W, Below w.heap.size w W → Calls Tryz.prog 85 #[.agg #[.string (a.cols.getD i Co.z).name, u1]] W (GivesC W (txC a i))) := hid (fun W (hW : Below w.heap.size w W) => (rel_counts (a.cols.getD i Co.z).name (a.cols.getD i Co.z).cells u1 B W (hcl1.keep fun p (hp : p.block < B) => hW.cell (p := p) (by omega)) (Nat.le_trans hB hW.size) (tx_cells ha hi) (tx_size ha hi)))
 have HC2 : Hid (∀ W, Below w.heap.size w W → Calls Tryz.prog 85 #[.agg #[.string (b.cols.getD j Co.z).name, u2]] W (GivesC W (txC b j))) := hid (fun W (hW : Below w.heap.size w W) => (rel_counts (b.cols.getD j Co.z).name (b.cols.getD j Co.z).cells u2 B W (hcl2.keep fun p (hp : p.block < B) => hW.cell (p := p) (by omega)) (Nat.le_trans hB hW.size) (tx_cells hb hj) (tx_size hb hj)))
 have HA1 := hid (fun W x y (h1 : MapC W x (txC a i)) (h2 : MapC W y (txC b j)) => rel_against x y (txC a i) (txC b j) (rowsC a.cols) W h1 h2 (tx_len ha i) (tx_len hb j) (rows_4096 ha) (tx_txt ha hi))
 have HA2 := hid (fun W x y (h1 : MapC W x (txC a i)) (h2 : MapC W y (txC b j)) => rel_against y x (txC b j) (txC a i) (rowsC b.cols) W h2 h1 (tx_len hb j) (tx_len ha i) (rows_4096 hb) (tx_txt hb hj))
 have HLX : Hid ((setOfL (txC a i)).length ≤ 4096 ∧ (cmK (txC a i) (txC b j)).length ≤ (setOfL (txC a i)).length) := hid ⟨Nat.le_trans (setOfL_len _) (tx_len ha i), cmK_len _ _⟩
 have HLY : Hid ((setOfL (txC b j)).length ≤ 4096 ∧ (cmK (txC a i) (txC b j)).length ≤ (setOfL (txC b j)).length) := hid ⟨Nat.le_trans (setOfL_len _) (tx_len hb j), by rw [cmK_comm]; exact cmK_len _ _⟩
 have HREL : Hid ((relL a b i j).cs = [.int .i64 a.id, .int .i64 (i : Int), .int .i64 b.id, .int .i64 (j : Int), .int .i64 ((cmK (txC a i) (txC b j)).length : Int), .int .i64 (((setOfL (txC a i)).length : Int) - (cmK (txC a i) (txC b j)).length), .int .i64 (((setOfL (txC b j)).length : Int) - (cmK (txC a i) (txC b j)).length),
  .int .i64 (mostK (txC a i) (txC b j) : Int), .int .i64 (mostK (txC b j) (txC a i) : Int), .int .i64 ((rowsC a.cols : Int) - takenK (txC a i) (txC b j)), .int .i64 ((rowsC b.cols : Int) - takenK (txC b j) (txC a i))]) := hid rfl
 have HK := hid (fun W (hW : Below w.heap.size w W) => (⟨(hW.cell (p := ⟨b1, o1 + i * 2, none⟩) hb1w).trans k0, (hW.cell (p := ⟨b1, o1 + i * 2 + 1, none⟩) hb1w).trans k1, (hW.cell (p := ⟨b2, o2 + j * 2, none⟩) hb2w).trans l0, (hW.cell (p := ⟨b2, o2 + j * 2 + 1, none⟩) hb2w).trans l1⟩ : W.cell? ⟨b1, o1 + i * 2, none⟩ = some (.string (a.cols.getD i Co.z).name) ∧ W.cell? ⟨b1, o1 + i * 2 + 1, none⟩ = some u1 ∧ W.cell? ⟨b2, o2 + j * 2, none⟩ = some (.string (b.cols.getD j Co.z).name) ∧ W.cell? ⟨b2, o2 + j * 2 + 1, none⟩ = some u2))
 have hla : a.cols.length ≤ 64 := ha.2.2.2.1
 have hlb : b.cols.length ≤ 64 := hb.2.2.2.1
 have hir : (i : Int) < (a.cols.length : Int) := by omega
 have hjr : (j : Int) < (b.cols.length : Int) := by omega
 clear hcl1 hcl2 huk hvk hu hv hT ha hb k0 k1 l0 l1 hS1 hS2
 generalize txC a i = xs at *
 generalize txC b j = ys at *
 generalize (relL a b i j) = R at *
 generalize (a.cols.getD i Co.z).name = n1 at *
 generalize (a.cols.getD i Co.z).cells = cl1 at *
 generalize (b.cols.getD j Co.z).name = n2 at *
 generalize (b.cols.getD j Co.z).cells = cl2 at *
 generalize rowsC a.cols = ra at *
 generalize rowsC b.cols = rb at *
 obtain ⟨ia, na, ca⟩ := a
 obtain ⟨ib, nb, cb⟩ := b
 simp only at *
 generalize ca.length = La at *
 generalize cb.length = Lb at *
 have hx1 := ((BoxN.new w #[.int .i64 ia, .string na, .slice (some ⟨b1, o1, none⟩) La c1] 51).alloc (.cells #[.int .i64 ib, .string nb, .slice (some ⟨b2, o2, none⟩) Lb c2] 51)).alloc (.cells #[.int .i64 0, .int .i64 0, .int .i64 0, .int .i64 0, .int .i64 0, .int .i64 0, .int .i64 0, .int .i64 0, .int .i64 0, .int .i64 0, .int .i64 0] 44)
 have hx2 := (BoxN.new (w.alloc (.cells #[.int .i64 ia, .string na, .slice (some ⟨b1, o1, none⟩) La c1] 51)) #[.int .i64 ib, .string nb, .slice (some ⟨b2, o2, none⟩) Lb c2] 51).alloc (.cells #[.int .i64 0, .int .i64 0, .int .i64 0, .int .i64 0, .int .i64 0, .int .i64 0, .int .i64 0, .int .i64 0, .int .i64 0, .int .i64 0, .int .i64 0] 44)
 have hx3 := BoxN.new ((w.alloc (.cells #[.int .i64 ia, .string na, .slice (some ⟨b1, o1, none⟩) La c1] 51)).alloc (.cells #[.int .i64 ib, .string nb, .slice (some ⟨b2, o2, none⟩) Lb c2] 51)) #[.int .i64 0, .int .i64 0, .int .i64 0, .int .i64 0, .int .i64 0, .int .i64 0, .int .i64 0, .int .i64 0, .int .i64 0, .int .i64 0, .int .i64 0] 44
 have hs0 := (((Below.refl w.heap.size w).alloc (Nat.le_refl _) (.cells #[.int .i64 ia, .string na, .slice (some ⟨b1, o1, none⟩) La c1] 51)).alloc (by simp) (.cells #[.int .i64 ib, .string nb, .slice (some ⟨b2, o2, none⟩) Lb c2] 51)).alloc (by simp; omega) (.cells #[.int .i64 0, .int .i64 0, .int .i64 0, .int .i64 0, .int .i64 0, .int .i64 0, .int .i64 0, .int .i64 0, .int .i64 0, .int .i64 0, .int .i64 0] 44)
 simp only [World.size_alloc] at hx2 hx3
 obtain ⟨W0, hW0⟩ : ∃ W, W = ((w.alloc (.cells #[.int .i64 ia, .string na, .slice (some ⟨b1, o1, none⟩) La c1] 51)).alloc (.cells #[.int .i64 ib, .string nb, .slice (some ⟨b2, o2, none⟩) Lb c2] 51)).alloc (.cells #[.int .i64 0, .int .i64 0, .int .i64 0, .int .i64 0, .int .i64 0, .int .i64 0, .int .i64 0, .int .i64 0, .int .i64 0, .int .i64 0, .int .i64 0] 44) := ⟨_, rfl⟩
 rw [← hW0] at hx1 hx2 hx3 hs0
 have HX1 := hid (fun W (hW : Below W0.heap.size W0 W) => hx1.below hW hx1.lt)
 have HX2 := hid (fun W (hW : Below W0.heap.size W0 W) => hx2.below hW hx2.lt)
 have HX3 := hid (fun W (hW : Below W0.heap.size W0 W) => hx3.below hW hx3.lt)
 have HS0 := hid hs0
 have hl3 := hx3.lt
 have a0 := hx1.cell 0 rfl
 have a1 := hx1.cell 1 rfl
 have a2 := hx1.cell 2 rfl
 rw [hW0] at a0 a1 a2
 clear hx1 hx2 hx3 hs0
 go_enter Tryz.func42, Tryz.ntmps42
 go_wp2_with fail
 rw [← hW0]
 clear hW0 a0 a1 a2
 with_reducible refine (HV1.out W0 HS0.out).mono ?_
 rintro e w1 ⟨rfl, hb1⟩
 have HS1 := hid hb1
 have HT1 := hid (HS0.out.trans (hb1.mono HS0.out.size))
 have b0 := (HX2.out w1 hb1).cell 0 rfl
 have b1' := (HX2.out w1 hb1).cell 1 rfl
 have b2' := (HX2.out w1 hb1).cell 2 rfl
 clear hb1
 go_wp2_with fail
 clear b0 b1' b2'
 with_reducible refine (HV2.out w1 HT1.out).mono ?_
 rintro e w2 ⟨rfl, hb2⟩
 have HS2 := hid (HS1.out.trans (hb2.mono HS1.out.size))
 have HT2 := hid (HS0.out.trans (HS2.out.mono HS0.out.size))
 have a0 := (HX1.out w2 HS2.out).cell 0 rfl
 have a1 := (HX1.out w2 HS2.out).cell 1 rfl
 have a2 := (HX1.out w2 HS2.out).cell 2 rfl
 have b0 := (HX2.out w2 HS2.out).cell 0 rfl
 have b1' := (HX2.out w2 HS2.out).cell 1 rfl
 have b2' := (HX2.out w2 HS2.out).cell 2 rfl
 have q0 : ¬ (i : Int) < 0 := by omega
 have q1 : ¬ (La : Int) ≤ (i : Int) := by omega
 have q2 : ¬ (j : Int) < 0 := by omega
 have q3 : ¬ (Lb : Int) ≤ (j : Int) := by omega
 clear hb2 HV1 HV2 HS1 HT1
 go_upto_region 5 with fail
 clear a0 a1 a2 b0 b1' b2'
 have HG := hid (fun W (hW : Below w2.heap.size w2 W) => (by
  have h1 := HS2.out.trans (hW.mono HS2.out.size)
  exact ⟨(HX1.out W h1).cell 2 rfl, (HX2.out W h1).cell 2 rfl, HK.out W (HS0.out.trans (h1.mono HS0.out.size))⟩ : W.cell? ⟨w.heap.size, 2, none⟩ = some (.slice (some ⟨b1, o1, none⟩) La c1) ∧ W.cell? ⟨w.heap.size + 1, 2, none⟩ = some (.slice (some ⟨b2, o2, none⟩) Lb c2) ∧ W.cell? ⟨b1, o1 + i * 2, none⟩ = some (.string n1) ∧ W.cell? ⟨b1, o1 + i * 2 + 1, none⟩ = some u1 ∧ W.cell? ⟨b2, o2 + j * 2, none⟩ = some (.string n2) ∧ W.cell? ⟨b2, o2 + j * 2 + 1, none⟩ = some u2))
 have HQ1 := hid (fun W (hW : Below w2.heap.size w2 W) => HC1.out W (HT2.out.trans (hW.mono HT2.out.size)))
 have HQ2 := hid (fun W (hW : Below w2.heap.size w2 W) => HC2.out W (HT2.out.trans (hW.mono HT2.out.size)))
 have HD2 := hid (Below.refl w2.heap.size w2)
 go_region_held3 (fun W => W.cell? ⟨w.heap.size, 2, none⟩ = some (.slice (some ⟨b1, o1, none⟩) La c1) ∧ W.cell? ⟨w.heap.size + 1, 2, none⟩ = some (.slice (some ⟨b2, o2, none⟩) Lb c2) ∧ W.cell? ⟨b1, o1 + i * 2, none⟩ = some (.string n1) ∧ W.cell? ⟨b1, o1 + i * 2 + 1, none⟩ = some u1 ∧ W.cell? ⟨b2, o2 + j * 2, none⟩ = some (.string n2) ∧ W.cell? ⟨b2, o2 + j * 2 + 1, none⟩ = some u2)
  (first | exact HG.out _ (Below.refl w2.heap.size w2).drew | exact HG.out _ HC5.out | exact HG.out _ HC6.out | go_keep)
  ((go_at_call 85; go_must (first
   | ((with_reducible refine (HQ1.out _ (by first | (have h1 := HC6.out; have h2 := HC6.out.size; repeat' (first | (with_reducible exact Below.refl _ _) | (with_reducible assumption) | (with_reducible refine below_drewN ?_) | (with_reducible refine Below.alloc ?_ ?_ _) | (with_reducible refine Below.drew ?_) | (with_reducible refine Below.setCell ?_ ?_ _) | (with_reducible refine Below.trans ?_ (Below.mono (by with_reducible assumption) ?_)) | go_size)) | (have h1 := HD2.out; have h2 := HD2.out.size; repeat' (first | (with_reducible exact Below.refl _ _) | (with_reducible assumption) | (with_reducible refine below_drewN ?_) | (with_reducible refine Below.alloc ?_ ?_ _) | (with_reducible refine Below.drew ?_) | (with_reducible refine Below.setCell ?_ ?_ _) | (with_reducible refine Below.trans ?_ (Below.mono (by with_reducible assumption) ?_)) | go_size)))).mono ?_); rintro e w5 ⟨m5, rfl, hm5, hc5, hb5⟩; have HC5 : Hid (Below w2.heap.size w2 w5) := hid (by first | (have h1 := HC6.out; have h2 := HC6.out.size; repeat' (first | (with_reducible exact Below.refl _ _) | (with_reducible assumption) | (with_reducible refine below_drewN ?_) | (with_reducible refine Below.alloc ?_ ?_ _) | (with_reducible refine Below.drew ?_) | (with_reducible refine Below.setCell ?_ ?_ _) | (with_reducible refine Below.trans ?_ (Below.mono (by with_reducible assumption) ?_)) | go_size)) | (have h1 := HD2.out; have h2 := HD2.out.size; repeat' (first | (with_reducible exact Below.refl _ _) | (with_reducible assumption) | (with_reducible refine below_drewN ?_) | (with_reducible refine Below.alloc ?_ ?_ _) | (with_reducible refine Below.drew ?_) | (with_reducible refine Below.setCell ?_ ?_ _) | (with_reducible refine Below.trans ?_ (Below.mono (by with_reducible assumption) ?_)) | go_size))); have HM5 := hid hc5; have HB5 := hid hb5; clear hb5 hc5)
   | ((with_reducible refine (HQ2.out _ (by first | (have h1 := HC5.out; have h2 := HC5.out.size; repeat' (first | (with_reducible exact Below.refl _ _) | (with_reducible assumption) | (with_reducible refine below_drewN ?_) | (with_reducible refine Below.alloc ?_ ?_ _) | (with_reducible refine Below.drew ?_) | (with_reducible refine Below.setCell ?_ ?_ _) | (with_reducible refine Below.trans ?_ (Below.mono (by with_reducible assumption) ?_)) | go_size)) | (have h1 := HD2.out; have h2 := HD2.out.size; repeat' (first | (with_reducible exact Below.refl _ _) | (with_reducible assumption) | (with_reducible refine below_drewN ?_) | (with_reducible refine Below.alloc ?_ ?_ _) | (with_reducible refine Below.drew ?_) | (with_reducible refine Below.setCell ?_ ?_ _) | (with_reducible refine Below.trans ?_ (Below.mono (by with_reducible assumption) ?_)) | go_size)))).mono ?_); rintro e w6 ⟨m6, rfl, hm6, hc6, hb6⟩; have HC6 : Hid (Below w2.heap.size w2 w6) := hid (by first | (have h1 := HC5.out; have h2 := HC5.out.size; repeat' (first | (with_reducible exact Below.refl _ _) | (with_reducible assumption) | (with_reducible refine below_drewN ?_) | (with_reducible refine Below.alloc ?_ ?_ _) | (with_reducible refine Below.drew ?_) | (with_reducible refine Below.setCell ?_ ?_ _) | (with_reducible refine Below.trans ?_ (Below.mono (by with_reducible assumption) ?_)) | go_size)) | (have h1 := HD2.out; have h2 := HD2.out.size; repeat' (first | (with_reducible exact Below.refl _ _) | (with_reducible assumption) | (with_reducible refine below_drewN ?_) | (with_reducible refine Below.alloc ?_ ?_ _) | (with_reducible refine Below.drew ?_) | (with_reducible refine Below.setCell ?_ ?_ _) | (with_reducible refine Below.trans ?_ (Below.mono (by with_reducible assumption) ?_)) | go_size))); have HM6 := hid hc6; have HB6 := hid hb6; clear hb6 hc6))))
 all_goals
  first
   | (have HMa := hid (HM5.out.below HB6.out HM5.out.lt); have HMb := HM6; have HC7 := HC6; clear HM5 HM6 HC5 HC6 HB5 HB6; obtain ⟨w7, rfl⟩ : ∃ W, W = w6 := ⟨_, rfl⟩)
   | (have HMb := hid (HM6.out.below HB5.out HM6.out.lt); have HMa := HM5; have HC7 := HC6; clear HM5 HM6 HC5 HC6 HB5 HB6; obtain ⟨w7, rfl⟩ : ∃ W, W = w5 := ⟨_, rfl⟩)
   | (have HMb := hid (HM6.out.below HB5.out HM6.out.lt); have HMa := HM5; have HC7 := HC5; clear HM5 HM6 HC5 HC6 HB5 HB6; obtain ⟨w7, rfl⟩ : ∃ W, W = w5 := ⟨_, rfl⟩)
  have HS7 := hid (HS2.out.trans (HC7.out.mono HS2.out.size))
  have h7l := HS7.out.size
  have hma := HMa.out.lt
  have hmb := HMb.out.lt
  clear HG HQ1 HQ2 HD2 HC7 HS2 HT2 HC1 HC2 HK
  obtain ⟨X, hX⟩ : ∃ W, W = w7.alloc (.cells #[.int .i64 ia, .int .i64 (i : Int), .int .i64 ib, .int .i64 (j : Int), .int .i64 0, .int .i64 0, .int .i64 0, .int .i64 0, .int .i64 0, .int .i64 0, .int .i64 0] 44) := ⟨_, rfl⟩
  have hy := BoxN.new w7 #[.int .i64 ia, .int .i64 (i : Int), .int .i64 ib, .int .i64 (j : Int), .int .i64 0, .int .i64 0, .int .i64 0, .int .i64 0, .int .i64 0, .int .i64 0, .int .i64 0] 44
  have hsx := (Below.refl w7.heap.size w7).alloc (Nat.le_refl _) (.cells #[.int .i64 ia, .int .i64 (i : Int), .int .i64 ib, .int .i64 (j : Int), .int .i64 0, .int .i64 0, .int .i64 0, .int .i64 0, .int .i64 0, .int .i64 0, .int .i64 0] 44)
  rw [← hX] at hy hsx
  have HY := hid hy
  have HSX := hid hsx
  have hyl := hy.lt
  have HTX := hid (HS0.out.trans ((HS7.out.trans (hsx.mono h7l)).mono HS0.out.size))
  have hs0 := HS0.out.size
  have hsxs := hsx.size
  have a0 := (HX1.out w7 HS7.out).cell 0 rfl
  have a2 := (HX2.out w7 HS7.out).cell 0 rfl
  have a3 := (HX1.out X (HS7.out.trans (hsx.mono h7l))).cell 0 rfl
  have a4 := (HX1.out X (HS7.out.trans (hsx.mono h7l))).cell 1 rfl
  have a5 := (HX1.out X (HS7.out.trans (hsx.mono h7l))).cell 2 rfl
  rw [hX] at a3 a4 a5
  clear hy hsx
  go_wp2_with fail
  rw [← hX]
  clear hX a0 a2 a3 a4 a5
  with_reducible refine (HR1.out X HTX.out).mono ?_
  rintro e w8 ⟨rfl, hb8⟩
  have HB8 := hid (HSX.out.trans (hb8.mono hsxs))
  have HY8 := hid (HY.out.below hb8 hyl)
  clear hb8 HY
  go_wp2_with fail
  with_reducible refine (HA1.out w8 m5 m6 (HMa.out.below HB8.out hma) (HMb.out.below HB8.out hmb)).mono ?_
  rintro e w9 ⟨rfl, hb9⟩
  have HB9 := hid (HB8.out.trans (hb9.mono HB8.out.size))
  have HY9 := hid (HY8.out.below hb9 HY8.out.lt)
  have f4 := HY9.out.frozen 4
  have f7 := HY9.out.frozen 7
  have f9 := HY9.out.frozen 9
  have y4 := HY9.out.cell 4 rfl
  have y7 := HY9.out.cell 7 rfl
  have y9 := HY9.out.cell 9 rfl
  clear hb9 HY8
  go_upto_region 8 with fail
  obtain ⟨Y, hYE⟩ : ∃ W, W = ((w9.setCell ⟨w7.heap.size, 4, none⟩ (.int .i64 ((cmK xs ys).length : Int))).setCell ⟨w7.heap.size, 7, none⟩ (.int .i64 (mostK xs ys : Int))).setCell ⟨w7.heap.size, 9, none⟩ (.int .i64 ((ra : Int) - (takenK xs ys : Int))) := ⟨_, rfl⟩
  have gy0 : BoxN (w9.setCell ⟨w7.heap.size, 4, none⟩ (.int .i64 ((cmK xs ys).length : Int))) w7.heap.size 44 #[.int .i64 ia, .int .i64 (i : Int), .int .i64 ib, .int .i64 (j : Int), .int .i64 ((cmK xs ys).length : Int), .int .i64 0, .int .i64 0, .int .i64 0, .int .i64 0, .int .i64 0, .int .i64 0] := HY9.out.set 4 (.int .i64 ((cmK xs ys).length : Int))
  have gy1 : BoxN ((w9.setCell ⟨w7.heap.size, 4, none⟩ (.int .i64 ((cmK xs ys).length : Int))).setCell ⟨w7.heap.size, 7, none⟩ (.int .i64 (mostK xs ys : Int))) w7.heap.size 44 #[.int .i64 ia, .int .i64 (i : Int), .int .i64 ib, .int .i64 (j : Int), .int .i64 ((cmK xs ys).length : Int), .int .i64 0, .int .i64 0, .int .i64 (mostK xs ys : Int), .int .i64 0, .int .i64 0, .int .i64 0] := gy0.set 7 (.int .i64 (mostK xs ys : Int))
  have gy2 : BoxN (((w9.setCell ⟨w7.heap.size, 4, none⟩ (.int .i64 ((cmK xs ys).length : Int))).setCell ⟨w7.heap.size, 7, none⟩ (.int .i64 (mostK xs ys : Int))).setCell ⟨w7.heap.size, 9, none⟩ (.int .i64 ((ra : Int) - (takenK xs ys : Int)))) w7.heap.size 44 #[.int .i64 ia, .int .i64 (i : Int), .int .i64 ib, .int .i64 (j : Int), .int .i64 ((cmK xs ys).length : Int), .int .i64 0, .int .i64 0, .int .i64 (mostK xs ys : Int), .int .i64 0, .int .i64 ((ra : Int) - (takenK xs ys : Int)), .int .i64 0] := gy1.set 9 (.int .i64 ((ra : Int) - (takenK xs ys : Int)))
  have hyy := gy2
  have hby := ((HB9.out.setCell (p := ⟨w7.heap.size, 4, none⟩) (Nat.le_refl _) (.int .i64 ((cmK xs ys).length : Int))).setCell (p := ⟨w7.heap.size, 7, none⟩) (Nat.le_refl _) (.int .i64 (mostK xs ys : Int))).setCell (p := ⟨w7.heap.size, 9, none⟩) (Nat.le_refl _) (.int .i64 ((ra : Int) - (takenK xs ys : Int)))
  rw [← hYE] at hyy hby
  rw [← hYE]
  clear gy0 gy1 gy2 hYE HY9 HB9 f4 f7 f9 y4 y7 y9
  have HYY := hid hyy
  have HBY := hid hby
  have hbys := hby.size
  have HTY := hid (HS0.out.trans ((HS7.out.trans (hby.mono h7l)).mono HS0.out.size))
  have a3 := (HX2.out Y (HS7.out.trans (hby.mono h7l))).cell 0 rfl
  have a4 := (HX2.out Y (HS7.out.trans (hby.mono h7l))).cell 1 rfl
  have a5 := (HX2.out Y (HS7.out.trans (hby.mono h7l))).cell 2 rfl
  clear hyy hby
  go_wp2_with fail
  clear a3 a4 a5
  with_reducible refine (HR2.out Y HTY.out).mono ?_
  rintro e w10 ⟨rfl, hb10⟩
  have HB10 := hid (HBY.out.trans (hb10.mono hbys))
  have HY10 := hid (HYY.out.below hb10 HYY.out.lt)
  clear hb10 HYY HBY
  go_wp2_with fail
  with_reducible refine (HA2.out w10 m5 m6 (HMa.out.below HB10.out hma) (HMb.out.below HB10.out hmb)).mono ?_
  rintro e w11 ⟨rfl, hb11⟩
  have HB11 := hid (HB10.out.trans (hb11.mono HB10.out.size))
  have HY11 := hid (HY10.out.below hb11 HY10.out.lt)
  have f4 := HY11.out.frozen 8
  have f7 := HY11.out.frozen 10
  have y4 := HY11.out.cell 8 rfl
  have y7 := HY11.out.cell 10 rfl
  clear hb11 HY10
  go_upto_region 9 with fail
  obtain ⟨Z, hZE⟩ : ∃ W, W = (w11.setCell ⟨w7.heap.size, 8, none⟩ (.int .i64 (mostK ys xs : Int))).setCell ⟨w7.heap.size, 10, none⟩ (.int .i64 ((rb : Int) - (takenK ys xs : Int))) := ⟨_, rfl⟩
  have gz0 : BoxN (w11.setCell ⟨w7.heap.size, 8, none⟩ (.int .i64 (mostK ys xs : Int))) w7.heap.size 44 #[.int .i64 ia, .int .i64 (i : Int), .int .i64 ib, .int .i64 (j : Int), .int .i64 ((cmK xs ys).length : Int), .int .i64 0, .int .i64 0, .int .i64 (mostK xs ys : Int), .int .i64 (mostK ys xs : Int), .int .i64 ((ra : Int) - (takenK xs ys : Int)), .int .i64 0] := HY11.out.set 8 (.int .i64 (mostK ys xs : Int))
  have gz1 : BoxN ((w11.setCell ⟨w7.heap.size, 8, none⟩ (.int .i64 (mostK ys xs : Int))).setCell ⟨w7.heap.size, 10, none⟩ (.int .i64 ((rb : Int) - (takenK ys xs : Int)))) w7.heap.size 44 #[.int .i64 ia, .int .i64 (i : Int), .int .i64 ib, .int .i64 (j : Int), .int .i64 ((cmK xs ys).length : Int), .int .i64 0, .int .i64 0, .int .i64 (mostK xs ys : Int), .int .i64 (mostK ys xs : Int), .int .i64 ((ra : Int) - (takenK xs ys : Int)), .int .i64 ((rb : Int) - (takenK ys xs : Int))] := gz0.set 10 (.int .i64 ((rb : Int) - (takenK ys xs : Int)))
  have hyy := gz1
  have hby := (HB11.out.setCell (p := ⟨w7.heap.size, 8, none⟩) (Nat.le_refl _) (.int .i64 (mostK ys xs : Int))).setCell (p := ⟨w7.heap.size, 10, none⟩) (Nat.le_refl _) (.int .i64 ((rb : Int) - (takenK ys xs : Int)))
  rw [← hZE] at hyy hby
  rw [← hZE]
  clear gz0 gz1 hZE HY11 HB11 f4 f7 y4 y7
  have HYY := hid hyy
  have HBY := hid hby
  have ln1 := (HMa.out.below hby hma).len
  have ln2 := (HMb.out.below hby hmb).len
  have hlx := HLX.out
  have hly := HLY.out
  have y4 := hyy.cell 4 rfl
  have y5 := hyy.cell 5 rfl
  have y6 := hyy.cell 6 rfl
  have f5 := hyy.frozen 5
  have f6 := hyy.frozen 6
  clear hyy hby
  generalize (setOfL xs).length = sx at *
  generalize (setOfL ys).length = sy at *
  generalize (cmK xs ys).length = cm at *
  go_upto_region 10 with fail
  obtain ⟨U, hUE⟩ : ∃ W, W = (Z.setCell ⟨w7.heap.size, 5, none⟩ (.int .i64 ((sx : Int) - (cm : Int)))).setCell ⟨w7.heap.size, 6, none⟩ (.int .i64 ((sy : Int) - (cm : Int))) := ⟨_, rfl⟩
  have gu0 : BoxN (Z.setCell ⟨w7.heap.size, 5, none⟩ (.int .i64 ((sx : Int) - (cm : Int)))) w7.heap.size 44 #[.int .i64 ia, .int .i64 (i : Int), .int .i64 ib, .int .i64 (j : Int), .int .i64 (cm : Int), .int .i64 ((sx : Int) - (cm : Int)), .int .i64 0, .int .i64 (mostK xs ys : Int), .int .i64 (mostK ys xs : Int), .int .i64 ((ra : Int) - (takenK xs ys : Int)), .int .i64 ((rb : Int) - (takenK ys xs : Int))] := HYY.out.set 5 (.int .i64 ((sx : Int) - (cm : Int)))
  have gu1 : BoxN ((Z.setCell ⟨w7.heap.size, 5, none⟩ (.int .i64 ((sx : Int) - (cm : Int)))).setCell ⟨w7.heap.size, 6, none⟩ (.int .i64 ((sy : Int) - (cm : Int)))) w7.heap.size 44 #[.int .i64 ia, .int .i64 (i : Int), .int .i64 ib, .int .i64 (j : Int), .int .i64 (cm : Int), .int .i64 ((sx : Int) - (cm : Int)), .int .i64 ((sy : Int) - (cm : Int)), .int .i64 (mostK xs ys : Int), .int .i64 (mostK ys xs : Int), .int .i64 ((ra : Int) - (takenK xs ys : Int)), .int .i64 ((rb : Int) - (takenK ys xs : Int))] := gu0.set 6 (.int .i64 ((sy : Int) - (cm : Int)))
  have hyy := gu1
  have hby := (HBY.out.setCell (p := ⟨w7.heap.size, 5, none⟩) (Nat.le_refl _) (.int .i64 ((sx : Int) - (cm : Int)))).setCell (p := ⟨w7.heap.size, 6, none⟩) (Nat.le_refl _) (.int .i64 ((sy : Int) - (cm : Int)))
  rw [← hUE] at hyy hby
  rw [← hUE]
  clear hUE HYY HBY y4 y5 y6 f5 f6 ln1 ln2
  clear gu0 gu1
  have HRV : Hid (#[.int .i64 ia, .int .i64 (i : Int), .int .i64 ib, .int .i64 (j : Int), .int .i64 (cm : Int), .int .i64 ((sx : Int) - (cm : Int)), .int .i64 ((sy : Int) - (cm : Int)), .int .i64 (mostK xs ys : Int), .int .i64 (mostK ys xs : Int), .int .i64 ((ra : Int) - (takenK xs ys : Int)), .int .i64 ((rb : Int) - (takenK ys xs : Int))] = R.cs.toArray) := hid (by rw [HREL.out])
  obtain ⟨z0, hv0⟩ : ∃ v : Int, v = ia := ⟨_, rfl⟩
  obtain ⟨z1, hv1⟩ : ∃ v : Int, v = (i : Int) := ⟨_, rfl⟩
  obtain ⟨z2, hv2⟩ : ∃ v : Int, v = ib := ⟨_, rfl⟩
  obtain ⟨z3, hv3⟩ : ∃ v : Int, v = (j : Int) := ⟨_, rfl⟩
  obtain ⟨z4, hv4⟩ : ∃ v : Int, v = (cm : Int) := ⟨_, rfl⟩
  obtain ⟨z5, hv5⟩ : ∃ v : Int, v = ((sx : Int) - (cm : Int)) := ⟨_, rfl⟩
  obtain ⟨z6, hv6⟩ : ∃ v : Int, v = ((sy : Int) - (cm : Int)) := ⟨_, rfl⟩
  obtain ⟨z7, hv7⟩ : ∃ v : Int, v = (mostK xs ys : Int) := ⟨_, rfl⟩
  obtain ⟨z8, hv8⟩ : ∃ v : Int, v = (mostK ys xs : Int) := ⟨_, rfl⟩
  obtain ⟨z9, hv9⟩ : ∃ v : Int, v = ((ra : Int) - (takenK xs ys : Int)) := ⟨_, rfl⟩
  obtain ⟨z10, hv10⟩ : ∃ v : Int, v = ((rb : Int) - (takenK ys xs : Int)) := ⟨_, rfl⟩
  rw [← hv5, ← hv6, ← hv9, ← hv10, ← hv0, ← hv1, ← hv2, ← hv3, ← hv4, ← hv7, ← hv8] at hyy HRV
  have y0 := hyy.cell 0 rfl
  have y1 := hyy.cell 1 rfl
  have y2 := hyy.cell 2 rfl
  have y3 := hyy.cell 3 rfl
  have y4 := hyy.cell 4 rfl
  have y5 := hyy.cell 5 rfl
  have y6 := hyy.cell 6 rfl
  have y7 := hyy.cell 7 rfl
  have y8 := hyy.cell 8 rfl
  have y9 := hyy.cell 9 rfl
  have y10 := hyy.cell 10 rfl
  have hr := HX3.out U (HS7.out.trans (hby.mono h7l))
  have e0 := hr.cell 0 rfl
  have e1 := hr.cell 1 rfl
  have e2 := hr.cell 2 rfl
  have e3 := hr.cell 3 rfl
  have e4 := hr.cell 4 rfl
  have e5 := hr.cell 5 rfl
  have e6 := hr.cell 6 rfl
  have e7 := hr.cell 7 rfl
  have e8 := hr.cell 8 rfl
  have e9 := hr.cell 9 rfl
  have e10 := hr.cell 10 rfl
  have f0 := hr.frozen 0
  have f1 := hr.frozen 1
  have f2 := hr.frozen 2
  have f3 := hr.frozen 3
  have f4 := hr.frozen 4
  have f5 := hr.frozen 5
  have f6 := hr.frozen 6
  have f7 := hr.frozen 7
  have f8 := hr.frozen 8
  have f9 := hr.frozen 9
  have f10 := hr.frozen 10
  have hr0 : BoxN (U.setCell ⟨w.heap.size + 1 + 1, 0, none⟩ (.int .i64 z0)) (w.heap.size + 1 + 1) 44 #[(.int .i64 z0), .int .i64 0, .int .i64 0, .int .i64 0, .int .i64 0, .int .i64 0, .int .i64 0, .int .i64 0, .int .i64 0, .int .i64 0, .int .i64 0] := hr.set 0 (.int .i64 z0)
  have hr1 : BoxN ((U.setCell ⟨w.heap.size + 1 + 1, 0, none⟩ (.int .i64 z0)).setCell ⟨w.heap.size + 1 + 1, 1, none⟩ (.int .i64 z1)) (w.heap.size + 1 + 1) 44 #[(.int .i64 z0), (.int .i64 z1), .int .i64 0, .int .i64 0, .int .i64 0, .int .i64 0, .int .i64 0, .int .i64 0, .int .i64 0, .int .i64 0, .int .i64 0] := hr0.set 1 (.int .i64 z1)
  have hr2 : BoxN (((U.setCell ⟨w.heap.size + 1 + 1, 0, none⟩ (.int .i64 z0)).setCell ⟨w.heap.size + 1 + 1, 1, none⟩ (.int .i64 z1)).setCell ⟨w.heap.size + 1 + 1, 2, none⟩ (.int .i64 z2)) (w.heap.size + 1 + 1) 44 #[(.int .i64 z0), (.int .i64 z1), (.int .i64 z2), .int .i64 0, .int .i64 0, .int .i64 0, .int .i64 0, .int .i64 0, .int .i64 0, .int .i64 0, .int .i64 0] := hr1.set 2 (.int .i64 z2)
  have hr3 : BoxN ((((U.setCell ⟨w.heap.size + 1 + 1, 0, none⟩ (.int .i64 z0)).setCell ⟨w.heap.size + 1 + 1, 1, none⟩ (.int .i64 z1)).setCell ⟨w.heap.size + 1 + 1, 2, none⟩ (.int .i64 z2)).setCell ⟨w.heap.size + 1 + 1, 3, none⟩ (.int .i64 z3)) (w.heap.size + 1 + 1) 44 #[(.int .i64 z0), (.int .i64 z1), (.int .i64 z2), (.int .i64 z3), .int .i64 0, .int .i64 0, .int .i64 0, .int .i64 0, .int .i64 0, .int .i64 0, .int .i64 0] := hr2.set 3 (.int .i64 z3)
  have hr4 : BoxN (((((U.setCell ⟨w.heap.size + 1 + 1, 0, none⟩ (.int .i64 z0)).setCell ⟨w.heap.size + 1 + 1, 1, none⟩ (.int .i64 z1)).setCell ⟨w.heap.size + 1 + 1, 2, none⟩ (.int .i64 z2)).setCell ⟨w.heap.size + 1 + 1, 3, none⟩ (.int .i64 z3)).setCell ⟨w.heap.size + 1 + 1, 4, none⟩ (.int .i64 z4)) (w.heap.size + 1 + 1) 44 #[(.int .i64 z0), (.int .i64 z1), (.int .i64 z2), (.int .i64 z3), (.int .i64 z4), .int .i64 0, .int .i64 0, .int .i64 0, .int .i64 0, .int .i64 0, .int .i64 0] := hr3.set 4 (.int .i64 z4)
  have hr5 : BoxN ((((((U.setCell ⟨w.heap.size + 1 + 1, 0, none⟩ (.int .i64 z0)).setCell ⟨w.heap.size + 1 + 1, 1, none⟩ (.int .i64 z1)).setCell ⟨w.heap.size + 1 + 1, 2, none⟩ (.int .i64 z2)).setCell ⟨w.heap.size + 1 + 1, 3, none⟩ (.int .i64 z3)).setCell ⟨w.heap.size + 1 + 1, 4, none⟩ (.int .i64 z4)).setCell ⟨w.heap.size + 1 + 1, 5, none⟩ (.int .i64 z5)) (w.heap.size + 1 + 1) 44 #[(.int .i64 z0), (.int .i64 z1), (.int .i64 z2), (.int .i64 z3), (.int .i64 z4), (.int .i64 z5), .int .i64 0, .int .i64 0, .int .i64 0, .int .i64 0, .int .i64 0] := hr4.set 5 (.int .i64 z5)
  have hr6 : BoxN (((((((U.setCell ⟨w.heap.size + 1 + 1, 0, none⟩ (.int .i64 z0)).setCell ⟨w.heap.size + 1 + 1, 1, none⟩ (.int .i64 z1)).setCell ⟨w.heap.size + 1 + 1, 2, none⟩ (.int .i64 z2)).setCell ⟨w.heap.size + 1 + 1, 3, none⟩ (.int .i64 z3)).setCell ⟨w.heap.size + 1 + 1, 4, none⟩ (.int .i64 z4)).setCell ⟨w.heap.size + 1 + 1, 5, none⟩ (.int .i64 z5)).setCell ⟨w.heap.size + 1 + 1, 6, none⟩ (.int .i64 z6)) (w.heap.size + 1 + 1) 44 #[(.int .i64 z0), (.int .i64 z1), (.int .i64 z2), (.int .i64 z3), (.int .i64 z4), (.int .i64 z5), (.int .i64 z6), .int .i64 0, .int .i64 0, .int .i64 0, .int .i64 0] := hr5.set 6 (.int .i64 z6)
  have hr7 : BoxN ((((((((U.setCell ⟨w.heap.size + 1 + 1, 0, none⟩ (.int .i64 z0)).setCell ⟨w.heap.size + 1 + 1, 1, none⟩ (.int .i64 z1)).setCell ⟨w.heap.size + 1 + 1, 2, none⟩ (.int .i64 z2)).setCell ⟨w.heap.size + 1 + 1, 3, none⟩ (.int .i64 z3)).setCell ⟨w.heap.size + 1 + 1, 4, none⟩ (.int .i64 z4)).setCell ⟨w.heap.size + 1 + 1, 5, none⟩ (.int .i64 z5)).setCell ⟨w.heap.size + 1 + 1, 6, none⟩ (.int .i64 z6)).setCell ⟨w.heap.size + 1 + 1, 7, none⟩ (.int .i64 z7)) (w.heap.size + 1 + 1) 44 #[(.int .i64 z0), (.int .i64 z1), (.int .i64 z2), (.int .i64 z3), (.int .i64 z4), (.int .i64 z5), (.int .i64 z6), (.int .i64 z7), .int .i64 0, .int .i64 0, .int .i64 0] := hr6.set 7 (.int .i64 z7)
  have hr8 : BoxN (((((((((U.setCell ⟨w.heap.size + 1 + 1, 0, none⟩ (.int .i64 z0)).setCell ⟨w.heap.size + 1 + 1, 1, none⟩ (.int .i64 z1)).setCell ⟨w.heap.size + 1 + 1, 2, none⟩ (.int .i64 z2)).setCell ⟨w.heap.size + 1 + 1, 3, none⟩ (.int .i64 z3)).setCell ⟨w.heap.size + 1 + 1, 4, none⟩ (.int .i64 z4)).setCell ⟨w.heap.size + 1 + 1, 5, none⟩ (.int .i64 z5)).setCell ⟨w.heap.size + 1 + 1, 6, none⟩ (.int .i64 z6)).setCell ⟨w.heap.size + 1 + 1, 7, none⟩ (.int .i64 z7)).setCell ⟨w.heap.size + 1 + 1, 8, none⟩ (.int .i64 z8)) (w.heap.size + 1 + 1) 44 #[(.int .i64 z0), (.int .i64 z1), (.int .i64 z2), (.int .i64 z3), (.int .i64 z4), (.int .i64 z5), (.int .i64 z6), (.int .i64 z7), (.int .i64 z8), .int .i64 0, .int .i64 0] := hr7.set 8 (.int .i64 z8)
  have hr9 : BoxN ((((((((((U.setCell ⟨w.heap.size + 1 + 1, 0, none⟩ (.int .i64 z0)).setCell ⟨w.heap.size + 1 + 1, 1, none⟩ (.int .i64 z1)).setCell ⟨w.heap.size + 1 + 1, 2, none⟩ (.int .i64 z2)).setCell ⟨w.heap.size + 1 + 1, 3, none⟩ (.int .i64 z3)).setCell ⟨w.heap.size + 1 + 1, 4, none⟩ (.int .i64 z4)).setCell ⟨w.heap.size + 1 + 1, 5, none⟩ (.int .i64 z5)).setCell ⟨w.heap.size + 1 + 1, 6, none⟩ (.int .i64 z6)).setCell ⟨w.heap.size + 1 + 1, 7, none⟩ (.int .i64 z7)).setCell ⟨w.heap.size + 1 + 1, 8, none⟩ (.int .i64 z8)).setCell ⟨w.heap.size + 1 + 1, 9, none⟩ (.int .i64 z9)) (w.heap.size + 1 + 1) 44 #[(.int .i64 z0), (.int .i64 z1), (.int .i64 z2), (.int .i64 z3), (.int .i64 z4), (.int .i64 z5), (.int .i64 z6), (.int .i64 z7), (.int .i64 z8), (.int .i64 z9), .int .i64 0] := hr8.set 9 (.int .i64 z9)
  have hr10 : BoxN (((((((((((U.setCell ⟨w.heap.size + 1 + 1, 0, none⟩ (.int .i64 z0)).setCell ⟨w.heap.size + 1 + 1, 1, none⟩ (.int .i64 z1)).setCell ⟨w.heap.size + 1 + 1, 2, none⟩ (.int .i64 z2)).setCell ⟨w.heap.size + 1 + 1, 3, none⟩ (.int .i64 z3)).setCell ⟨w.heap.size + 1 + 1, 4, none⟩ (.int .i64 z4)).setCell ⟨w.heap.size + 1 + 1, 5, none⟩ (.int .i64 z5)).setCell ⟨w.heap.size + 1 + 1, 6, none⟩ (.int .i64 z6)).setCell ⟨w.heap.size + 1 + 1, 7, none⟩ (.int .i64 z7)).setCell ⟨w.heap.size + 1 + 1, 8, none⟩ (.int .i64 z8)).setCell ⟨w.heap.size + 1 + 1, 9, none⟩ (.int .i64 z9)).setCell ⟨w.heap.size + 1 + 1, 10, none⟩ (.int .i64 z10)) (w.heap.size + 1 + 1) 44 #[(.int .i64 z0), (.int .i64 z1), (.int .i64 z2), (.int .i64 z3), (.int .i64 z4), (.int .i64 z5), (.int .i64 z6), (.int .i64 z7), (.int .i64 z8), (.int .i64 z9), (.int .i64 z10)] := hr9.set 10 (.int .i64 z10)
  have HRF := hid hr10
  have HTU := hid (HS0.out.trans ((HS7.out.trans (hby.mono h7l)).mono HS0.out.size))
  clear hr0 hr1 hr2 hr3 hr4 hr5 hr6 hr7 hr8 hr9 hr10 hv0 hv1 hv2 hv3 hv4 hv5 hv6 hv7 hv8 hv9 hv10 hr hyy hby
  have hrl := hl3
  go_wp2
  have d0 := HRF.out.cell 0 rfl
  have d1 := HRF.out.cell 1 rfl
  have d2 := HRF.out.cell 2 rfl
  have d3 := HRF.out.cell 3 rfl
  have d4 := HRF.out.cell 4 rfl
  have d5 := HRF.out.cell 5 rfl
  have d6 := HRF.out.cell 6 rfl
  have d7 := HRF.out.cell 7 rfl
  have d8 := HRF.out.cell 8 rfl
  have d9 := HRF.out.cell 9 rfl
  have d10 := HRF.out.cell 10 rfl
  refine bodyPost_ret (v := .tuple #[R.val, .int .i64 0]) (by simp [results, Tryz.results42, go_sem, d0, d1, d2, d3, d4, d5, d6, d7, d8, d9, d10, Rl.val, ← HRV.out]) rfl ⟨rfl, ?_⟩
  have := HTU.out
  repeat' (first | (with_reducible exact Below.refl _ _) | (with_reducible assumption) | (with_reducible refine below_drewN ?_) | (with_reducible refine Below.alloc ?_ ?_ _) | (with_reducible refine Below.drew ?_) | (with_reducible refine Below.setCell ?_ ?_ _) | (with_reducible refine Below.trans ?_ (Below.mono (by with_reducible assumption) ?_)) | go_size)
end Go.Proofs.YtaajpliifdlokaaGreatDoor
