/- Contracts of the reference's Build (chapter 30) at the bound 0 and of the kit's Edges: what GraphFrom needs of them. -/
import Derived.Deep.Cut
import Derived.Deep.CutRange
import Derived.Deep.RegionHeld3
import Derived.Test.YtaajpliifdlokaaGreatDoorGFrbf
import Derived.Test.YtaajpliifdlokaaGreatDoorGFrbd
import Derived.Test.YtaajpliifdlokaaGreatDoorGFrap
import Derived.Test.YtaajpliifdlokaaGreatDoorGFrar
set_option linter.unusedVariables false
set_option linter.unusedSimpArgs false
namespace Go.Proofs.YtaajpliifdlokaaGreatDoor
open Go.RowKit
def GoodW (ids : List Int) (rs : List Rl) (n : Nat) : Prop := rs.length ≤ n ∧ ∀ r ∈ rs, r.ta ∈ ids ∧ r.tb ∈ ids ∧ r.ta < r.tb
theorem GoodW.mono {ids : List Int} {rs : List Rl} {n m : Nat} (h : GoodW ids rs n) (hm : n ≤ m) : GoodW ids rs m := ⟨Nat.le_trans h.1 hm, h.2⟩
theorem GoodW.push {ids : List Int} {rs : List Rl} {n : Nat} (h : GoodW ids rs n) {r : Rl} (h1 : r.ta ∈ ids) (h2 : r.tb ∈ ids) (h3 : r.ta < r.tb) : GoodW ids (rs ++ [r]) (n + 1) := by
  refine ⟨by rw [List.length_append, List.length_singleton]; have := h.1; omega, fun x hx => ?_⟩
  rcases List.mem_append.1 hx with hx | hx
  · exact h.2 x hx
  · rw [List.mem_singleton.1 hx]; exact ⟨h1, h2, h3⟩
theorem sml01 : Fr.Sml 0 1 := ⟨by omega, by omega, by omega, by decide⟩
theorem sml11 : Fr.Sml 1 1 := ⟨by omega, by omega, by omega, by decide⟩
def EdgesP (w : World) (ts : List Ta) (e : Ending) (w' : World) : Prop :=
  ∃ x rs, e = .returned x ∧ GoodW (idsT ts) rs 4096 ∧ OwnR w' w.heap.size x rs ∧ Below w.heap.size w w'
def BuildWP (w : World) (ts : List Ta) (e : Ending) (w' : World) : Prop :=
  ∃ x rs, e = .returned (.tuple #[x, .int .i64 0]) ∧ GoodW (idsT ts) rs 4096 ∧ OwnR w' w.heap.size x rs ∧ Below w.heap.size w w'
set_option maxRecDepth 100000 in
set_option maxHeartbeats 8000000 in
theorem ref30_Build (v u : Value) (ts : List Ta) (B : Nat) (w : World) (h : ListV ts) (hf : FewT ts) (hv : RdTa w (· < B) v ts) (hB : B ≤ w.heap.size) (hu : Fr.RdF w u false 0 1) (hT : Tabs w) :
  Calls Tryz.prog 23 #[v, u] w (BuildWP w ts) := by
 have HV := hid (fun W (hW : Below w.heap.size w W) => hv.keep (w' := W) fun p (hp : p.block < B) => hW.cell (p := p) (by omega))
 have HVL := hid (fun W (hW : Below w.heap.size w W) => ref_ValidList v ts B W h (hv.keep (w' := W) fun p (hp : p.block < B) => hW.cell (p := p) (by omega)) (Nat.le_trans hB hW.size) (hT.below hW))
 have HZE := hid (fun W => Fr.ref_Zero W)
 have HIN : Hid (∀ W, Calls Tryz.prog 22 #[.int .i64 1] W (Fr.GivesF W false 1 1)) := hid (fun W => Fr.ref_Int 1 W (by omega))
 have HL1 : Hid (∀ W z, Below w.heap.size w W → Fr.RdF W z false 0 1 → Calls Tryz.prog 14 #[u, z] W (Ret W (.bool false))) := hid (fun W z hW hz => Fr.ref_Less u z 0 1 0 1 W (hu.kept hW) hz sml01 sml01)
 have HL2 : Hid (∀ W z, Below w.heap.size w W → Fr.RdF W z false 1 1 → Calls Tryz.prog 14 #[z, u] W (Ret W (.bool false))) := hid (fun W z hW hz => Fr.ref_Less z u 1 1 0 1 W hz (hu.kept hW) sml11 sml01)
 have HL3 : Hid (∀ W z p q, Below w.heap.size w W → Fr.RdF W z false p q → Fr.Sml p q → Calls Tryz.prog 14 #[z, u] W (Ret W (.bool false))) := hid (fun W z p q hW hz hs => by
  have h1 := Fr.ref_Less z u p q 0 1 W hz (hu.kept hW) hs sml01
  rw [show decide (p * 1 < 0 * q) = false from decide_eq_false (by omega)] at h1
  exact h1)
 have HOFR := hid (fun W (hW : Below w.heap.size w W) (a b : Ta) (x y : Value) (i j : Nat) (ha : a ∈ ts) (hb : b ∈ ts) (hi : i < a.cols.length) (hj : j < b.cols.length) (hx : RdCo W (· < B) x a.cols) (hy : RdCo W (· < B) y b.cols) => ref29_Of a b x y i j B W (h.2.1 a ha) (h.2.1 b hb) hi hj hx hy (Nat.le_trans hB hW.size) (hT.below hW))
 have HFEW := hid hf
 have HIDM := hid (fun (a : Ta) (ha : a ∈ ts) => (List.mem_map.2 ⟨a, ha, rfl⟩ : a.id ∈ idsT ts))
 have HASC := hid (fun x y (hx : x < ts.length) (hy : y < ts.length) (hxy : x < y) => (by
  have h1 := List.pairwise_iff_getElem.1 h.2.2 x y hx hy hxy
  simpa [List.getD, hx, hy] using h1 : (ts.getD x Ta.z).id < (ts.getD y Ta.z).id))
 have hN8 := hf.1
 obtain ⟨fa1, fc1, fb1, fd1, rfl, -, -⟩ := hu
 obtain ⟨va, vc, rfl, hcap, hcm⟩ : ∃ x y, v = .slice x ts.length y ∧ ts.length ≤ y ∧ y ≤ maxLen := by
  obtain ⟨tv, ⟨x, y, e, h1, h2, -⟩, -⟩ := hv
  exact ⟨x, y, e, h1, h2⟩
 unfold maxLen at hcm
 clear hv h hf hT
 generalize (Fr.dig 0).length = l1 at *
 generalize (Fr.dig 1).length = k1 at *
 obtain ⟨N, hN⟩ : ∃ N, N = ts.length := ⟨_, rfl⟩
 rw [← hN] at HV HVL hN8 HASC hcap
 rw [← hN]
 have HN := hid hN.symm
 clear hN
 have hx3 := BoxN.new w #[.bool false, .slice fa1 l1 fc1, .bool false, .slice fb1 k1 fd1] 33
 have hs0 := (Below.refl w.heap.size w).alloc (Nat.le_refl _) (.cells #[.bool false, .slice fa1 l1 fc1, .bool false, .slice fb1 k1 fd1] 33)
 obtain ⟨W0, hW0⟩ : ∃ W, W = w.alloc (.cells #[.bool false, .slice fa1 l1 fc1, .bool false, .slice fb1 k1 fd1] 33) := ⟨_, rfl⟩
 rw [← hW0] at hx3 hs0
 have HS0 := hid hs0
 have HX3 := hid (fun W (hW : Below W0.heap.size W0 W) => hx3.below hW hx3.lt)
 have hw0 : W0.heap.size = w.heap.size + 1 := by rw [hW0, World.size_alloc]
 have HW0 := hid hw0
 have hl0 := hx3.lt
 clear hx3 hs0 hw0
 go_enter Tryz.func23, Tryz.ntmps23
 generalize hLA : Code.loop _ = LA
 go_wp2_with fail
 rw [← hW0]
 clear hW0
 with_reducible refine (HVL.out W0 HS0.out).mono ?_
 rintro e w1 ⟨rfl, hb1⟩
 have HS1 := hid hb1
 have HT1 := hid (HS0.out.trans (hb1.mono HS0.out.size))
 clear hb1 HVL
 go_upto_region 3 with fail
 have HG := hid (fun W (hW : Below w1.heap.size w1 W) => (by
  have h2 := HX3.out W (HS1.out.trans (hW.mono HS1.out.size))
  exact ⟨h2.cell 0 rfl, h2.cell 1 rfl, h2.cell 2 rfl, h2.cell 3 rfl⟩ : W.cell? ⟨w.heap.size, 0, none⟩ = some (.bool false) ∧ W.cell? ⟨w.heap.size, 1, none⟩ = some (.slice fa1 l1 fc1) ∧ W.cell? ⟨w.heap.size, 2, none⟩ = some (.bool false) ∧ W.cell? ⟨w.heap.size, 3, none⟩ = some (.slice fb1 k1 fd1)))
 have HD := hid ((Below.refl w1.heap.size w1).drew)
 have HT := hid (fun W (hW : Below w1.heap.size w1 W) => HT1.out.trans (hW.mono HT1.out.size))
 go_region_held3 (fun W => W.cell? ⟨w.heap.size, 0, none⟩ = some (.bool false) ∧ W.cell? ⟨w.heap.size, 1, none⟩ = some (.slice fa1 l1 fc1) ∧ W.cell? ⟨w.heap.size, 2, none⟩ = some (.bool false) ∧ W.cell? ⟨w.heap.size, 3, none⟩ = some (.slice fb1 k1 fd1))
  (first | exact HG.out _ HD.out | exact HG.out _ HD5.out | exact HG.out _ HD6.out | exact HG.out _ HD7.out | exact HG.out _ HD8.out | go_keep)
  (first
   | (go_at_call 21; go_must ((with_reducible refine (HZE.out _).mono ?_); rintro e w5 ⟨a6, c6, b6, d6, rfl, hN, hb5⟩; have HD5 := hid (Fr.belowT HD.out hb5); have HN5 := hid (hN.rd false); clear hN hb5))
   | (go_at_call 22; go_must ((with_reducible refine (HIN.out _).mono ?_); rintro e w7 ⟨a7, c7, b7, d7, rfl, hN, hb7⟩; have HD7 := hid (Fr.belowT HD6.out hb7); have HN7 := hid (hN.rd false); clear hN hb7))
   | (go_at_call 14; go_must (first
     | ((with_reducible refine (HL2.out _ _ (HT.out _ HD7.out) HN7.out).mono ?_); rintro e w8 ⟨rfl, hb8⟩; have HD8 := hid (Fr.belowT HD7.out hb8); clear hb8)
     | ((with_reducible refine (HL1.out _ _ (HT.out _ HD5.out) HN5.out).mono ?_); rintro e w6 ⟨rfl, hb6⟩; have HD6 := hid (Fr.belowT HD5.out hb6); clear hb6))))
 have HT7 := hid (HT.out _ HD8.out)
 have HX7 := hid (HX3.out _ (HS1.out.trans (HD8.out.mono HS1.out.size)))
 have h7 := HT7.out.size
 have h7l := HX7.out.lt
 clear HG HD HT HD5 HD6 HD7 HD8 HN5 HN7 HX3 HT1 HS1
 subst hLA
 go_wp2_with fail
 go_loopg [6, 30] N (fun K ov i wr => ∃ (x : Nat) (rs : List Rl), i = .int .i64 (x : Int) ∧ x + K = N ∧ Hid (GoodW (idsT ts) rs (x * 512)) ∧ Hid (Below w.heap.size w wr) ∧ Hid (BoxN wr w.heap.size 33 #[.bool false, .slice fa1 l1 fc1, .bool false, .slice fb1 k1 fd1]) ∧ Hid (OwnR wr (w.heap.size + 1) ov rs))
 case atStart => exact ⟨0, [], rfl, by omega, hid ⟨by simp, by simp⟩, HT7, HX7, hid (ownR_start _ _)⟩
 case round =>
  obtain ⟨x, rs, rfl, hx, HGW, HB1, HF1, HO1⟩ := hrel
  obtain ⟨wA, rfl⟩ : ∃ W, W = wr := ⟨wr, rfl⟩
  obtain ⟨gA, rfl⟩ : ∃ g, g = gk := ⟨gk, rfl⟩
  have hwA := HB1.out.size
  by_cases hp1 : 0 < gA
  ·have hxN : x < N := by omega
   have hxi : (x : Int) < (N : Int) := by omega
   obtain ⟨tbk, tof, c', xa, ya, e3, hb', hra, k0, k1', k2⟩ := ta_at (HV.out wA HB1.out) (q := x) (by rw [HN.out]; exact hxN)
   rw [HN.out] at e3
   obtain ⟨rfl, -, rfl⟩ := Value.slice.inj e3
   have ham : ts.getD x Ta.z ∈ ts := getD_mem (by rw [HN.out]; exact hxN) _
   have HMA := hid ham
   have HRA := hid (fun W (hW : Below w.heap.size w W) => (by
    obtain ⟨b2, o2, c2, xa2, ya2, e4, -, hr2, -, -, m2⟩ := ta_at (HV.out W hW) (q := x) (by rw [HN.out]; exact hxN)
    obtain ⟨e5, -, -⟩ := Value.slice.inj e4
    obtain ⟨e6, e7⟩ : tbk = b2 ∧ tof = o2 := by simpa using e5
    subst e6 e7
    have m3 : W.cell? ⟨tbk, tof + x * 3 + 2, none⟩ = wA.cell? ⟨tbk, tof + x * 3 + 2, none⟩ := (hW.cell (p := ⟨tbk, tof + x * 3 + 2, none⟩) (by show tbk < _; have h6 : tbk < B := hb'; omega)).trans (HB1.out.cell (p := ⟨tbk, tof + x * 3 + 2, none⟩) (by show tbk < _; have h6 : tbk < B := hb'; omega)).symm
    rw [m2, k2] at m3
    rw [Option.some.inj m3] at hr2
    exact hr2 : RdCo W (· < B) (.slice xa (ts.getD x Ta.z).cols.length ya) (ts.getD x Ta.z).cols))
   have HAX2 := hid (fun y hy hxy => HASC.out x y hxN hy hxy)
   clear e3 hb' hra ham
   generalize ts.getD x Ta.z = a at *
   have hLa8 := HFEW.out.2 a HMA.out
   obtain ⟨La, hLa⟩ : ∃ La, La = a.cols.length := ⟨_, rfl⟩
   rw [← hLa] at k2 HRA hLa8
   have HLA := hid hLa.symm
   clear hLa
   have hax := BoxN.new wA #[.int .i64 a.id, .string a.name, .slice xa La ya] 51
   have HBa := hid (HB1.out.alloc hwA (.cells #[.int .i64 a.id, .string a.name, .slice xa La ya] 51))
   have HFa := hid (HF1.out.alloc (.cells #[.int .i64 a.id, .string a.name, .slice xa La ya] 51))
   have HOa := hid (HO1.out.later ((Below.refl wA.heap.size wA).alloc (Nat.le_refl _) (.cells #[.int .i64 a.id, .string a.name, .slice xa La ya] 51)))
   have HAX := hid hax
   clear hax
   generalize hLB : Code.loop _ = LB
   go_wp2_with fail
   generalize wA.alloc (.cells #[.int .i64 a.id, .string a.name, .slice xa La ya] 51) = WA at *
   generalize wA.heap.size = ab at *
   subst hLB
   clear k0 k1' k2
   go_loopg [6, 38] La (fun K ov s wr => ∃ (i : Nat) (rs : List Rl), s = .int .i64 (i : Int) ∧ i + K = La ∧ Hid (GoodW (idsT ts) rs (x * 512 + i * 64)) ∧ Hid (Below w.heap.size w wr) ∧ Hid (BoxN wr w.heap.size 33 #[.bool false, .slice fa1 l1 fc1, .bool false, .slice fb1 k1 fd1]) ∧ Hid (BoxN wr ab 51 #[.int .i64 a.id, .string a.name, .slice xa La ya]) ∧ Hid (OwnR wr (w.heap.size + 1) ov rs))
   case atStart => exact ⟨0, rs, rfl, by omega, hid (HGW.out.mono (by omega)), HBa, HFa, HAX, HOa⟩
   case round =>
    clear HBa HFa HAX HOa HB1 HF1 HO1 HGW
    obtain ⟨i, rs, rfl, hi, HGW, HB1, HF1, HA1, HO1⟩ := hrel
    obtain ⟨wB, rfl⟩ : ∃ W, W = wr := ⟨wr, rfl⟩
    obtain ⟨gB, rfl⟩ : ∃ g, g = gk := ⟨gk, rfl⟩
    have hwB := HB1.out.size
    have habB := HA1.out.lt
    by_cases hp2 : 0 < gB
    ·have hiL : i < La := by omega
     have hii : (i : Int) < (La : Int) := by omega
     have hx1c : ((x : Int) + 1) ≤ (N : Int) := by omega
     have hx0c : (0 : Int) ≤ (x : Int) + 1 := by omega
     obtain ⟨Y, hY⟩ : ∃ Y, Y = N - (x + 1) := ⟨_, rfl⟩
     have HY := hid hY
     have hY8 : Y ≤ 8 := by omega
     clear hY
     generalize hLC : Code.loop _ = LC
     go_upto_region 12 with fail
     go_cut [44, 45, 46] from 41 to 46 (fun s44 s45 s46 wc => ∃ (O c4 : Nat), s44 = .slice (some ⟨tbk, O, none⟩) Y c4 ∧ s45 = .int .i64 (Y : Int) ∧ s46 = .int .i64 0 ∧ wc = wB ∧ (0 < Y → O = tof + (x + 1) * 3))
     case first =>
      by_cases hcv : vc = x + 1
      ·subst hcv
       go_wp2_with fail
       go_meet
       have hY := HY.out
       have hY0 : Y = 0 := by omega
       refine ⟨tof, 0, ?_, ?_, rfl, rfl, fun h => by omega⟩ <;> rw [hY0] <;> (try rfl)
      ·go_wp2_with fail
       go_meet
       have hY := HY.out
       refine ⟨tof + (x + 1) * 3, vc - (x + 1), ?_, ?_, rfl, rfl, fun _ => rfl⟩ <;> rw [hY]
     case rest =>
     obtain ⟨O, c4, rfl, rfl, rfl, rfl, hO⟩ := hcut
     go_wp2_with fail
     subst hLC
     go_loopg [6, 46] Y (fun K ov s wr => ∃ (y : Nat) (rs : List Rl), s = .int .i64 (y : Int) ∧ y + K = Y ∧ Hid (GoodW (idsT ts) rs (x * 512 + i * 64 + y * 8)) ∧ Hid (Below w.heap.size w wr) ∧ Hid (BoxN wr w.heap.size 33 #[.bool false, .slice fa1 l1 fc1, .bool false, .slice fb1 k1 fd1]) ∧ Hid (BoxN wr ab 51 #[.int .i64 a.id, .string a.name, .slice xa La ya]) ∧ Hid (OwnR wr (w.heap.size + 1) ov rs))
     case atStart => exact ⟨0, rs, rfl, by omega, hid (HGW.out.mono (by omega)), HB1, HF1, HA1, HO1⟩
     case round =>
      clear HB1 HF1 HA1 HO1 HGW
      obtain ⟨y, rs, rfl, hy, HGW, HB1, HF1, HA1, HO1⟩ := hrel
      obtain ⟨wC, rfl⟩ : ∃ W, W = wr := ⟨wr, rfl⟩
      obtain ⟨gC, rfl⟩ : ∃ g, g = gk := ⟨gk, rfl⟩
      have hwC := HB1.out.size
      by_cases hp3 : 0 < gC
      ·have hyY : y < Y := by omega
       have hyi : (y : Int) < (Y : Int) := by omega
       have hzN : x + 1 + y < N := by have := HY.out; omega
       have hO2 := hO (by omega)
       obtain ⟨b', o', c', xb, yb, e3, hb', hrb, k0, k1', k2⟩ := ta_at (HV.out wC HB1.out) (q := x + 1 + y) (by rw [HN.out]; exact hzN)
       rw [HN.out] at e3
       obtain ⟨e5, -, -⟩ := Value.slice.inj e3
       obtain ⟨e8, e9⟩ : tbk = b' ∧ tof = o' := by simpa using e5
       subst e8 e9
       have hbm : ts.getD (x + 1 + y) Ta.z ∈ ts := getD_mem (by rw [HN.out]; exact hzN) _
       have HMB := hid hbm
       have HRB := hid (fun W (hW : Below w.heap.size w W) => (by
        obtain ⟨b2, o2, c2, xa2, ya2, e4, -, hr2, -, -, m2⟩ := ta_at (HV.out W hW) (q := x + 1 + y) (by rw [HN.out]; exact hzN)
        obtain ⟨e6, -, -⟩ := Value.slice.inj e4
        obtain ⟨e8, e9⟩ : tbk = b2 ∧ tof = o2 := by simpa using e6
        subst e8 e9
        have m3 : W.cell? ⟨tbk, tof + (x + 1 + y) * 3 + 2, none⟩ = wC.cell? ⟨tbk, tof + (x + 1 + y) * 3 + 2, none⟩ := (hW.cell (p := ⟨tbk, tof + (x + 1 + y) * 3 + 2, none⟩) (by show tbk < _; have h6 : tbk < B := hb'; omega)).trans (HB1.out.cell (p := ⟨tbk, tof + (x + 1 + y) * 3 + 2, none⟩) (by show tbk < _; have h6 : tbk < B := hb'; omega)).symm
        rw [m2, k2] at m3
        rw [Option.some.inj m3] at hr2
        exact hr2 : RdCo W (· < B) (.slice xb (ts.getD (x + 1 + y) Ta.z).cols.length yb) (ts.getD (x + 1 + y) Ta.z).cols))
       have hab := HAX2.out (x + 1 + y) hzN (by omega)
       have eo : tof + (x + 1 + y) * 3 = O + y * 3 := by omega
       rw [eo] at k0 k1' k2
       clear e3 e5 hb' hrb hbm eo hO2
       generalize ts.getD (x + 1 + y) Ta.z = b at *
       have hLb8 := HFEW.out.2 b HMB.out
       have HAB := hid hab
       obtain ⟨Lb, hLb⟩ : ∃ Lb, Lb = b.cols.length := ⟨_, rfl⟩
       rw [← hLb] at k2 HRB hLb8
       have HLB := hid hLb.symm
       clear hLb hab
       have hbx := BoxN.new wC #[.int .i64 b.id, .string b.name, .slice xb Lb yb] 51
       have HBb := hid (HB1.out.alloc hwC (.cells #[.int .i64 b.id, .string b.name, .slice xb Lb yb] 51))
       have HFb := hid (HF1.out.alloc (.cells #[.int .i64 b.id, .string b.name, .slice xb Lb yb] 51))
       have HAb := hid (HA1.out.alloc (.cells #[.int .i64 b.id, .string b.name, .slice xb Lb yb] 51))
       have HOb := hid (HO1.out.later ((Below.refl wC.heap.size wC).alloc (Nat.le_refl _) (.cells #[.int .i64 b.id, .string b.name, .slice xb Lb yb] 51)))
       have HBX := hid hbx
       have hb2 := hbx.cell 2 rfl
       have hbl := hbx.lt
       clear hbx
       generalize hLD : Code.loop _ = LD
       go_wp2_with fail
       clear k0 k1' k2 hb2
       generalize wC.alloc (.cells #[.int .i64 b.id, .string b.name, .slice xb Lb yb] 51) = WB at *
       generalize wC.heap.size = bb at *
       subst hLD
       go_loopg [6, 53] Lb (fun K ov s wr => ∃ (j : Nat) (rs : List Rl), s = .int .i64 (j : Int) ∧ j + K = Lb ∧ Hid (GoodW (idsT ts) rs (x * 512 + i * 64 + y * 8 + j)) ∧ Hid (Below w.heap.size w wr) ∧ Hid (BoxN wr w.heap.size 33 #[.bool false, .slice fa1 l1 fc1, .bool false, .slice fb1 k1 fd1]) ∧ Hid (BoxN wr ab 51 #[.int .i64 a.id, .string a.name, .slice xa La ya]) ∧ Hid (BoxN wr bb 51 #[.int .i64 b.id, .string b.name, .slice xb Lb yb]) ∧ Hid (OwnR wr (w.heap.size + 1) ov rs))
       case atStart => exact ⟨0, rs, rfl, by omega, hid (HGW.out.mono (by omega)), HBb, HFb, HAb, HBX, HOb⟩
       case round =>
        clear HBb HFb HAb HBX HOb HB1 HF1 HA1 HO1 HGW
        obtain ⟨j, rs, rfl, hj, HGW, HB1, HF1, HA1, HX1, HO1⟩ := hrel
        obtain ⟨wD, rfl⟩ : ∃ W, W = wr := ⟨wr, rfl⟩
        have hwD := HB1.out.size
        obtain ⟨ua, uc, rfl⟩ := HO1.out.len
        have hrl := HGW.out.1
        by_cases hp4 : 0 < gk
        ·have hjL : j < Lb := by omega
         have hji : (j : Int) < (Lb : Int) := by omega
         have HRL := hid (HOFR.out wD HB1.out a b (.slice xa La ya) (.slice xb Lb yb) i j HMA.out HMB.out (by rw [HLA.out]; exact hiL) (by rw [HLB.out]; exact hjL) (HRA.out wD HB1.out) (HRB.out wD HB1.out))
         have a0 := HA1.out.cell 0 rfl
         have a1 := HA1.out.cell 1 rfl
         have a2 := HA1.out.cell 2 rfl
         have b0 := HX1.out.cell 0 rfl
         have b1 := HX1.out.cell 1 rfl
         have b2 := HX1.out.cell 2 rfl
         go_wp2_with fail
         clear a0 a1 a2 b0 b1 b2
         with_reducible refine HRL.out.mono ?_
         rintro e w5 ⟨co, oa, ob, ma, mb, la, lb, rfl, hsum, hb5⟩
         clear HRL
         have hz5 := hb5.size
         have HB5 := hid (HB1.out.trans (hb5.mono hwD))
         have h5s := HB5.out.size
         have HF5 := hid (HF1.out.below hb5 HF1.out.lt)
         have HA5 := hid (HA1.out.below hb5 HA1.out.lt)
         have HX5 := hid (HX1.out.below hb5 HX1.out.lt)
         have HO5 := hid (HO1.out.later hb5)
         clear hb5
         have hr := BoxN.new w5 #[.int .i64 a.id, .int .i64 (i : Int), .int .i64 b.id, .int .i64 (j : Int), .int .i64 (co : Int), .int .i64 (oa : Int), .int .i64 ob, .int .i64 ma, .int .i64 mb, .int .i64 la, .int .i64 lb] 44
         have hsx := (Below.refl w5.heap.size w5).alloc (Nat.le_refl _) (.cells #[.int .i64 a.id, .int .i64 (i : Int), .int .i64 b.id, .int .i64 (j : Int), .int .i64 (co : Int), .int .i64 (oa : Int), .int .i64 ob, .int .i64 ma, .int .i64 mb, .int .i64 la, .int .i64 lb] 44)
         obtain ⟨X, hX⟩ : ∃ W, W = w5.alloc (.cells #[.int .i64 a.id, .int .i64 (i : Int), .int .i64 b.id, .int .i64 (j : Int), .int .i64 (co : Int), .int .i64 (oa : Int), .int .i64 ob, .int .i64 ma, .int .i64 mb, .int .i64 la, .int .i64 lb] 44) := ⟨_, rfl⟩
         rw [← hX] at hr hsx
         have HSX := hid hsx
         have HR6 := hid hr
         have HB6 := hid (HB5.out.trans (hsx.mono h5s))
         have HF6 := hid (HF5.out.below hsx HF5.out.lt)
         have HA6 := hid (HA5.out.below hsx HA5.out.lt)
         have HX6 := hid (HX5.out.below hsx HX5.out.lt)
         have HO6 := hid (HO5.out.later hsx)
         clear hr hsx HB5 HF5 HA5 HX5 HO5
         simp only [Rl.val, Rl.cs]
         go_upto_region 19 with fail
         rw [← hX]
         clear hX
         have hB6s := HB6.out.size
         have HG := hid (fun W (hW : Below X.heap.size X W) => (by
          have h1 := HR6.out.below hW HR6.out.lt
          have h2 := HF6.out.below hW HF6.out.lt
          exact ⟨h1.cell 0 rfl, h1.cell 1 rfl, h1.cell 2 rfl, h1.cell 3 rfl, h1.cell 4 rfl, h1.cell 5 rfl, h1.cell 6 rfl, h1.cell 7 rfl, h1.cell 8 rfl, h1.cell 9 rfl, h1.cell 10 rfl, h2.cell 0 rfl, h2.cell 1 rfl, h2.cell 2 rfl, h2.cell 3 rfl⟩ : W.cell? ⟨w5.heap.size, 0, none⟩ = some (.int .i64 a.id) ∧ W.cell? ⟨w5.heap.size, 1, none⟩ = some (.int .i64 (i : Int)) ∧ W.cell? ⟨w5.heap.size, 2, none⟩ = some (.int .i64 b.id) ∧ W.cell? ⟨w5.heap.size, 3, none⟩ = some (.int .i64 (j : Int)) ∧ W.cell? ⟨w5.heap.size, 4, none⟩ = some (.int .i64 (co : Int)) ∧ W.cell? ⟨w5.heap.size, 5, none⟩ = some (.int .i64 (oa : Int)) ∧ W.cell? ⟨w5.heap.size, 6, none⟩ = some (.int .i64 ob) ∧ W.cell? ⟨w5.heap.size, 7, none⟩ = some (.int .i64 ma) ∧ W.cell? ⟨w5.heap.size, 8, none⟩ = some (.int .i64 mb) ∧ W.cell? ⟨w5.heap.size, 9, none⟩ = some (.int .i64 la) ∧ W.cell? ⟨w5.heap.size, 10, none⟩ = some (.int .i64 lb) ∧ W.cell? ⟨w.heap.size, 0, none⟩ = some (.bool false) ∧ W.cell? ⟨w.heap.size, 1, none⟩ = some (.slice fa1 l1 fc1) ∧ W.cell? ⟨w.heap.size, 2, none⟩ = some (.bool false) ∧ W.cell? ⟨w.heap.size, 3, none⟩ = some (.slice fb1 k1 fd1)))
         go_cut [81] from 64 to 81 (fun s81 wx => s81 = .bool (decide (0 < co)) ∧ Hid (Below X.heap.size X wx))
         case first =>
          have HD := hid (show Below X.heap.size X X.drew from (Below.refl X.heap.size X).drew)
          by_cases hc0 : 0 < co
          ·have hdc : decide (0 < co) = true := decide_eq_true hc0
           have hcp : (0 : Int) < (co : Int) := by omega
           have HC1 := hid (fun W => Fr.ref_Contained a.id (i : Int) b.id (j : Int) co oa ob ma mb la lb W hc0 (by omega))
           have HS1 := hid (Fr.sml_of (c := co) (d := co + oa) (by omega) (by omega) (by omega))
           generalize co / Nat.gcd co (co + oa) = x1 at *
           generalize (co + oa) / Nat.gcd co (co + oa) = y1 at *
           have HM1 := hid (fun W u1 (hW : Below X.heap.size X W) hu => HL3.out W u1 x1 y1 (HB6.out.trans (hW.mono hB6s)) hu HS1.out)
           simp only [Rl.val, Rl.cs] at HC1
           refine wp_region_held_drew (S := fun W => W.cell? ⟨w5.heap.size, 0, none⟩ = some (.int .i64 a.id) ∧ W.cell? ⟨w5.heap.size, 1, none⟩ = some (.int .i64 (i : Int)) ∧ W.cell? ⟨w5.heap.size, 2, none⟩ = some (.int .i64 b.id) ∧ W.cell? ⟨w5.heap.size, 3, none⟩ = some (.int .i64 (j : Int)) ∧ W.cell? ⟨w5.heap.size, 4, none⟩ = some (.int .i64 (co : Int)) ∧ W.cell? ⟨w5.heap.size, 5, none⟩ = some (.int .i64 (oa : Int)) ∧ W.cell? ⟨w5.heap.size, 6, none⟩ = some (.int .i64 ob) ∧ W.cell? ⟨w5.heap.size, 7, none⟩ = some (.int .i64 ma) ∧ W.cell? ⟨w5.heap.size, 8, none⟩ = some (.int .i64 mb) ∧ W.cell? ⟨w5.heap.size, 9, none⟩ = some (.int .i64 la) ∧ W.cell? ⟨w5.heap.size, 10, none⟩ = some (.int .i64 lb) ∧ W.cell? ⟨w.heap.size, 0, none⟩ = some (.bool false) ∧ W.cell? ⟨w.heap.size, 1, none⟩ = some (.slice fa1 l1 fc1) ∧ W.cell? ⟨w.heap.size, 2, none⟩ = some (.bool false) ∧ W.cell? ⟨w.heap.size, 3, none⟩ = some (.slice fb1 k1 fd1)) (by kernel_rfl) (HG.out _ HD.out) (fun hHeld => ?_)
           refine wpAnyH_take (i := 0) (v := ?_) (by simp only [List.getElem?_toArray, List.getElem?_cons_zero, List.getElem?_cons_succ]; rfl) (by kernel_rfl) (by kernel_rfl) (by kernel_rfl) (by intro _ _ _ h; exact h) (Or.inl ⟨by rfl, ?_⟩) (by assumption) ?_
           rotate_left
           ·(intro w' hSw; (try dsimp only at hSw); go_simp) <;> with_reducible rfl
           try simp only [Act.put, List.setIfInBounds_toArray, List.set_cons_zero, List.set_cons_succ]
           refine wpAnyH_take (i := 1) (v := ?_) (by simp only [List.getElem?_toArray, List.getElem?_cons_zero, List.getElem?_cons_succ]; rfl) (by kernel_rfl) (by kernel_rfl) (by kernel_rfl) (by intro _ _ _ h; exact h) (Or.inl ⟨by rfl, ?_⟩) (by assumption) ?_
           rotate_left
           ·(intro w' hSw; (try dsimp only at hSw); go_simp) <;> with_reducible rfl
           try simp only [Act.put, List.setIfInBounds_toArray, List.set_cons_zero, List.set_cons_succ]
           refine wpAnyH_take (i := 2) (v := ?_) (by simp only [List.getElem?_toArray, List.getElem?_cons_zero, List.getElem?_cons_succ]; rfl) (by kernel_rfl) (by kernel_rfl) (by kernel_rfl) (by intro _ _ _ h; exact h) (Or.inl ⟨by rfl, ?_⟩) (by assumption) ?_
           rotate_left
           ·(intro w' hSw; (try dsimp only at hSw); go_simp) <;> with_reducible rfl
           try simp only [Act.put, List.setIfInBounds_toArray, List.set_cons_zero, List.set_cons_succ]
           refine wpAnyH_take (i := 3) (v := ?_) (by simp only [List.getElem?_toArray, List.getElem?_cons_zero, List.getElem?_cons_succ]; rfl) (by kernel_rfl) (by kernel_rfl) (by kernel_rfl) (by intro _ _ _ h; exact h) (Or.inl ⟨by rfl, ?_⟩) (by assumption) ?_
           rotate_left
           ·(intro w' hSw; (try dsimp only at hSw); go_simp) <;> with_reducible rfl
           try simp only [Act.put, List.setIfInBounds_toArray, List.set_cons_zero, List.set_cons_succ]
           refine wpAnyH_take (i := 4) (v := ?_) (by simp only [List.getElem?_toArray, List.getElem?_cons_zero, List.getElem?_cons_succ]; rfl) (by kernel_rfl) (by kernel_rfl) (by kernel_rfl) (by intro _ _ _ h; exact h) (Or.inl ⟨by rfl, ?_⟩) (by assumption) ?_
           rotate_left
           ·(intro w' hSw; (try dsimp only at hSw); go_simp) <;> with_reducible rfl
           try simp only [Act.put, List.setIfInBounds_toArray, List.set_cons_zero, List.set_cons_succ]
           refine wpAnyH_take (i := 6) (v := ?_) (by simp only [List.getElem?_toArray, List.getElem?_cons_zero, List.getElem?_cons_succ]; rfl) (by kernel_rfl) (by kernel_rfl) (by kernel_rfl) (by intro _ _ _ h; exact h) (Or.inl ⟨by rfl, ?_⟩) (by assumption) ?_
           rotate_left
           ·(intro w' hSw; (try dsimp only at hSw); go_simp) <;> with_reducible rfl
           try simp only [Act.put, List.setIfInBounds_toArray, List.set_cons_zero, List.set_cons_succ]
           refine wpAnyH_ready (rs := [5]) (by kernel_rfl) (by simp) ?_
           refine AllReadyH.cons (by simp only [List.getElem?_toArray, List.getElem?_cons_zero, List.getElem?_cons_succ]; rfl) (fun K hK => ?_) AllReadyH.nil
           go_simp
           go_at_call 16
           go_must ((with_reducible refine (HC1.out _).mono ?_); rintro e w8 ⟨a5, c5, b5, d5, rfl, hN, hb5⟩; have HD5 := hid (Fr.belowT HD.out hb5); have HN5 := hid (hN.rd false); clear hN hb5)
           (try go_wp2_with fail)
           refine hK.out _ _ (HG.out _ HD5.out) (fun hHeld => ?_)
           clear hK K
           try simp only [Act.put, List.setIfInBounds_toArray, List.set_cons_zero, List.set_cons_succ]
           refine wpAnyH_ready (rs := [7]) (by kernel_rfl) (by simp) ?_
           refine AllReadyH.cons (by simp only [List.getElem?_toArray, List.getElem?_cons_zero, List.getElem?_cons_succ]; rfl) (fun K hK => ?_) AllReadyH.nil
           go_simp
           go_at_call 14
           go_must ((with_reducible refine (HM1.out _ _ HD5.out HN5.out).mono ?_); rintro e w9 ⟨rfl, hb6⟩; have HD6 := hid (Fr.belowT HD5.out hb6); clear hb6)
           (try go_wp2_with fail)
           refine hK.out _ _ (HG.out _ HD6.out) (fun hHeld => ?_)
           clear hK K
           try simp only [Act.put, List.setIfInBounds_toArray, List.set_cons_zero, List.set_cons_succ]
           refine wpAnyH_take (i := 8) (v := ?_) (by simp only [List.getElem?_toArray, List.getElem?_cons_zero, List.getElem?_cons_succ]; rfl) (by kernel_rfl) (by kernel_rfl) (by kernel_rfl) (by intro _ _ _ h; exact h) (Or.inl ⟨by rfl, ?_⟩) (by assumption) ?_
           rotate_left
           ·(intro w' hSw; (try dsimp only at hSw); go_simp) <;> with_reducible rfl
           try simp only [Act.put, List.setIfInBounds_toArray, List.set_cons_zero, List.set_cons_succ]
           refine wpAnyH_take (i := 9) (v := ?_) (by simp only [List.getElem?_toArray, List.getElem?_cons_zero, List.getElem?_cons_succ]; rfl) (by kernel_rfl) (by kernel_rfl) (by kernel_rfl) (by intro _ _ _ h; exact h) (Or.inl ⟨by rfl, ?_⟩) (by assumption) ?_
           rotate_left
           ·(intro w' hSw; (try dsimp only at hSw); go_simp) <;> with_reducible rfl
           try simp only [Act.put, List.setIfInBounds_toArray, List.set_cons_zero, List.set_cons_succ]
           refine wpAnyH_take (i := 10) (v := undef) (by simp only [List.getElem?_toArray, List.getElem?_cons_zero, List.getElem?_cons_succ]; rfl) (by kernel_rfl) (by kernel_rfl) (by kernel_rfl) (by intro _ _ _ h; exact h) (Or.inr ⟨by rfl, rfl⟩) (by assumption) ?_
           try simp only [Act.put, List.setIfInBounds_toArray, List.set_cons_zero, List.set_cons_succ]
           refine wpAnyH_take (i := 11) (v := undef) (by simp only [List.getElem?_toArray, List.getElem?_cons_zero, List.getElem?_cons_succ]; rfl) (by kernel_rfl) (by kernel_rfl) (by kernel_rfl) (by intro _ _ _ h; exact h) (Or.inr ⟨by rfl, rfl⟩) (by assumption) ?_
           try simp only [Act.put, List.setIfInBounds_toArray, List.set_cons_zero, List.set_cons_succ]
           refine wpAnyH_take (i := 12) (v := undef) (by simp only [List.getElem?_toArray, List.getElem?_cons_zero, List.getElem?_cons_succ]; rfl) (by kernel_rfl) (by kernel_rfl) (by kernel_rfl) (by intro _ _ _ h; exact h) (Or.inr ⟨by rfl, rfl⟩) (by assumption) ?_
           try simp only [Act.put, List.setIfInBounds_toArray, List.set_cons_zero, List.set_cons_succ]
           refine wpAnyH_take (i := 13) (v := undef) (by simp only [List.getElem?_toArray, List.getElem?_cons_zero, List.getElem?_cons_succ]; rfl) (by kernel_rfl) (by kernel_rfl) (by kernel_rfl) (by intro _ _ _ h; exact h) (Or.inr ⟨by rfl, rfl⟩) (by assumption) ?_
           try simp only [Act.put, List.setIfInBounds_toArray, List.set_cons_zero, List.set_cons_succ]
           refine wpAnyH_take (i := 14) (v := undef) (by simp only [List.getElem?_toArray, List.getElem?_cons_zero, List.getElem?_cons_succ]; rfl) (by kernel_rfl) (by kernel_rfl) (by kernel_rfl) (by intro _ _ _ h; exact h) (Or.inr ⟨by rfl, rfl⟩) (by assumption) ?_
           try simp only [Act.put, List.setIfInBounds_toArray, List.set_cons_zero, List.set_cons_succ]
           refine wpAnyH_take (i := 15) (v := undef) (by simp only [List.getElem?_toArray, List.getElem?_cons_zero, List.getElem?_cons_succ]; rfl) (by kernel_rfl) (by kernel_rfl) (by kernel_rfl) (by intro _ _ _ h; exact h) (Or.inr ⟨by rfl, rfl⟩) (by assumption) ?_
           try simp only [Act.put, List.setIfInBounds_toArray, List.set_cons_zero, List.set_cons_succ]
           refine wpAnyH_take (i := 16) (v := ?_) (by simp only [List.getElem?_toArray, List.getElem?_cons_zero, List.getElem?_cons_succ]; rfl) (by kernel_rfl) (by kernel_rfl) (by kernel_rfl) (by intro _ _ _ h; exact h) (Or.inl ⟨by rfl, ?_⟩) (by assumption) ?_
           rotate_left
           ·(intro w' hSw; (try dsimp only at hSw); go_simp) <;> with_reducible rfl
           try simp only [Act.put, List.setIfInBounds_toArray, List.set_cons_zero, List.set_cons_succ]
           refine wpAnyH_take (i := 17) (v := ?_) (by simp only [List.getElem?_toArray, List.getElem?_cons_zero, List.getElem?_cons_succ]; rfl) (by kernel_rfl) (by kernel_rfl) (by kernel_rfl) (by intro _ _ _ h; exact h) (Or.inl ⟨by rfl, ?_⟩) (by assumption) ?_
           rotate_left
           ·(intro w' hSw; (try dsimp only at hSw); go_simp) <;> with_reducible rfl
           try simp only [Act.put, List.setIfInBounds_toArray, List.set_cons_zero, List.set_cons_succ]
           refine wpAnyH_done (by kernel_rfl) ?_ _
           go_wp2_with fail
           go_meet
           exact ⟨by rw [hdc], HD6⟩
          ·have hdc : decide (0 < co) = false := decide_eq_false hc0
           have hcp : ¬ (0 : Int) < (co : Int) := by omega
           refine wp_region_held_drew (S := fun W => W.cell? ⟨w5.heap.size, 0, none⟩ = some (.int .i64 a.id) ∧ W.cell? ⟨w5.heap.size, 1, none⟩ = some (.int .i64 (i : Int)) ∧ W.cell? ⟨w5.heap.size, 2, none⟩ = some (.int .i64 b.id) ∧ W.cell? ⟨w5.heap.size, 3, none⟩ = some (.int .i64 (j : Int)) ∧ W.cell? ⟨w5.heap.size, 4, none⟩ = some (.int .i64 (co : Int)) ∧ W.cell? ⟨w5.heap.size, 5, none⟩ = some (.int .i64 (oa : Int)) ∧ W.cell? ⟨w5.heap.size, 6, none⟩ = some (.int .i64 ob) ∧ W.cell? ⟨w5.heap.size, 7, none⟩ = some (.int .i64 ma) ∧ W.cell? ⟨w5.heap.size, 8, none⟩ = some (.int .i64 mb) ∧ W.cell? ⟨w5.heap.size, 9, none⟩ = some (.int .i64 la) ∧ W.cell? ⟨w5.heap.size, 10, none⟩ = some (.int .i64 lb) ∧ W.cell? ⟨w.heap.size, 0, none⟩ = some (.bool false) ∧ W.cell? ⟨w.heap.size, 1, none⟩ = some (.slice fa1 l1 fc1) ∧ W.cell? ⟨w.heap.size, 2, none⟩ = some (.bool false) ∧ W.cell? ⟨w.heap.size, 3, none⟩ = some (.slice fb1 k1 fd1)) (by kernel_rfl) (HG.out _ HD.out) (fun hHeld => ?_)
           refine wpAnyH_take (i := 0) (v := ?_) (by simp only [List.getElem?_toArray, List.getElem?_cons_zero, List.getElem?_cons_succ]; rfl) (by kernel_rfl) (by kernel_rfl) (by kernel_rfl) (by intro _ _ _ h; exact h) (Or.inl ⟨by rfl, ?_⟩) (by assumption) ?_
           rotate_left
           ·(intro w' hSw; (try dsimp only at hSw); go_simp) <;> with_reducible rfl
           try simp only [Act.put, List.setIfInBounds_toArray, List.set_cons_zero, List.set_cons_succ]
           refine wpAnyH_take (i := 1) (v := ?_) (by simp only [List.getElem?_toArray, List.getElem?_cons_zero, List.getElem?_cons_succ]; rfl) (by kernel_rfl) (by kernel_rfl) (by kernel_rfl) (by intro _ _ _ h; exact h) (Or.inl ⟨by rfl, ?_⟩) (by assumption) ?_
           rotate_left
           ·(intro w' hSw; (try dsimp only at hSw); go_simp) <;> with_reducible rfl
           try simp only [Act.put, List.setIfInBounds_toArray, List.set_cons_zero, List.set_cons_succ]
           refine wpAnyH_take (i := 2) (v := ?_) (by simp only [List.getElem?_toArray, List.getElem?_cons_zero, List.getElem?_cons_succ]; rfl) (by kernel_rfl) (by kernel_rfl) (by kernel_rfl) (by intro _ _ _ h; exact h) (Or.inl ⟨by rfl, ?_⟩) (by assumption) ?_
           rotate_left
           ·(intro w' hSw; (try dsimp only at hSw); go_simp) <;> with_reducible rfl
           try simp only [Act.put, List.setIfInBounds_toArray, List.set_cons_zero, List.set_cons_succ]
           refine wpAnyH_take (i := 3) (v := ?_) (by simp only [List.getElem?_toArray, List.getElem?_cons_zero, List.getElem?_cons_succ]; rfl) (by kernel_rfl) (by kernel_rfl) (by kernel_rfl) (by intro _ _ _ h; exact h) (Or.inl ⟨by rfl, ?_⟩) (by assumption) ?_
           rotate_left
           ·(intro w' hSw; (try dsimp only at hSw); go_simp) <;> with_reducible rfl
           try simp only [Act.put, List.setIfInBounds_toArray, List.set_cons_zero, List.set_cons_succ]
           refine wpAnyH_take (i := 4) (v := undef) (by simp only [List.getElem?_toArray, List.getElem?_cons_zero, List.getElem?_cons_succ]; rfl) (by kernel_rfl) (by kernel_rfl) (by kernel_rfl) (by intro _ _ _ h; exact h) (Or.inr ⟨by rfl, rfl⟩) (by assumption) ?_
           try simp only [Act.put, List.setIfInBounds_toArray, List.set_cons_zero, List.set_cons_succ]
           refine wpAnyH_take (i := 5) (v := undef) (by simp only [List.getElem?_toArray, List.getElem?_cons_zero, List.getElem?_cons_succ]; rfl) (by kernel_rfl) (by kernel_rfl) (by kernel_rfl) (by intro _ _ _ h; exact h) (Or.inr ⟨by rfl, rfl⟩) (by assumption) ?_
           try simp only [Act.put, List.setIfInBounds_toArray, List.set_cons_zero, List.set_cons_succ]
           refine wpAnyH_take (i := 6) (v := undef) (by simp only [List.getElem?_toArray, List.getElem?_cons_zero, List.getElem?_cons_succ]; rfl) (by kernel_rfl) (by kernel_rfl) (by kernel_rfl) (by intro _ _ _ h; exact h) (Or.inr ⟨by rfl, rfl⟩) (by assumption) ?_
           try simp only [Act.put, List.setIfInBounds_toArray, List.set_cons_zero, List.set_cons_succ]
           refine wpAnyH_take (i := 7) (v := undef) (by simp only [List.getElem?_toArray, List.getElem?_cons_zero, List.getElem?_cons_succ]; rfl) (by kernel_rfl) (by kernel_rfl) (by kernel_rfl) (by intro _ _ _ h; exact h) (Or.inr ⟨by rfl, rfl⟩) (by assumption) ?_
           try simp only [Act.put, List.setIfInBounds_toArray, List.set_cons_zero, List.set_cons_succ]
           refine wpAnyH_take (i := 8) (v := undef) (by simp only [List.getElem?_toArray, List.getElem?_cons_zero, List.getElem?_cons_succ]; rfl) (by kernel_rfl) (by kernel_rfl) (by kernel_rfl) (by intro _ _ _ h; exact h) (Or.inr ⟨by rfl, rfl⟩) (by assumption) ?_
           try simp only [Act.put, List.setIfInBounds_toArray, List.set_cons_zero, List.set_cons_succ]
           refine wpAnyH_take (i := 9) (v := undef) (by simp only [List.getElem?_toArray, List.getElem?_cons_zero, List.getElem?_cons_succ]; rfl) (by kernel_rfl) (by kernel_rfl) (by kernel_rfl) (by intro _ _ _ h; exact h) (Or.inr ⟨by rfl, rfl⟩) (by assumption) ?_
           try simp only [Act.put, List.setIfInBounds_toArray, List.set_cons_zero, List.set_cons_succ]
           refine wpAnyH_take (i := 10) (v := undef) (by simp only [List.getElem?_toArray, List.getElem?_cons_zero, List.getElem?_cons_succ]; rfl) (by kernel_rfl) (by kernel_rfl) (by kernel_rfl) (by intro _ _ _ h; exact h) (Or.inr ⟨by rfl, rfl⟩) (by assumption) ?_
           try simp only [Act.put, List.setIfInBounds_toArray, List.set_cons_zero, List.set_cons_succ]
           refine wpAnyH_take (i := 11) (v := undef) (by simp only [List.getElem?_toArray, List.getElem?_cons_zero, List.getElem?_cons_succ]; rfl) (by kernel_rfl) (by kernel_rfl) (by kernel_rfl) (by intro _ _ _ h; exact h) (Or.inr ⟨by rfl, rfl⟩) (by assumption) ?_
           try simp only [Act.put, List.setIfInBounds_toArray, List.set_cons_zero, List.set_cons_succ]
           refine wpAnyH_take (i := 12) (v := undef) (by simp only [List.getElem?_toArray, List.getElem?_cons_zero, List.getElem?_cons_succ]; rfl) (by kernel_rfl) (by kernel_rfl) (by kernel_rfl) (by intro _ _ _ h; exact h) (Or.inr ⟨by rfl, rfl⟩) (by assumption) ?_
           try simp only [Act.put, List.setIfInBounds_toArray, List.set_cons_zero, List.set_cons_succ]
           refine wpAnyH_take (i := 13) (v := undef) (by simp only [List.getElem?_toArray, List.getElem?_cons_zero, List.getElem?_cons_succ]; rfl) (by kernel_rfl) (by kernel_rfl) (by kernel_rfl) (by intro _ _ _ h; exact h) (Or.inr ⟨by rfl, rfl⟩) (by assumption) ?_
           try simp only [Act.put, List.setIfInBounds_toArray, List.set_cons_zero, List.set_cons_succ]
           refine wpAnyH_take (i := 14) (v := undef) (by simp only [List.getElem?_toArray, List.getElem?_cons_zero, List.getElem?_cons_succ]; rfl) (by kernel_rfl) (by kernel_rfl) (by kernel_rfl) (by intro _ _ _ h; exact h) (Or.inr ⟨by rfl, rfl⟩) (by assumption) ?_
           try simp only [Act.put, List.setIfInBounds_toArray, List.set_cons_zero, List.set_cons_succ]
           refine wpAnyH_take (i := 15) (v := undef) (by simp only [List.getElem?_toArray, List.getElem?_cons_zero, List.getElem?_cons_succ]; rfl) (by kernel_rfl) (by kernel_rfl) (by kernel_rfl) (by intro _ _ _ h; exact h) (Or.inr ⟨by rfl, rfl⟩) (by assumption) ?_
           try simp only [Act.put, List.setIfInBounds_toArray, List.set_cons_zero, List.set_cons_succ]
           refine wpAnyH_take (i := 16) (v := undef) (by simp only [List.getElem?_toArray, List.getElem?_cons_zero, List.getElem?_cons_succ]; rfl) (by kernel_rfl) (by kernel_rfl) (by kernel_rfl) (by intro _ _ _ h; exact h) (Or.inr ⟨by rfl, rfl⟩) (by assumption) ?_
           try simp only [Act.put, List.setIfInBounds_toArray, List.set_cons_zero, List.set_cons_succ]
           refine wpAnyH_take (i := 17) (v := ?_) (by simp only [List.getElem?_toArray, List.getElem?_cons_zero, List.getElem?_cons_succ]; rfl) (by kernel_rfl) (by kernel_rfl) (by kernel_rfl) (by intro _ _ _ h; exact h) (Or.inl ⟨by rfl, ?_⟩) (by assumption) ?_
           rotate_left
           ·(intro w' hSw; (try dsimp only at hSw); go_simp) <;> with_reducible rfl
           try simp only [Act.put, List.setIfInBounds_toArray, List.set_cons_zero, List.set_cons_succ]
           refine wpAnyH_done (by kernel_rfl) ?_ _
           go_wp2_with fail
           go_meet
           exact ⟨by rw [hdc], HD⟩
         case rest =>
         obtain ⟨rfl, HXW⟩ := hcut
         obtain ⟨w7, rfl⟩ : ∃ W, W = wc := ⟨wc, rfl⟩
         have HB7 := hid (HB6.out.trans (HXW.out.mono hB6s))
         have h7s := HB7.out.size
         have HR7 := hid (HR6.out.below HXW.out HR6.out.lt)
         have HF7 := hid (HF6.out.below HXW.out HF6.out.lt)
         have HA7 := hid (HA6.out.below HXW.out HA6.out.lt)
         have HX7b := hid (HX6.out.below HXW.out HX6.out.lt)
         have HO7 := hid (HO6.out.later HXW.out)
         clear HXW HB6 HR6 HF6 HA6 HX6 HO6 HG HSX
         generalize decide (0 < co) = g at *
         cases g with
         | false =>
          go_wp2_with fail
          go_roundg (gk - 1)
          case rel => exact ⟨j + 1, rs, by go_num, by omega, hid (HGW.out.mono (by omega)), HB7, HF7, HA7, HX7b, HO7⟩
          case measure => omega
         | true =>
          have HGP := hid (HGW.out.push (r := ⟨a.id, (i : Int), b.id, (j : Int), (co : Int), (oa : Int), ob, ma, mb, la, lb⟩) (HIDM.out a HMA.out) (HIDM.out b HMB.out) HAB.out)
          have r0 := HR7.out.cell 0 rfl
          have r1 := HR7.out.cell 1 rfl
          have r2 := HR7.out.cell 2 rfl
          have r3 := HR7.out.cell 3 rfl
          have r4 := HR7.out.cell 4 rfl
          have r5 := HR7.out.cell 5 rfl
          have r6 := HR7.out.cell 6 rfl
          have r7 := HR7.out.cell 7 rfl
          have r8 := HR7.out.cell 8 rfl
          have r9 := HR7.out.cell 9 rfl
          have r10 := HR7.out.cell 10 rfl
          have HB8 := hid (HB7.out.alloc h7s (.cells #[.int .i64 a.id, .int .i64 (i : Int), .int .i64 b.id, .int .i64 (j : Int), .int .i64 (co : Int), .int .i64 (oa : Int), .int .i64 ob, .int .i64 ma, .int .i64 mb, .int .i64 la, .int .i64 lb] 44))
          have HF8 := hid (HF7.out.alloc (.cells #[.int .i64 a.id, .int .i64 (i : Int), .int .i64 b.id, .int .i64 (j : Int), .int .i64 (co : Int), .int .i64 (oa : Int), .int .i64 ob, .int .i64 ma, .int .i64 mb, .int .i64 la, .int .i64 lb] 44))
          have HA8 := hid (HA7.out.alloc (.cells #[.int .i64 a.id, .int .i64 (i : Int), .int .i64 b.id, .int .i64 (j : Int), .int .i64 (co : Int), .int .i64 (oa : Int), .int .i64 ob, .int .i64 ma, .int .i64 mb, .int .i64 la, .int .i64 lb] 44))
          have HX8 := hid (HX7b.out.alloc (.cells #[.int .i64 a.id, .int .i64 (i : Int), .int .i64 b.id, .int .i64 (j : Int), .int .i64 (co : Int), .int .i64 (oa : Int), .int .i64 ob, .int .i64 ma, .int .i64 mb, .int .i64 la, .int .i64 lb] 44))
          have HO8 := hid (HO7.out.later ((Below.refl w7.heap.size w7).alloc (Nat.le_refl _) (.cells #[.int .i64 a.id, .int .i64 (i : Int), .int .i64 b.id, .int .i64 (j : Int), .int .i64 (co : Int), .int .i64 (oa : Int), .int .i64 ob, .int .i64 ma, .int .i64 mb, .int .i64 la, .int .i64 lb] 44)))
          have HBN8 := hid (BoxN.new w7 #[.int .i64 a.id, .int .i64 (i : Int), .int .i64 b.id, .int .i64 (j : Int), .int .i64 (co : Int), .int .i64 (oa : Int), .int .i64 ob, .int .i64 ma, .int .i64 mb, .int .i64 la, .int .i64 lb] 44)
          have hbs8 := HF7.out.lt
          go_wp2_with (at_builtin; refine wpList_append_rl rfl _ _ rfl (w.heap.size + 1) (.slice ua rs.length uc) rs rfl HO8.out ⟨a.id, (i : Int), b.id, (j : Int), (co : Int), (oa : Int), ob, ma, mb, la, lb⟩ w7.heap.size 1 44 rfl HBN8.out (by omega) (by rw [World.size_alloc]; omega) ?_; intro g cap w9 hown9 hg9; have HOWN9 := hid hown9; have HB9 := hid (HB8.out.grown hg9 (by rw [World.size_alloc]; omega) (fun k hk => by have h1 := (HO8.out.lt k hk).1; omega)); have HF9 := hid (HF8.out.grown hg9 (HO8.out.apart HF8.out (by decide))); have HA9 := hid (HA8.out.grown hg9 (HO8.out.apart HA8.out (by decide))); have HX9 := hid (HX8.out.grown hg9 (HO8.out.apart HX8.out (by decide))); clear hown9 hg9)
          go_roundg (gk - 1)
          case rel => exact ⟨j + 1, rs ++ [⟨a.id, (i : Int), b.id, (j : Int), (co : Int), (oa : Int), ob, ma, mb, la, lb⟩], by go_num, by omega, hid (HGP.out.mono (by omega)), HB9, HF9, HA9, HX9, HOWN9⟩
          case measure => omega
        ·obtain rfl : gk = 0 := by omega
         obtain rfl : j = Lb := by omega
         go_wp2_with fail
         go_roundg (gC - 1)
         case rel => exact ⟨y + 1, rs, by go_num, by omega, hid (HGW.out.mono (by omega)), HB1, HF1, HA1, HO1⟩
         case measure => omega
      ·obtain rfl : gC = 0 := by omega
       obtain rfl : y = Y := by omega
       go_wp2_with fail
       go_roundg (gB - 1)
       case rel => exact ⟨i + 1, rs, by go_num, by omega, hid (HGW.out.mono (by omega)), HB1, HF1, HA1, HO1⟩
       case measure => omega
    ·obtain rfl : gB = 0 := by omega
     obtain rfl : i = La := by omega
     go_wp2_with fail
     go_roundg (gA - 1)
     case rel => exact ⟨x + 1, rs, by go_num, by omega, hid (HGW.out.mono (by omega)), HB1, HF1, HO1⟩
     case measure => omega
  ·obtain rfl : gA = 0 := by omega
   obtain rfl : x = N := by omega
   obtain ⟨oa, oc, rfl⟩ := HO1.out.len
   have HRES : Hid (BuildWP w ts (.returned (.tuple #[.slice oa rs.length oc, .int .i64 0])) wA) := hid ⟨_, rs, rfl, HGW.out.mono (by omega), own_base HO1.out (by omega), HB1.out⟩
   go_wp2
   refine bodyPost_ret (v := .tuple #[.slice oa rs.length oc, .int .i64 0]) (by simp [results, Tryz.results23, go_sem]) rfl HRES.out
end Go.Proofs.YtaajpliifdlokaaGreatDoor
