/- The walk of GraphLess. -/
import Derived.Deep.Cut
import Derived.Deep.CutRange
import Derived.Deep.RegionHeld3
import Derived.Test.YtaajpliifdlokaaGreatDoorGLsbc
import Derived.Test.YtaajpliifdlokaaGreatDoorGLsbd
import Derived.Test.YtaajpliifdlokaaGreatDoorGLsau
import Derived.Test.YtaajpliifdlokaaGreatDoorGLsaq
set_option linter.unusedVariables false
set_option linter.unusedSimpArgs false
namespace Go.Proofs.YtaajpliifdlokaaGreatDoor
open Go.RowKit
theorem part5 (P : Nat) (h : P < 5) : Fr.Sml (P / Nat.gcd P 4) (4 / Nat.gcd P 4) ∧ P / Nat.gcd P 4 ≤ 4 / Nat.gcd P 4 := by
  refine ⟨Fr.sml_of (by omega) (by omega) (by omega), Nat.div_le_div_right (by omega)⟩
theorem JL.few {ts : List Ta} (h : JL ts) (hl : ts.length ≤ 4) : FewT ts := ⟨by omega, fun t ht => by have := (h.2 t ht).1; omega⟩
theorem rels_few {ts : List Ta} (h : FewT ts) : (relsL ts).length ≤ 1000000 := by
  have h1 := takeA_len h ts.length
  rw [List.take_length] at h1
  exact Nat.le_trans h1 (by omega)
theorem share_lt {c d p q : Nat} (hd : 0 < d) : decide (c / Nat.gcd c d * q < p * (d / Nat.gcd c d)) = !decide (p * d ≤ c * q) := by
  have h := @Fr.share_sgn c d p q hd
  rcases Nat.lt_or_ge (c / Nat.gcd c d * q) (p * (d / Nat.gcd c d)) with h1 | h1
  · rw [Fr.sgn_lt h1] at h
    have h2 : ¬ p * d ≤ c * q := fun e => by have := h.2 e; omega
    rw [decide_eq_true h1, decide_eq_false h2]; rfl
  · have h3 : (0 : Int) ≤ Fr.sgn (c / Nat.gcd c d * q) (p * (d / Nat.gcd c d)) := by
      rcases Nat.eq_or_lt_of_le h1 with e | e
      · rw [← e, Fr.sgn_self]; omega
      · rw [Fr.sgn_gt e]; omega
    rw [decide_eq_false (Nat.not_lt.2 h1), decide_eq_true (h.1 h3)]; rfl
theorem good_ne {ts : List Ta} (hv : ListV ts) {r s : Rl} (hr : r ∈ relsL ts) (hs : s ∈ relsL ts) (h : s ≠ r) : ¬ s.ta = r.ta ∨ ¬ s.ca = r.ca ∨ ¬ s.tb = r.tb ∨ ¬ s.cb = r.cb := by
  refine Classical.byContradiction fun h2 => h (rels_anti hv hs hr ?_ ?_) <;> unfold ltR <;> omega
theorem good_mem {ts : List Ta} {p q : Nat} {x : List Rl} (hx : x.Perm (goodL ts p q)) {i : Nat} (hi : i < x.length) : x.getD i Rl.z ∈ relsL ts := by
  have h := hx.mem_iff.1 (getD_mem hi Rl.z)
  unfold goodL at h
  exact (List.mem_filter.1 h).1
theorem less_form {ts : List Ta} (hv : ListV ts) {p1 q1 : Nat} {x : List Rl} (hx : x.Perm (goodL ts p1 q1)) (p2 q2 : Nat) (q : Nat) (hq : q < x.length) :
    ∃ ta ca tb cb ma mb la lb : Int, ∃ c o1 o2 : Nat, x.getD q Rl.z = ⟨ta, ca, tb, cb, (c : Int), (o1 : Int), (o2 : Int), ma, mb, la, lb⟩ ∧ 0 < c ∧ c + o1 < 4294967296 ∧ c + o2 < 4294967296 ∧ enL p2 q2 (x.getD q Rl.z) = Fr.enR c o1 o2 p2 q2 := by
  have hm : x.getD q Rl.z ∈ goodL ts p1 q1 := hx.mem_iff.1 (getD_mem hq Rl.z)
  unfold goodL at hm
  obtain ⟨hm1, hm2⟩ := List.mem_filter.1 hm
  obtain ⟨a, ha, b, hb, -, i, j, hi, hj, e⟩ := mem_rels hm1
  obtain ⟨c, o1, o2, ma, mb, la, lb, e2, h1, h2⟩ := relL_form a b i j
  rw [e2] at e
  have t1 := Nat.le_trans (setOfL_len (txC a i)) (tx_len (hv.2.1 a ha) i)
  have t2 := Nat.le_trans (setOfL_len (txC b j)) (tx_len (hv.2.1 b hb) j)
  refine ⟨_, _, _, _, ma, mb, la, lb, c, o1, o2, e, ?_, by omega, by omega, ?_⟩
  · rw [e] at hm2
    unfold enL Fr.enR at hm2
    simp only [Bool.and_eq_true, decide_eq_true_eq] at hm2
    have := hm2.1
    simpa using this
  · rw [e]
    unfold enL
    simp
set_option maxRecDepth 100000 in
set_option maxHeartbeats 8000000 in
theorem law30_less (a : Option Addr) (n c : Nat) (z1 z2 : Int) (w : World) (hA : RdI w w.heap.size a n c) (hT : Tabs w) (hP : Pow w) (ho : Fr.OneAt w) :
  Calls Tryz.prog 3 #[.slice a n c, .int .i64 z1, .int .i64 z2] w (Ret w (.bool true)) := by
 have HA := hid hA
 have HT := hid hT
 have HP := hid hP
 have HO := hid ho
 have hnm : n ≤ maxLen := Nat.le_trans hA.1 hA.2.1
 have HAW := hid (fun W (hW : Below w.heap.size w W) => law30_awake W (hT.below hW) (ho.below hW))
 clear hA hT hP ho
 by_cases hg : n ≤ 500
 ·have HLI := hid (kit_Light a n c w hnm)
  rw [decide_eq_true hg] at HLI
  have HM1 := hid (kit_Mod z1 5 (by omega) (by omega))
  have HM2 := hid (kit_Mod z2 5 (by omega) (by omega))
  obtain ⟨m1, hm1⟩ : ∃ m : Nat, z1 % 5 = (m : Int) := ⟨(z1 % 5).toNat, by omega⟩
  obtain ⟨m2, hm2⟩ : ∃ m : Nat, z2 % 5 = (m : Int) := ⟨(z2 % 5).toNat, by omega⟩
  have hm15 : m1 < 5 := by omega
  have hm25 : m2 < 5 := by omega
  rw [hm1] at HM1
  rw [hm2] at HM2
  clear hm1 hm2
  have HP1 : Hid (∀ W, Calls Tryz.prog 12 #[.int .i64 (m1 : Int), .int .i64 4] W (Fr.GivesF W false (m1 / Nat.gcd m1 4) (4 / Nat.gcd m1 4))) := hid (fun W => Fr.ref_Part m1 4 W (by omega) (by omega) (by omega))
  have HP2 : Hid (∀ W, Calls Tryz.prog 12 #[.int .i64 (m2 : Int), .int .i64 4] W (Fr.GivesF W false (m2 / Nat.gcd m2 4) (4 / Nat.gcd m2 4))) := hid (fun W => Fr.ref_Part m2 4 W (by omega) (by omega) (by omega))
  obtain ⟨hs1, hp1⟩ := part5 m1 hm15
  obtain ⟨hs2, hp2⟩ := part5 m2 hm25
  generalize m1 / Nat.gcd m1 4 = p1 at *
  generalize 4 / Nat.gcd m1 4 = q1 at *
  generalize m2 / Nat.gcd m2 4 = p2 at *
  generalize 4 / Nat.gcd m2 4 = q2 at *
  have HS1 := hid hs1
  have HS2 := hid hs2
  clear hs1 hs2
  go_enter Tryz.func3, Tryz.ntmps3
  generalize hLA : Code.loop _ = LA
  go_wp2_with fail
  with_reducible refine HLI.out.mono ?_
  rintro e w0 ⟨rfl, rfl⟩
  clear HLI
  go_wp2_with fail
  with_reducible refine (kit_Roll a n c _ HA.out hg HP.out).mono ?_
  rintro e w1 ⟨rfl, hd1, hb1⟩
  have HB1 := hid hb1
  have hz1 := hd1.lt
  have HKT := hid (kit_Joined w.heap.size w1 hd1)
  clear hd1 hb1
  go_wp2_with fail
  with_reducible refine HKT.out.mono ?_
  rintro e w2 ⟨ts, v, rfl, hrd, hl2, hl4, hj, hlv, -, hr2⟩
  have HLV := hid hlv
  have HFEW := hid (hj.few hl4)
  have hz2 := hr2.size
  have HB2 := hid (HB1.out.trans (hr2.below (B' := w.heap.size) (Nat.le_refl _) (by omega)))
  have hrd2 := hrd.more (S' := (· < w2.heap.size)) fun b hb => hb.2
  have HV := hid (fun W (hW : Below w2.heap.size w2 W) => hrd2.keep (w' := W) fun p (hp : p.block < w2.heap.size) => hW.cell (p := p) hp)
  clear hrd hrd2 hj hlv hr2 HKT
  go_wp2_with fail
  with_reducible refine (HM1.out w2).mono ?_
  rintro e w0 ⟨rfl, rfl⟩
  go_wp2_with fail
  with_reducible refine (HP1.out w2).mono ?_
  rintro e w3 ⟨a1, c1, b1, d1, rfl, hN1, hb3⟩
  have HB3 := hid (HB2.out.trans (hb3.mono HB2.out.size))
  have HB23 := hid hb3
  have HN1 := hid (hN1.rd false)
  clear hN1 hb3
  go_wp2_with fail
  with_reducible refine (HM2.out w3).mono ?_
  rintro e w0 ⟨rfl, rfl⟩
  go_wp2_with fail
  with_reducible refine (HP2.out w3).mono ?_
  rintro e w4 ⟨a2, c2, b2, d2, rfl, hN2, hb4⟩
  have HB4 := hid (HB3.out.trans (hb4.mono HB3.out.size))
  have HB24 := hid (HB23.out.trans (hb4.mono HB23.out.size))
  have HF1 := hid (HN1.out.kept hb4)
  have HF2 := hid (hN2.rd false)
  clear hN2 hb4 HB3 HB23 HN1 HM1 HM2 HP1 HP2
  go_wp2_with fail
  have hbA := (BoxN.new w4 #[.bool false, .slice a1 (Fr.dig p1).length c1, .bool false, .slice b1 (Fr.dig q1).length d1] 33).alloc (.cells #[.bool false, .slice a2 (Fr.dig p2).length c2, .bool false, .slice b2 (Fr.dig q2).length d2] 33)
  have hbB := BoxN.new (w4.alloc (.cells #[.bool false, .slice a1 (Fr.dig p1).length c1, .bool false, .slice b1 (Fr.dig q1).length d1] 33)) #[.bool false, .slice a2 (Fr.dig p2).length c2, .bool false, .slice b2 (Fr.dig q2).length d2] 33
  have hsW := ((Below.refl w4.heap.size w4).alloc (Nat.le_refl _) (.cells #[.bool false, .slice a1 (Fr.dig p1).length c1, .bool false, .slice b1 (Fr.dig q1).length d1] 33)).alloc (by simp) (.cells #[.bool false, .slice a2 (Fr.dig p2).length c2, .bool false, .slice b2 (Fr.dig q2).length d2] 33)
  rw [World.size_alloc] at hbB
  obtain ⟨X0, hX0⟩ : ∃ W, W = (w4.alloc (.cells #[.bool false, .slice a1 (Fr.dig p1).length c1, .bool false, .slice b1 (Fr.dig q1).length d1] 33)).alloc (.cells #[.bool false, .slice a2 (Fr.dig p2).length c2, .bool false, .slice b2 (Fr.dig q2).length d2] 33) := ⟨_, rfl⟩
  rw [← hX0] at hbA hbB hsW
  rw [← hX0]
  clear hX0
  with_reducible refine (Fr.ref_Less _ _ p2 q2 p1 q1 X0 (HF2.out.kept hsW) (HF1.out.kept hsW) HS2.out HS1.out).mono ?_
  rintro e w5 ⟨rfl, hb5⟩
  have HA5 := hid (hbA.below hb5 hbA.lt)
  have HB5 := hid (hbB.below hb5 hbB.lt)
  have HW5 := hid (hsW.trans (hb5.mono hsW.size))
  clear hbA hbB hsW hb5
  go_upto_if 33 with fail
  go_cut [8] from 18 to 35 (fun s8 wc => s8 = .pointer (some ⟨w4.heap.size, 0, none⟩) ∧ ∃ (a1 : Option Addr) (c1 : Nat) (b1 : Option Addr) (d1 : Nat) (a2 : Option Addr) (c2 : Nat) (b2 : Option Addr) (d2 : Nat) (p1 q1 p2 q2 : Nat), p1 * q2 ≤ p2 * q1 ∧ p1 ≤ q1 ∧ p2 ≤ q2 ∧ Hid (Fr.Sml p1 q1) ∧ Hid (Fr.Sml p2 q2) ∧ Hid (Fr.RdF w4 (.agg #[.bool false, .slice a1 (Fr.dig p1).length c1, .bool false, .slice b1 (Fr.dig q1).length d1]) false p1 q1) ∧ Hid (Fr.RdF w4 (.agg #[.bool false, .slice a2 (Fr.dig p2).length c2, .bool false, .slice b2 (Fr.dig q2).length d2]) false p2 q2) ∧ Hid (BoxN wc w4.heap.size 33 #[.bool false, .slice a1 (Fr.dig p1).length c1, .bool false, .slice b1 (Fr.dig q1).length d1]) ∧ Hid (BoxN wc (w4.heap.size + 1) 33 #[.bool false, .slice a2 (Fr.dig p2).length c2, .bool false, .slice b2 (Fr.dig q2).length d2]) ∧ Hid (Below w4.heap.size w4 wc))
  case first =>
   by_cases hls : p2 * q1 < p1 * q2
   ·have hgd : decide (p2 * q1 < p1 * q2) = true := decide_eq_true hls
    have x0 := HA5.out.cell 0 rfl
    have y0 := HB5.out.cell 0 rfl
    have fx0 := HA5.out.frozen 0
    have fy0 := HB5.out.frozen 0
    have x1 := HA5.out.cell 1 rfl
    have y1 := HB5.out.cell 1 rfl
    have fx1 := HA5.out.frozen 1
    have fy1 := HB5.out.frozen 1
    have x2 := HA5.out.cell 2 rfl
    have y2 := HB5.out.cell 2 rfl
    have fx2 := HA5.out.frozen 2
    have fy2 := HB5.out.frozen 2
    have x3 := HA5.out.cell 3 rfl
    have y3 := HB5.out.cell 3 rfl
    have fx3 := HA5.out.frozen 3
    have fy3 := HB5.out.frozen 3
    go_wp2_with fail
    go_meet
    have hw5 := HW5.out
    exact ⟨rfl, a2, c2, b2, d2, a1, c1, b1, d1, p2, q2, p1, q1, Nat.le_of_lt hls, hp2, hp1, HS2, HS1, HF2, HF1, hid ((((((((HA5.out.set 0 (.bool false)).set 1 (.slice a2 (Fr.dig p2).length c2)).set 2 (.bool false)).set 3 (.slice b2 (Fr.dig q2).length d2)).other (p := ⟨w4.heap.size + 1, 0, none⟩) (by simp) (.bool false)).other (p := ⟨w4.heap.size + 1, 1, none⟩) (by simp) (.slice a1 (Fr.dig p1).length c1)).other (p := ⟨w4.heap.size + 1, 2, none⟩) (by simp) (.bool false)).other (p := ⟨w4.heap.size + 1, 3, none⟩) (by simp) (.slice b1 (Fr.dig q1).length d1)), hid ((((((((HB5.out.other (p := ⟨w4.heap.size, 0, none⟩) (by simp) (.bool false)).other (p := ⟨w4.heap.size, 1, none⟩) (by simp) (.slice a2 (Fr.dig p2).length c2)).other (p := ⟨w4.heap.size, 2, none⟩) (by simp) (.bool false)).other (p := ⟨w4.heap.size, 3, none⟩) (by simp) (.slice b2 (Fr.dig q2).length d2)).set 0 (.bool false)).set 1 (.slice a1 (Fr.dig p1).length c1)).set 2 (.bool false)).set 3 (.slice b1 (Fr.dig q1).length d1)), hid (by repeat' (first | (with_reducible exact Below.refl _ _) | (with_reducible assumption) | (with_reducible refine below_drewN ?_) | (with_reducible refine Below.alloc ?_ ?_ _) | (with_reducible refine Below.drew ?_) | (with_reducible refine Below.setCell ?_ ?_ _) | (with_reducible refine Below.trans ?_ (Below.mono (by with_reducible assumption) ?_)) | go_size))⟩
   ·have hgd : decide (p2 * q1 < p1 * q2) = false := decide_eq_false hls
    go_wp2_with fail
    go_meet
    exact ⟨rfl, a1, c1, b1, d1, a2, c2, b2, d2, p1, q1, p2, q2, Nat.le_of_not_lt hls, hp1, hp2, HS1, HS2, HF1, HF2, HA5, HB5, HW5⟩
  case rest =>
   clear HS1 HS2 HF1 HF2 HA5 HB5 HW5 hp1 hp2
   clear p1 q1 p2 q2 a1 c1 b1 d1 a2 c2 b2 d2
   obtain ⟨rfl, a1, c1, b1, d1, a2, c2, b2, d2, p1, q1, p2, q2, hle, hp1, hp2, HS1, HS2, HF1, HF2, HA5, HB5, HW5⟩ := hcut
   obtain ⟨w5, rfl⟩ : ∃ W, W = wc := ⟨wc, rfl⟩
   have HW25 := hid (HB24.out.trans (HW5.out.mono HB24.out.size))
   have HW05 := hid (HB4.out.trans (HW5.out.mono HB4.out.size))
   have HBU := hid (fun W (hW : Below w5.heap.size w5 W) k (pk qk : Nat) (hF : Fr.RdF w4 (.agg k) false pk qk) (hS : Fr.Sml pk qk) (hpq : pk ≤ qk) => graph_Build v (.agg k) ts pk qk w2.heap.size W HLV.out HFEW.out (HV.out W (HW25.out.trans (hW.mono HW25.out.size))) (Nat.le_trans HW25.out.size hW.size) (hF.kept (HW5.out.trans (hW.mono HW5.out.size))) hS hpq (HT.out.below (HW05.out.trans (hW.mono HW05.out.size))) (HO.out.below (HW05.out.trans (hW.mono HW05.out.size))))
   have x0 := HA5.out.cell 0 rfl
   have x1 := HA5.out.cell 1 rfl
   have x2 := HA5.out.cell 2 rfl
   have x3 := HA5.out.cell 3 rfl
   go_wp2_with fail
   with_reducible refine (HBU.out w5 (Below.refl _ _) _ p1 q1 HF1.out HS1.out hp1).mono ?_
   clear x0 x1 x2 x3
   rintro e w6 ⟨xv, xs, rfl, hpx, hwx, hox, hb6⟩
   obtain ⟨xa, xc, rfl⟩ := hox.len
   have HB56 := hid hb6
   have HB6 := hid (HB5.out.below hb6 HB5.out.lt)
   have hrx0 := hox.read.more (S' := (· < w6.heap.size)) fun b hb => hb.2
   have x0 := HB6.out.cell 0 rfl
   have x1 := HB6.out.cell 1 rfl
   have x2 := HB6.out.cell 2 rfl
   have x3 := HB6.out.cell 3 rfl
   clear hox hb6
   go_wp2_with fail
   with_reducible refine (HBU.out w6 HB56.out _ p2 q2 HF2.out HS2.out hp2).mono ?_
   clear x0 x1 x2 x3
   rintro e w7 ⟨yv, ys, rfl, hpy, hwy, hoy, hb7⟩
   obtain ⟨ya, yc, rfl⟩ := hoy.len
   have hys := less_law HLV.out HS2.out.pos hle hpx hwx hpy hwy
   have HB57 := hid (HB56.out.trans (hb7.mono HB56.out.size))
   have HW07 := hid (HW05.out.trans (HB57.out.mono HW05.out.size))
   have HW47 := hid (HW5.out.trans (HB57.out.mono HW5.out.size))
   have HB7 := hid (HB6.out.below hb7 HB6.out.lt)
   have HXR := hid (fun W (hW : Below w7.heap.size w7 W) => hrx0.keep (w' := W) fun p (hp : p.block < w6.heap.size) => (hW.cell (p := p) (Nat.lt_of_lt_of_le hp hb7.size)).trans (hb7.cell (p := p) hp))
   have hry0 := hoy.read.more (S' := (· < w7.heap.size)) fun b hb => hb.2
   have HYR := hid (fun W (hW : Below w7.heap.size w7 W) => hry0.keep (w' := W) fun p (hp : p.block < w7.heap.size) => hW.cell (p := p) hp)
   have hb67 := hb7.size
   have HFO := hid (less_form HLV.out hpx p2 q2)
   have HNE := hid (fun q k (hq : q < xs.length) (hk : k < ys.length) (h : ys.getD k Rl.z ≠ xs.getD q Rl.z) => good_ne HLV.out (good_mem hpx hq) (good_mem hpy hk) h)
   have HYES := hid (fun q (hq : q < xs.length) => @filt_yes (enL p2 q2) xs q hq)
   have HSTE := hid (fun q (hq : q < xs.length) => @filt_step (enL p2 q2) xs q hq)
   have HNO := hid (fun k (hk : k < ys.length) => (by
    have h1 := @filt_mem (enL p2 q2) xs k (by rw [← hys]; exact hk)
    rw [← hys] at h1
    exact h1 : enL p2 q2 (ys.getD k Rl.z) = true))
   have HFL := hid (fun q => (Nat.le_trans (List.length_filter_le _ _) (List.length_take_le _ _) : ((xs.take q).filter (enL p2 q2)).length ≤ q))
   have hYX : ys.length ≤ xs.length := by rw [hys]; exact List.length_filter_le _ _
   have HEND : Hid (((xs.take xs.length).filter (enL p2 q2)).length = ys.length) := hid (by rw [List.take_length, ← hys])
   rw [← hys] at HYES
   have hX6 : xs.length ≤ 1000000 := by
    have h1 := hpx.length_eq
    have h2 := Nat.le_trans (filt_le (enL p1 q1) (relsL ts)) (rels_few HFEW.out)
    unfold goodL at h1
    omega
   clear hpx hwx hpy hwy hoy hb7 hys hrx0 hry0 HBU HW5 HW25 HW05 HB6 HB56 HB57 HA5 HB5
   generalize hXl : xs.length = X at *
   generalize hYl : ys.length = Y at *
   have HXL := hid hXl
   have HYL := hid hYl
   clear hXl hYl
   have HLE2 := hid (fun W u x y (hW : Below w7.heap.size w7 W) (hu : Fr.RdF W u false x y) (hs : Fr.Sml x y) => Fr.ref_Less u (.agg #[.bool false, .slice a2 (Fr.dig p2).length c2, .bool false, .slice b2 (Fr.dig q2).length d2]) x y p2 q2 W hu (HF2.out.kept (HW47.out.trans (hW.mono HW47.out.size))) hs HS2.out)
   have hgd : decide ((X : Int) < (Y : Int)) = false := decide_eq_false (by omega)
   have hbbz := HB7.out.lt
   generalize (Fr.dig p2).length = l2 at *
   generalize (Fr.dig q2).length = k2 at *
   generalize w4.heap.size + 1 = bb at *
   go_wp2_with fail
   subst hLA
   rw [show decide (X < Y) = false from decide_eq_false (by omega)]
   go_loopg [14, 63] X (fun K kv i wr => ∃ q : Nat, i = .int .i64 (q : Int) ∧ q + K = X ∧ kv = .int .i64 ((((xs.take q).filter (enL p2 q2)).length : Nat) : Int) ∧ Hid (Below w7.heap.size w7 wr))
   case atStart => exact ⟨0, rfl, by omega, rfl, hid (Below.refl _ _)⟩
   case round =>
    obtain ⟨q, rfl, hq, rfl, HWR⟩ := hrel
    obtain ⟨wA, rfl⟩ : ∃ W, W = wr := ⟨wr, rfl⟩
    obtain ⟨gA, rfl⟩ : ∃ g, g = gk := ⟨gk, rfl⟩
    have hwA := HWR.out.size
    by_cases hp : 0 < gA
    ·have hqX : q < X := by omega
     have hqi : (q : Int) < (X : Int) := by omega
     have hfl := HFL.out q
     have HST1 := hid (HSTE.out q hqX)
     have HYE1 := hid (HYES.out q hqX)
     obtain ⟨bx, ox, cx, ex, hbx, k0, k1, k2', k3, k4, k5, k6, k7, k8, k9, k10⟩ := rl_at (HXR.out wA HWR.out) (q := q) (by rw [HXL.out]; exact hqX)
     rw [HXL.out] at ex
     obtain ⟨rfl, -, rfl⟩ := Value.slice.inj ex
     clear ex
     obtain ⟨ta, ca, tb, cb, ma, mb, la, lb, c, o1, o2, er, hc0, hcl1, hcl2, hen⟩ := HFO.out q hqX
     have HNE1 := hid (fun k (hk : k < Y) => HNE.out q k hqX hk)
     rw [er] at HNE1
     rw [er] at k0 k1 k2' k3 k4 k5 k6 k7 k8 k9 k10 HST1 HYE1 hen
     simp only at k0 k1 k2' k3 k4 k5 k6 k7 k8 k9 k10
     have HEN := hid hen
     clear er hen
     generalize hkq : ((xs.take q).filter (enL p2 q2)).length = kq at *
     clear hkq
     have hrb0 := BoxN.new wA #[.int .i64 ta, .int .i64 ca, .int .i64 tb, .int .i64 cb, .int .i64 (c : Int), .int .i64 (o1 : Int), .int .i64 (o2 : Int), .int .i64 ma, .int .i64 mb, .int .i64 la, .int .i64 lb] 44
     have hs0 := (Below.refl wA.heap.size wA).alloc (Nat.le_refl _) (.cells #[.int .i64 ta, .int .i64 ca, .int .i64 tb, .int .i64 cb, .int .i64 (c : Int), .int .i64 (o1 : Int), .int .i64 (o2 : Int), .int .i64 ma, .int .i64 mb, .int .i64 la, .int .i64 lb] 44)
     obtain ⟨W0, hW0⟩ : ∃ W, W = wA.alloc (.cells #[.int .i64 ta, .int .i64 ca, .int .i64 tb, .int .i64 cb, .int .i64 (c : Int), .int .i64 (o1 : Int), .int .i64 (o2 : Int), .int .i64 ma, .int .i64 mb, .int .i64 la, .int .i64 lb] 44) := ⟨_, rfl⟩
     rw [← hW0] at hrb0 hs0
     have HW0 := hid (HWR.out.trans (hs0.mono hwA))
     go_upto_region 15 with fail
     rw [← hW0]
     clear hW0 k0 k1 k2' k3 k4 k5 k6 k7 k8 k9 k10
     generalize wA.heap.size = rb at *
     have HRB := hid (fun W (hW : Below W0.heap.size W0 W) => hrb0.below hW hrb0.lt)
     have hrbz := hrb0.lt
     clear hrb0 hs0
     have HG := hid (fun W (hW : Below W0.heap.size W0 W) => (by
      have h1 := HRB.out W hW
      have h2 := HB7.out.below (HW0.out.trans (hW.mono HW0.out.size)) HB7.out.lt
      exact ⟨h1.cell 0 rfl, h1.cell 1 rfl, h1.cell 2 rfl, h1.cell 3 rfl, h1.cell 4 rfl, h1.cell 5 rfl, h1.cell 6 rfl, h1.cell 7 rfl, h1.cell 8 rfl, h1.cell 9 rfl, h1.cell 10 rfl, h2.cell 0 rfl, h2.cell 1 rfl, h2.cell 2 rfl, h2.cell 3 rfl⟩ : W.cell? ⟨rb, 0, none⟩ = some (.int .i64 ta) ∧ W.cell? ⟨rb, 1, none⟩ = some (.int .i64 ca) ∧ W.cell? ⟨rb, 2, none⟩ = some (.int .i64 tb) ∧ W.cell? ⟨rb, 3, none⟩ = some (.int .i64 cb) ∧ W.cell? ⟨rb, 4, none⟩ = some (.int .i64 (c : Int)) ∧ W.cell? ⟨rb, 5, none⟩ = some (.int .i64 (o1 : Int)) ∧ W.cell? ⟨rb, 6, none⟩ = some (.int .i64 (o2 : Int)) ∧ W.cell? ⟨rb, 7, none⟩ = some (.int .i64 ma) ∧ W.cell? ⟨rb, 8, none⟩ = some (.int .i64 mb) ∧ W.cell? ⟨rb, 9, none⟩ = some (.int .i64 la) ∧ W.cell? ⟨rb, 10, none⟩ = some (.int .i64 lb) ∧ W.cell? ⟨bb, 0, none⟩ = some (.bool false) ∧ W.cell? ⟨bb, 1, none⟩ = some (.slice a2 l2 c2) ∧ W.cell? ⟨bb, 2, none⟩ = some (.bool false) ∧ W.cell? ⟨bb, 3, none⟩ = some (.slice b2 k2 d2)))
     go_cut [17] from 64 to 79 (fun s17 wx => s17 = .bool (Fr.enR c o1 o2 p2 q2) ∧ Hid (Below W0.heap.size W0 wx))
     case first =>
      have HC1 := hid (fun W => Fr.ref_Contained ta ca tb cb c o1 (o2 : Int) ma mb la lb W hc0 hcl1)
      have HC2 := hid (fun W => Fr.ref_Contained tb cb ta ca c o2 (o1 : Int) mb ma lb la W hc0 hcl2)
      have HTU := hid (fun W => ref_Turn ⟨ta, ca, tb, cb, (c : Int), (o1 : Int), (o2 : Int), ma, mb, la, lb⟩ W)
      have HSA := hid (Fr.sml_of (c := c) (d := c + o1) (by omega) (by omega) hcl1)
      have HSB := hid (Fr.sml_of (c := c) (d := c + o2) (by omega) (by omega) hcl2)
      have HT1 := hid (@share_lt c (c + o1) p2 q2 (by omega))
      have HT2 := hid (@share_lt c (c + o2) p2 q2 (by omega))
      have HM1 := hid (fun W u (hW : Below W0.heap.size W0 W) hu => HLE2.out W u _ _ (HW0.out.trans (hW.mono HW0.out.size)) hu HSA.out)
      have HM2 := hid (fun W u (hW : Below W0.heap.size W0 W) hu => HLE2.out W u _ _ (HW0.out.trans (hW.mono HW0.out.size)) hu HSB.out)
      rw [HT1.out] at HM1
      rw [HT2.out] at HM2
      have HENR : Hid (Fr.enR c o1 o2 p2 q2 = (decide (p2 * (c + o1) ≤ c * q2) || decide (p2 * (c + o2) ≤ c * q2))) := hid (by unfold Fr.enR; rw [show decide (0 < c) = true from decide_eq_true hc0, Bool.true_and])
      generalize c / Nat.gcd c (c + o1) = x1 at *
      generalize (c + o1) / Nat.gcd c (c + o1) = y1 at *
      generalize c / Nat.gcd c (c + o2) = x2 at *
      generalize (c + o2) / Nat.gcd c (c + o2) = y2 at *
      generalize p2 * (c + o1) = P1 at *
      generalize p2 * (c + o2) = P2 at *
      generalize c * q2 = QQ at *
      simp only [Rl.val, Rl.cs, Rl.turn] at HC1 HC2 HTU
      have HD := hid (show Below W0.heap.size W0 W0.drew from (Below.refl W0.heap.size W0).drew)
      by_cases hpq : P1 ≤ QQ
      ·have hgd1 : decide (P1 ≤ QQ) = true := decide_eq_true hpq
       rw [hgd1] at HM1
       rw [hgd1, Bool.true_or] at HENR
       refine wp_region_held_drew (S := fun W => W.cell? ⟨rb, 0, none⟩ = some (.int .i64 ta) ∧ W.cell? ⟨rb, 1, none⟩ = some (.int .i64 ca) ∧ W.cell? ⟨rb, 2, none⟩ = some (.int .i64 tb) ∧ W.cell? ⟨rb, 3, none⟩ = some (.int .i64 cb) ∧ W.cell? ⟨rb, 4, none⟩ = some (.int .i64 (c : Int)) ∧ W.cell? ⟨rb, 5, none⟩ = some (.int .i64 (o1 : Int)) ∧ W.cell? ⟨rb, 6, none⟩ = some (.int .i64 (o2 : Int)) ∧ W.cell? ⟨rb, 7, none⟩ = some (.int .i64 ma) ∧ W.cell? ⟨rb, 8, none⟩ = some (.int .i64 mb) ∧ W.cell? ⟨rb, 9, none⟩ = some (.int .i64 la) ∧ W.cell? ⟨rb, 10, none⟩ = some (.int .i64 lb) ∧ W.cell? ⟨bb, 0, none⟩ = some (.bool false) ∧ W.cell? ⟨bb, 1, none⟩ = some (.slice a2 l2 c2) ∧ W.cell? ⟨bb, 2, none⟩ = some (.bool false) ∧ W.cell? ⟨bb, 3, none⟩ = some (.slice b2 k2 d2)) (by kernel_rfl) (HG.out _ HD.out) (fun hHeld => ?_)
       refine wpAnyH_take (i := 0) (v := ?_) (by simp only [List.getElem?_toArray, List.getElem?_cons_zero, List.getElem?_cons_succ]; rfl) (by kernel_rfl) (by kernel_rfl) (by kernel_rfl) (by intro _ _ _ h; exact h) (Or.inl ⟨by rfl, ?_⟩) (by assumption) ?_
       rotate_left
       ·(intro w' hSw; (try dsimp only at hSw); go_simp) <;> with_reducible rfl
       try simp only [Act.put, List.setIfInBounds_toArray, List.set_cons_zero, List.set_cons_succ]
       refine wpAnyH_take (i := 2) (v := ?_) (by simp only [List.getElem?_toArray, List.getElem?_cons_zero, List.getElem?_cons_succ]; rfl) (by kernel_rfl) (by kernel_rfl) (by kernel_rfl) (by intro _ _ _ h; exact h) (Or.inl ⟨by rfl, ?_⟩) (by assumption) ?_
       rotate_left
       ·(intro w' hSw; (try dsimp only at hSw); go_simp) <;> with_reducible rfl
       try simp only [Act.put, List.setIfInBounds_toArray, List.set_cons_zero, List.set_cons_succ]
       refine wpAnyH_ready (rs := [1]) (by kernel_rfl) (by simp) ?_
       refine AllReadyH.cons (by simp only [List.getElem?_toArray, List.getElem?_cons_zero, List.getElem?_cons_succ]; rfl) (fun K hK => ?_) AllReadyH.nil
       go_simp
       go_at_call 16
       go_must ((with_reducible refine (HC1.out _).mono ?_); rintro e w5 ⟨a5, c5, b5, d5, rfl, hN, hb5⟩; have HD5 := hid (Fr.belowT HD.out hb5); have HN5 := hid (hN.rd false); clear hN hb5)
       (try go_wp2_with fail)
       refine hK.out _ _ (HG.out _ HD5.out) (fun hHeld => ?_)
       clear hK K
       try simp only [Act.put, List.setIfInBounds_toArray, List.set_cons_zero, List.set_cons_succ]
       refine wpAnyH_ready (rs := [3]) (by kernel_rfl) (by simp) ?_
       refine AllReadyH.cons (by simp only [List.getElem?_toArray, List.getElem?_cons_zero, List.getElem?_cons_succ]; rfl) (fun K hK => ?_) AllReadyH.nil
       go_simp
       go_at_call 14
       go_must ((with_reducible refine (HM1.out _ _ HD5.out HN5.out).mono ?_); rintro e w6 ⟨rfl, hb6⟩; have HD6 := hid (Fr.belowT HD5.out hb6); clear hb6)
       (try go_wp2_with fail)
       refine hK.out _ _ (HG.out _ HD6.out) (fun hHeld => ?_)
       clear hK K
       try simp only [Act.put, List.setIfInBounds_toArray, List.set_cons_zero, List.set_cons_succ]
       refine wpAnyH_take (i := 4) (v := ?_) (by simp only [List.getElem?_toArray, List.getElem?_cons_zero, List.getElem?_cons_succ]; rfl) (by kernel_rfl) (by kernel_rfl) (by kernel_rfl) (by intro _ _ _ h; exact h) (Or.inl ⟨by rfl, ?_⟩) (by assumption) ?_
       rotate_left
       ·(intro w' hSw; (try dsimp only at hSw); go_simp) <;> with_reducible rfl
       try simp only [Act.put, List.setIfInBounds_toArray, List.set_cons_zero, List.set_cons_succ]
       refine wpAnyH_take (i := 5) (v := ?_) (by simp only [List.getElem?_toArray, List.getElem?_cons_zero, List.getElem?_cons_succ]; rfl) (by kernel_rfl) (by kernel_rfl) (by kernel_rfl) (by intro _ _ _ h; exact h) (Or.inl ⟨by rfl, ?_⟩) (by assumption) ?_
       rotate_left
       ·(intro w' hSw; (try dsimp only at hSw); go_simp) <;> with_reducible rfl
       try simp only [Act.put, List.setIfInBounds_toArray, List.set_cons_zero, List.set_cons_succ]
       refine wpAnyH_take (i := 6) (v := undef) (by simp only [List.getElem?_toArray, List.getElem?_cons_zero, List.getElem?_cons_succ]; rfl) (by kernel_rfl) (by kernel_rfl) (by kernel_rfl) (by intro _ _ _ h; exact h) (Or.inr ⟨by rfl, rfl⟩) (by assumption) ?_
       try simp only [Act.put, List.setIfInBounds_toArray, List.set_cons_zero, List.set_cons_succ]
       refine wpAnyH_take (i := 7) (v := undef) (by simp only [List.getElem?_toArray, List.getElem?_cons_zero, List.getElem?_cons_succ]; rfl) (by kernel_rfl) (by kernel_rfl) (by kernel_rfl) (by intro _ _ _ h; exact h) (Or.inr ⟨by rfl, rfl⟩) (by assumption) ?_
       try simp only [Act.put, List.setIfInBounds_toArray, List.set_cons_zero, List.set_cons_succ]
       refine wpAnyH_take (i := 8) (v := undef) (by simp only [List.getElem?_toArray, List.getElem?_cons_zero, List.getElem?_cons_succ]; rfl) (by kernel_rfl) (by kernel_rfl) (by kernel_rfl) (by intro _ _ _ h; exact h) (Or.inr ⟨by rfl, rfl⟩) (by assumption) ?_
       try simp only [Act.put, List.setIfInBounds_toArray, List.set_cons_zero, List.set_cons_succ]
       refine wpAnyH_take (i := 9) (v := undef) (by simp only [List.getElem?_toArray, List.getElem?_cons_zero, List.getElem?_cons_succ]; rfl) (by kernel_rfl) (by kernel_rfl) (by kernel_rfl) (by intro _ _ _ h; exact h) (Or.inr ⟨by rfl, rfl⟩) (by assumption) ?_
       try simp only [Act.put, List.setIfInBounds_toArray, List.set_cons_zero, List.set_cons_succ]
       refine wpAnyH_take (i := 10) (v := undef) (by simp only [List.getElem?_toArray, List.getElem?_cons_zero, List.getElem?_cons_succ]; rfl) (by kernel_rfl) (by kernel_rfl) (by kernel_rfl) (by intro _ _ _ h; exact h) (Or.inr ⟨by rfl, rfl⟩) (by assumption) ?_
       try simp only [Act.put, List.setIfInBounds_toArray, List.set_cons_zero, List.set_cons_succ]
       refine wpAnyH_take (i := 11) (v := undef) (by simp only [List.getElem?_toArray, List.getElem?_cons_zero, List.getElem?_cons_succ]; rfl) (by kernel_rfl) (by kernel_rfl) (by kernel_rfl) (by intro _ _ _ h; exact h) (Or.inr ⟨by rfl, rfl⟩) (by assumption) ?_
       try simp only [Act.put, List.setIfInBounds_toArray, List.set_cons_zero, List.set_cons_succ]
       refine wpAnyH_take (i := 12) (v := ?_) (by simp only [List.getElem?_toArray, List.getElem?_cons_zero, List.getElem?_cons_succ]; rfl) (by kernel_rfl) (by kernel_rfl) (by kernel_rfl) (by intro _ _ _ h; exact h) (Or.inl ⟨by rfl, ?_⟩) (by assumption) ?_
       rotate_left
       ·(intro w' hSw; (try dsimp only at hSw); go_simp) <;> with_reducible rfl
       try simp only [Act.put, List.setIfInBounds_toArray, List.set_cons_zero, List.set_cons_succ]
       refine wpAnyH_take (i := 13) (v := ?_) (by simp only [List.getElem?_toArray, List.getElem?_cons_zero, List.getElem?_cons_succ]; rfl) (by kernel_rfl) (by kernel_rfl) (by kernel_rfl) (by intro _ _ _ h; exact h) (Or.inl ⟨by rfl, ?_⟩) (by assumption) ?_
       rotate_left
       ·(intro w' hSw; (try dsimp only at hSw); go_simp) <;> with_reducible rfl
       try simp only [Act.put, List.setIfInBounds_toArray, List.set_cons_zero, List.set_cons_succ]
       refine wpAnyH_done (by kernel_rfl) ?_ _
       go_wp2_with fail
       go_meet
       exact ⟨by rw [HENR.out], HD6⟩
      ·have hgd1 : decide (P1 ≤ QQ) = false := decide_eq_false hpq
       rw [hgd1] at HM1
       rw [hgd1, Bool.false_or] at HENR
       generalize decide (P2 ≤ QQ) = dd at *
       go_region_held3 (fun W => W.cell? ⟨rb, 0, none⟩ = some (.int .i64 ta) ∧ W.cell? ⟨rb, 1, none⟩ = some (.int .i64 ca) ∧ W.cell? ⟨rb, 2, none⟩ = some (.int .i64 tb) ∧ W.cell? ⟨rb, 3, none⟩ = some (.int .i64 cb) ∧ W.cell? ⟨rb, 4, none⟩ = some (.int .i64 (c : Int)) ∧ W.cell? ⟨rb, 5, none⟩ = some (.int .i64 (o1 : Int)) ∧ W.cell? ⟨rb, 6, none⟩ = some (.int .i64 (o2 : Int)) ∧ W.cell? ⟨rb, 7, none⟩ = some (.int .i64 ma) ∧ W.cell? ⟨rb, 8, none⟩ = some (.int .i64 mb) ∧ W.cell? ⟨rb, 9, none⟩ = some (.int .i64 la) ∧ W.cell? ⟨rb, 10, none⟩ = some (.int .i64 lb) ∧ W.cell? ⟨bb, 0, none⟩ = some (.bool false) ∧ W.cell? ⟨bb, 1, none⟩ = some (.slice a2 l2 c2) ∧ W.cell? ⟨bb, 2, none⟩ = some (.bool false) ∧ W.cell? ⟨bb, 3, none⟩ = some (.slice b2 k2 d2))
        (first | exact HG.out _ HD.out | exact HG.out _ HD5.out | exact HG.out _ HD6.out | exact HG.out _ HD7.out | exact HG.out _ HD8.out | exact HG.out _ HD9.out | go_keep)
        (first
         | (go_at_call 16; go_must (first
           | ((with_reducible refine (HC1.out _).mono ?_); rintro e w5 ⟨a5, c5, b5, d5, rfl, hN, hb5⟩; have HD5 := hid (Fr.belowT HD.out hb5); have HN5 := hid (hN.rd false); clear hN hb5)
           | ((with_reducible refine (HC2.out _).mono ?_); rintro e w8 ⟨a8, c8, b8, d8, rfl, hN, hb8⟩; have HD8 := hid (Fr.belowT HD7.out hb8); have HN8 := hid (hN.rd false); clear hN hb8)))
         | (go_at_call 17; go_must ((with_reducible refine (HTU.out _).mono ?_); rintro e w7' ⟨rfl, hb7⟩; have HD7 := hid (Fr.belowT HD6.out hb7); clear hb7))
         | (go_at_call 14; go_must (first
           | ((with_reducible refine (HM2.out _ _ HD8.out HN8.out).mono ?_); rintro e w9 ⟨rfl, hb9⟩; have HD9 := hid (Fr.belowT HD8.out hb9); clear hb9)
           | ((with_reducible refine (HM1.out _ _ HD5.out HN5.out).mono ?_); rintro e w6 ⟨rfl, hb6⟩; have HD6 := hid (Fr.belowT HD5.out hb6); clear hb6))))
       all_goals
        go_wp2_with fail
        go_meet
        exact ⟨by rw [HENR.out], HD9⟩
     case rest =>
      obtain ⟨rfl, HD⟩ := hcut
      obtain ⟨wE, rfl⟩ : ∃ W, W = wc := ⟨wc, rfl⟩
      have HWE := hid (HW0.out.trans (HD.out.mono HW0.out.size))
      have hr1 := HRB.out wE HD.out
      have r0 := hr1.cell 0 rfl
      have r1 := hr1.cell 1 rfl
      have r2 := hr1.cell 2 rfl
      have r3 := hr1.cell 3 rfl
      have r4 := hr1.cell 4 rfl
      have r5 := hr1.cell 5 rfl
      have r6 := hr1.cell 6 rfl
      have r7 := hr1.cell 7 rfl
      have r8 := hr1.cell 8 rfl
      have r9 := hr1.cell 9 rfl
      have r10 := hr1.cell 10 rfl
      rw [← HEN.out]
      by_cases hE : enL p2 q2 ⟨ta, ca, tb, cb, (c : Int), (o1 : Int), (o2 : Int), ma, mb, la, lb⟩ = true
      ·obtain ⟨hkY, hyk⟩ := HYE1.out hE
       obtain ⟨by', oy, cy, ey, hby, j0, j1, j2, j3, j4, j5, j6, j7, j8, j9, j10⟩ := rl_at (HYR.out wE HWE.out) (q := kq) (by rw [HYL.out]; exact hkY)
       rw [HYL.out] at ey
       obtain ⟨rfl, -, rfl⟩ := Value.slice.inj ey
       clear ey
       rw [hyk] at j0 j1 j2 j3 j4 j5 j6 j7 j8 j9 j10
       simp only at j0 j1 j2 j3 j4 j5 j6 j7 j8 j9 j10
       have hki : (kq : Int) < (Y : Int) := by omega
       have hs := HST1.out
       rw [hE, if_pos rfl] at hs
       have HS9 := hid hs
       rw [hE]
       clear hs hyk hE
       go_upto_region 16 with fail
       go_region_held3 (fun W => W.cell? ⟨by', oy + kq * 11, none⟩ = some (.int .i64 ta) ∧ W.cell? ⟨by', oy + kq * 11 + 1, none⟩ = some (.int .i64 ca) ∧ W.cell? ⟨by', oy + kq * 11 + 2, none⟩ = some (.int .i64 tb) ∧ W.cell? ⟨by', oy + kq * 11 + 3, none⟩ = some (.int .i64 cb) ∧ W.cell? ⟨by', oy + kq * 11 + 4, none⟩ = some (.int .i64 (c : Int)) ∧ W.cell? ⟨by', oy + kq * 11 + 5, none⟩ = some (.int .i64 (o1 : Int)) ∧ W.cell? ⟨by', oy + kq * 11 + 6, none⟩ = some (.int .i64 (o2 : Int)) ∧ W.cell? ⟨by', oy + kq * 11 + 7, none⟩ = some (.int .i64 ma) ∧ W.cell? ⟨by', oy + kq * 11 + 8, none⟩ = some (.int .i64 mb) ∧ W.cell? ⟨by', oy + kq * 11 + 9, none⟩ = some (.int .i64 la) ∧ W.cell? ⟨by', oy + kq * 11 + 10, none⟩ = some (.int .i64 lb) ∧ W.cell? ⟨rb, 0, none⟩ = some (.int .i64 ta) ∧ W.cell? ⟨rb, 1, none⟩ = some (.int .i64 ca) ∧ W.cell? ⟨rb, 2, none⟩ = some (.int .i64 tb) ∧ W.cell? ⟨rb, 3, none⟩ = some (.int .i64 cb) ∧ W.cell? ⟨rb, 4, none⟩ = some (.int .i64 (c : Int)) ∧ W.cell? ⟨rb, 5, none⟩ = some (.int .i64 (o1 : Int)) ∧ W.cell? ⟨rb, 6, none⟩ = some (.int .i64 (o2 : Int)) ∧ W.cell? ⟨rb, 7, none⟩ = some (.int .i64 ma) ∧ W.cell? ⟨rb, 8, none⟩ = some (.int .i64 mb) ∧ W.cell? ⟨rb, 9, none⟩ = some (.int .i64 la) ∧ W.cell? ⟨rb, 10, none⟩ = some (.int .i64 lb)) (first | exact ⟨j0, j1, j2, j3, j4, j5, j6, j7, j8, j9, j10, r0, r1, r2, r3, r4, r5, r6, r7, r8, r9, r10⟩ | go_keep) (fail)
       all_goals
        go_wp2_with fail
        go_roundg (gA - 1)
        case rel => exact ⟨q + 1, by go_num, by omega, by rw [HS9.out]; go_num, hid (HWE.out.trans (Below.refl _ _).drew)⟩
        case measure => omega
      ·have hE' := Bool.eq_false_iff.2 hE
       have hs := HST1.out
       rw [hE', if_neg (by simp), Nat.add_zero] at hs
       have HS9 := hid hs
       by_cases hkY : kq < Y
       ·have hki : (kq : Int) < (Y : Int) := by omega
        have hP := HNO.out kq (by first | exact hkY | (rw [HYL.out]; exact hkY))
        obtain ⟨by', oy, cy, ey, hby, j0, j1, j2, j3, j4, j5, j6, j7, j8, j9, j10⟩ := rl_at (HYR.out wE HWE.out) (q := kq) (by rw [HYL.out]; exact hkY)
        rw [HYL.out] at ey
        obtain ⟨rfl, -, rfl⟩ := Value.slice.inj ey
        clear ey
        obtain ⟨⟨sta, sca, stb, scb, sco, soa, sob, sma, smb, sla, slb⟩, hr'⟩ : ∃ r', r' = ys.getD kq Rl.z := ⟨_, rfl⟩
        rw [← hr'] at j0 j1 j2 j3 j4 j5 j6 j7 j8 j9 j10 hP
        simp only at j0 j1 j2 j3 j4 j5 j6 j7 j8 j9 j10
        have hne := HNE1.out kq hkY (by rw [← hr']; intro e; rw [e] at hP; exact hE hP)
        rw [← hr'] at hne
        simp only at hne
        rw [hE']
        clear hs hE hE' hP hr'
        rcases hne with hne | hne | hne | hne
        all_goals
         go_upto_region 16 with fail
         go_region_held3 (fun W => W.cell? ⟨by', oy + kq * 11, none⟩ = some (.int .i64 sta) ∧ W.cell? ⟨by', oy + kq * 11 + 1, none⟩ = some (.int .i64 sca) ∧ W.cell? ⟨by', oy + kq * 11 + 2, none⟩ = some (.int .i64 stb) ∧ W.cell? ⟨by', oy + kq * 11 + 3, none⟩ = some (.int .i64 scb) ∧ W.cell? ⟨by', oy + kq * 11 + 4, none⟩ = some (.int .i64 sco) ∧ W.cell? ⟨by', oy + kq * 11 + 5, none⟩ = some (.int .i64 soa) ∧ W.cell? ⟨by', oy + kq * 11 + 6, none⟩ = some (.int .i64 sob) ∧ W.cell? ⟨by', oy + kq * 11 + 7, none⟩ = some (.int .i64 sma) ∧ W.cell? ⟨by', oy + kq * 11 + 8, none⟩ = some (.int .i64 smb) ∧ W.cell? ⟨by', oy + kq * 11 + 9, none⟩ = some (.int .i64 sla) ∧ W.cell? ⟨by', oy + kq * 11 + 10, none⟩ = some (.int .i64 slb) ∧ W.cell? ⟨rb, 0, none⟩ = some (.int .i64 ta) ∧ W.cell? ⟨rb, 1, none⟩ = some (.int .i64 ca) ∧ W.cell? ⟨rb, 2, none⟩ = some (.int .i64 tb) ∧ W.cell? ⟨rb, 3, none⟩ = some (.int .i64 cb) ∧ W.cell? ⟨rb, 4, none⟩ = some (.int .i64 (c : Int)) ∧ W.cell? ⟨rb, 5, none⟩ = some (.int .i64 (o1 : Int)) ∧ W.cell? ⟨rb, 6, none⟩ = some (.int .i64 (o2 : Int)) ∧ W.cell? ⟨rb, 7, none⟩ = some (.int .i64 ma) ∧ W.cell? ⟨rb, 8, none⟩ = some (.int .i64 mb) ∧ W.cell? ⟨rb, 9, none⟩ = some (.int .i64 la) ∧ W.cell? ⟨rb, 10, none⟩ = some (.int .i64 lb)) (first | exact ⟨j0, j1, j2, j3, j4, j5, j6, j7, j8, j9, j10, r0, r1, r2, r3, r4, r5, r6, r7, r8, r9, r10⟩ | go_keep) (fail)
         go_wp2_with fail
         go_roundg (gA - 1)
         case rel => exact ⟨q + 1, by go_num, by omega, by rw [HS9.out] <;> go_num, hid (HWE.out.trans (Below.refl _ _).drew)⟩
         case measure => omega
       ·have hki : ¬ (kq : Int) < (Y : Int) := by omega
        have hgd2 : decide ((kq : Int) < (Y : Int)) = false := decide_eq_false hki
        rw [hE']
        clear hs hE hE'
        go_upto_region 16 with fail
        refine wp_region_held_drew (S := fun W => W.cell? ⟨rb, 0, none⟩ = some (.int .i64 ta) ∧ W.cell? ⟨rb, 1, none⟩ = some (.int .i64 ca) ∧ W.cell? ⟨rb, 2, none⟩ = some (.int .i64 tb) ∧ W.cell? ⟨rb, 3, none⟩ = some (.int .i64 cb) ∧ W.cell? ⟨rb, 4, none⟩ = some (.int .i64 (c : Int)) ∧ W.cell? ⟨rb, 5, none⟩ = some (.int .i64 (o1 : Int)) ∧ W.cell? ⟨rb, 6, none⟩ = some (.int .i64 (o2 : Int)) ∧ W.cell? ⟨rb, 7, none⟩ = some (.int .i64 ma) ∧ W.cell? ⟨rb, 8, none⟩ = some (.int .i64 mb) ∧ W.cell? ⟨rb, 9, none⟩ = some (.int .i64 la) ∧ W.cell? ⟨rb, 10, none⟩ = some (.int .i64 lb)) (by kernel_rfl) (⟨r0, r1, r2, r3, r4, r5, r6, r7, r8, r9, r10⟩) (fun hHeld => ?_)
        refine wpAnyH_take (i := 0) (v := ?_) (by simp only [List.getElem?_toArray, List.getElem?_cons_zero, List.getElem?_cons_succ]; rfl) (by kernel_rfl) (by kernel_rfl) (by kernel_rfl) (by intro _ _ _ h; exact h) (Or.inl ⟨by rfl, ?_⟩) (by assumption) ?_
        rotate_left
        ·(intro w' hSw; (try dsimp only at hSw); go_simp) <;> with_reducible rfl
        try simp only [Act.put, List.setIfInBounds_toArray, List.set_cons_zero, List.set_cons_succ]
        refine wpAnyH_take (i := 1) (v := ?_) (by simp only [List.getElem?_toArray, List.getElem?_cons_zero, List.getElem?_cons_succ]; rfl) (by kernel_rfl) (by kernel_rfl) (by kernel_rfl) (by intro _ _ _ h; exact h) (Or.inl ⟨by rfl, ?_⟩) (by assumption) ?_
        rotate_left
        ·(intro w' hSw; (try dsimp only at hSw); go_simp) <;> with_reducible rfl
        try simp only [Act.put, List.setIfInBounds_toArray, List.set_cons_zero, List.set_cons_succ]
        refine wpAnyH_take (i := 2) (v := ?_) (by simp only [List.getElem?_toArray, List.getElem?_cons_zero, List.getElem?_cons_succ]; rfl) (by kernel_rfl) (by kernel_rfl) (by kernel_rfl) (by intro _ _ _ h; exact h) (Or.inl ⟨by rfl, ?_⟩) (by assumption) ?_
        rotate_left
        ·(intro w' hSw; (try dsimp only at hSw); go_simp) <;> with_reducible rfl
        try simp only [Act.put, List.setIfInBounds_toArray, List.set_cons_zero, List.set_cons_succ]
        refine wpAnyH_take (i := 3) (v := ?_) (by simp only [List.getElem?_toArray, List.getElem?_cons_zero, List.getElem?_cons_succ]; rfl) (by kernel_rfl) (by kernel_rfl) (by kernel_rfl) (by intro _ _ _ h; exact h) (Or.inl ⟨by rfl, ?_⟩) (by assumption) ?_
        rotate_left
        ·(intro w' hSw; (try dsimp only at hSw); go_simp) <;> with_reducible rfl
        try simp only [Act.put, List.setIfInBounds_toArray, List.set_cons_zero, List.set_cons_succ]
        refine wpAnyH_take (i := 4) (v := ?_) (by simp only [List.getElem?_toArray, List.getElem?_cons_zero, List.getElem?_cons_succ]; rfl) (by kernel_rfl) (by kernel_rfl) (by kernel_rfl) (by intro _ _ _ h; exact h) (Or.inl ⟨by rfl, ?_⟩) (by assumption) ?_
        rotate_left
        ·(intro w' hSw; (try dsimp only at hSw); go_simp) <;> with_reducible rfl
        try simp only [Act.put, List.setIfInBounds_toArray, List.set_cons_zero, List.set_cons_succ]
        refine wpAnyH_take (i := 5) (v := ?_) (by simp only [List.getElem?_toArray, List.getElem?_cons_zero, List.getElem?_cons_succ]; rfl) (by kernel_rfl) (by kernel_rfl) (by kernel_rfl) (by intro _ _ _ h; exact h) (Or.inl ⟨by rfl, ?_⟩) (by assumption) ?_
        rotate_left
        ·(intro w' hSw; (try dsimp only at hSw); go_simp) <;> with_reducible rfl
        try simp only [Act.put, List.setIfInBounds_toArray, List.set_cons_zero, List.set_cons_succ]
        refine wpAnyH_take (i := 6) (v := undef) (by simp only [List.getElem?_toArray, List.getElem?_cons_zero, List.getElem?_cons_succ]; rfl) (by kernel_rfl) (by kernel_rfl) (by kernel_rfl) (by intro _ _ _ h; exact h) (Or.inr ⟨by rfl, rfl⟩) (by assumption) ?_
        try simp only [Act.put, List.setIfInBounds_toArray, List.set_cons_zero, List.set_cons_succ]
        refine wpAnyH_take (i := 7) (v := undef) (by simp only [List.getElem?_toArray, List.getElem?_cons_zero, List.getElem?_cons_succ]; rfl) (by kernel_rfl) (by kernel_rfl) (by kernel_rfl) (by intro _ _ _ h; exact h) (Or.inr ⟨by rfl, rfl⟩) (by assumption) ?_
        try simp only [Act.put, List.setIfInBounds_toArray, List.set_cons_zero, List.set_cons_succ]
        refine wpAnyH_take (i := 8) (v := undef) (by simp only [List.getElem?_toArray, List.getElem?_cons_zero, List.getElem?_cons_succ]; rfl) (by kernel_rfl) (by kernel_rfl) (by kernel_rfl) (by intro _ _ _ h; exact h) (Or.inr ⟨by rfl, rfl⟩) (by assumption) ?_
        try simp only [Act.put, List.setIfInBounds_toArray, List.set_cons_zero, List.set_cons_succ]
        refine wpAnyH_take (i := 9) (v := undef) (by simp only [List.getElem?_toArray, List.getElem?_cons_zero, List.getElem?_cons_succ]; rfl) (by kernel_rfl) (by kernel_rfl) (by kernel_rfl) (by intro _ _ _ h; exact h) (Or.inr ⟨by rfl, rfl⟩) (by assumption) ?_
        try simp only [Act.put, List.setIfInBounds_toArray, List.set_cons_zero, List.set_cons_succ]
        refine wpAnyH_take (i := 10) (v := undef) (by simp only [List.getElem?_toArray, List.getElem?_cons_zero, List.getElem?_cons_succ]; rfl) (by kernel_rfl) (by kernel_rfl) (by kernel_rfl) (by intro _ _ _ h; exact h) (Or.inr ⟨by rfl, rfl⟩) (by assumption) ?_
        try simp only [Act.put, List.setIfInBounds_toArray, List.set_cons_zero, List.set_cons_succ]
        refine wpAnyH_take (i := 11) (v := undef) (by simp only [List.getElem?_toArray, List.getElem?_cons_zero, List.getElem?_cons_succ]; rfl) (by kernel_rfl) (by kernel_rfl) (by kernel_rfl) (by intro _ _ _ h; exact h) (Or.inr ⟨by rfl, rfl⟩) (by assumption) ?_
        try simp only [Act.put, List.setIfInBounds_toArray, List.set_cons_zero, List.set_cons_succ]
        refine wpAnyH_take (i := 12) (v := ?_) (by simp only [List.getElem?_toArray, List.getElem?_cons_zero, List.getElem?_cons_succ]; rfl) (by kernel_rfl) (by kernel_rfl) (by kernel_rfl) (by intro _ _ _ h; exact h) (Or.inl ⟨by rfl, ?_⟩) (by assumption) ?_
        rotate_left
        ·(intro w' hSw; (try dsimp only at hSw); go_simp) <;> with_reducible rfl
        try simp only [Act.put, List.setIfInBounds_toArray, List.set_cons_zero, List.set_cons_succ]
        refine wpAnyH_take (i := 13) (v := ?_) (by simp only [List.getElem?_toArray, List.getElem?_cons_zero, List.getElem?_cons_succ]; rfl) (by kernel_rfl) (by kernel_rfl) (by kernel_rfl) (by intro _ _ _ h; exact h) (Or.inl ⟨by rfl, ?_⟩) (by assumption) ?_
        rotate_left
        ·(intro w' hSw; (try dsimp only at hSw); go_simp) <;> with_reducible rfl
        try simp only [Act.put, List.setIfInBounds_toArray, List.set_cons_zero, List.set_cons_succ]
        refine wpAnyH_done (by kernel_rfl) ?_ _
        go_wp2_with fail
        go_roundg (gA - 1)
        case rel => exact ⟨q + 1, by go_num, by omega, by rw [HS9.out] <;> go_num, hid (HWE.out.trans (Below.refl _ _).drew)⟩
        case measure => omega
    ·obtain rfl : gA = 0 := by omega
     obtain rfl : q = X := by omega
     have hend : ((((xs.take q).filter (enL p2 q2)).length : Nat) : Int) = (Y : Int) := by rw [HEND.out]
     rw [hend]
     have hyy : ((Y : Int) == (Y : Int)) = true := by simp
     have HAZ := hid (HAW.out wA (HW07.out.trans (HWR.out.mono HW07.out.size)))
     have HWZ := hid (HW07.out.trans (HWR.out.mono HW07.out.size))
     go_wp2_with fail
     with_reducible refine HAZ.out.mono ?_
     rintro e w8 ⟨rfl, hb8⟩
     have HB8 := hid (HWZ.out.trans (hb8.mono HWZ.out.size))
     clear hb8
     go_wp2
     go_ret
     exact ⟨rfl, HB8.out⟩
 ·have HLI := hid (kit_Light a n c w hnm)
  rw [decide_eq_false hg] at HLI
  go_enter Tryz.func3, Tryz.ntmps3
  go_wp2_with fail
  with_reducible refine HLI.out.mono ?_
  rintro e w0 ⟨rfl, rfl⟩
  clear HLI
  go_wp2_with fail
  with_reducible refine (HAW.out w (Below.refl _ _)).mono ?_
  rintro e w1 ⟨rfl, hb1⟩
  have HB1 := hid hb1
  clear hb1
  go_wp2
  go_ret
  exact ⟨rfl, HB1.out⟩
end Go.Proofs.YtaajpliifdlokaaGreatDoor
