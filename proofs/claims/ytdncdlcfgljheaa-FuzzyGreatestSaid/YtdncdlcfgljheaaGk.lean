/- Contract of the sanity check of law21. -/
import Derived.Test.YtdncdlcfgljheaaGr
namespace Go.Proofs.Ytdncdlcfgljheaa
open Go.RowKit

abbrev bat : ByteArray := ⟨#[98, 97, 116]⟩
abbrev cat : ByteArray := ⟨#[99, 97, 116]⟩
abbrev rat : ByteArray := ⟨#[114, 97, 116]⟩
theorem pts_bat : pts bat = [98, 97, 116] := by decide +kernel
theorem pts_cat : pts cat = [99, 97, 116] := by decide +kernel
theorem pts_rat : pts rat = [114, 97, 116] := by decide +kernel
theorem rc_bat : Lib.runeCount bat = 3 := by decide +kernel
theorem rc_cat : Lib.runeCount cat = 3 := by decide +kernel
theorem rc_rat : Lib.runeCount rat = 3 := by decide +kernel
theorem lev3 (a b : Nat) : Lv.lev [a, 97, 116] [b, 97, 116] ≤ 1 := by
  unfold Lv.lev
  show Lv.dist _ _ (2 + 1) (2 + 1) ≤ 1
  have h1 : Lv.dist [a, 97, 116] [b, 97, 116] (0 + 1) (0 + 1) ≤ 1 := by rw [Lv.dist_succ, Lv.dist_zero]; split <;> omega
  have h2 : Lv.dist [a, 97, 116] [b, 97, 116] (1 + 1) (1 + 1) ≤ 1 := by
    rw [Lv.dist_succ, if_pos (by simp)]
    have : Lv.dist [a, 97, 116] [b, 97, 116] 1 1 ≤ 1 := h1
    omega
  rw [Lv.dist_succ, if_pos (by simp)]
  have : Lv.dist [a, 97, 116] [b, 97, 116] 2 2 ≤ 1 := h2
  omega
theorem near3 {s t : ByteArray} {a b : Nat} (h1 : pts s = [a, 97, 116]) (h2 : pts t = [b, 97, 116]) (h3 : Lib.runeCount s = 3) (h4 : Lib.runeCount t = 3) : nearB true 1 (simE 1) s t = true := by
  unfold nearB simE
  rw [h3, h4, Lv.within_lev, h1, h2]
  have := lev3 a b
  simp [this]
theorem nearS_sane (i j : Nat) (hi : i < 2) (hj : j < 2) : nearS true 1 (simE 1) [bat, cat] [bat, rat] i j = true := by
  unfold nearS
  obtain rfl | rfl : i = 0 ∨ i = 1 := by omega
  · obtain rfl | rfl : j = 0 ∨ j = 1 := by omega
    · exact near3 pts_bat pts_bat rc_bat rc_bat
    · exact near3 pts_bat pts_rat rc_bat rc_rat
  · obtain rfl | rfl : j = 0 ∨ j = 1 := by omega
    · exact near3 pts_cat pts_bat rc_cat rc_bat
    · exact near3 pts_cat pts_rat rc_cat rc_rat
theorem nearE_sane (i : Nat) (hi : i < 2) : Mt.nearE (nearS true 1 (simE 1) [bat, cat] [bat, rat]) 2 i = [0, 1] := by
  unfold Mt.nearE
  rw [List.filter_eq_self.2 (fun j hj => nearS_sane i j hi (List.mem_range.1 hj))]
  rfl
theorem covered_sane : Mt.coveredP (nearS true 1 (simE 1) [bat, cat] [bat, rat]) 2 2 = 2 := by
  unfold Mt.coveredP
  rw [List.filter_eq_self.2 (fun i hi => by rw [nearE_sane i (List.mem_range.1 hi)]; rfl)]
  rfl
theorem matches_sane : (Mt.matchesP (nearS true 1 (simE 1) [bat, cat] [bat, rat]) 2 2).length = 4 := by
  unfold Mt.matchesP
  show ([0, 1].flatMap _).length = 4
  simp [nearE_sane 0 (by omega), nearE_sane 1 (by omega)]
theorem found_sane {ps : List (Nat × Nat)} (h : Mt.Found (nearS true 1 (simE 1) [bat, cat] [bat, rat]) 2 2 ps) : ps = [(0, 0), (1, 1)] := by
  have hE0 := nearE_sane 0 (by omega)
  have hE1 := nearE_sane 1 (by omega)
  have hl : ps.length = 2 := by
    refine h.best.same ⟨⟨[(0, 0), (1, 1)], ⟨by simp, by simp, fun p hp => ?_⟩, rfl⟩, fun M hM => Mt.rows_le hM⟩
    simp at hp
    rcases hp with rfl | rfl
    · exact ⟨by simp, by simp, by simp, by show 0 ∈ Mt.nearE _ 2 0; rw [hE0]; simp, rfl⟩
    · exact ⟨by simp, by simp, by simp, by show 1 ∈ Mt.nearE _ 2 1; rw [hE1]; simp, rfl⟩
  have hf := h.first
  rw [hl] at hf
  exact greedy22 ⟨hE0, hE1⟩ hf

/-- new texts read as a set -/
theorem sets_sane (w : World) (a b : Nat) (ha : a < w.heap.size) (hb : b < w.heap.size)
    (c0 : w.cell? ⟨a, 0, none⟩ = some (.string bat)) (c1 : w.cell? ⟨a, 1, none⟩ = some (.string cat)) (d0 : w.cell? ⟨b, 0, none⟩ = some (.string bat)) (d1 : w.cell? ⟨b, 1, none⟩ = some (.string rat)) :
    Sets w w.heap.size (.slice (some ⟨a, 0, none⟩) 2 2) (.slice (some ⟨b, 0, none⟩) 2 2) [bat, cat] [bat, rat] where
  q := ⟨_, _, rfl, Nat.le_refl _, by simp [maxLen], fun _ => ⟨a, 0, rfl, ha, fun i hi => by
    have hi' : i < 2 := hi
    obtain rfl | rfl : i = 0 ∨ i = 1 := by omega
    · exact c0
    · exact c1⟩⟩
  v := ⟨_, _, rfl, Nat.le_refl _, by simp [maxLen], fun _ => ⟨b, 0, rfl, hb, fun i hi => by
    have hi' : i < 2 := hi
    obtain rfl | rfl : i = 0 ∨ i = 1 := by omega
    · exact d0
    · exact d1⟩⟩
  low := Nat.le_refl _
  sq i := by
    rcases i with _ | _ | i
    · decide
    · decide
    · simp [List.getD]; exact Nat.zero_le _
  sv i := by
    rcases i with _ | _ | i
    · decide
    · decide
    · simp [List.getD]; exact Nat.zero_le _
  nq := by decide
  nv := by decide
  setq := by decide +kernel
  setv := by decide +kernel

set_option maxRecDepth 100000 in
set_option maxHeartbeats 4000000 in
theorem law_sane (w : World) : Calls Try.prog 5 #[] w (Ret w (.bool true)) := by
  have hR : Ruled 2 1 0 0 true 1 (simE 1) := ruledE 1 (by omega) (by omega)
  have HP := hid (fun W a b ha hb c0 c1 d0 d1 => fuzzy_Pairing 2 1 0 0 true 1 (simE 1) hR _ _ [bat, cat] [bat, rat] _ W (sets_sane W a b ha hb c0 c1 d0 d1))
  have HC := hid (fun W a b ha hb c0 c1 d0 d1 => fuzzy_Covered 2 1 0 0 true 1 (simE 1) hR _ _ [bat, cat] [bat, rat] _ W (sets_sane W a b ha hb c0 c1 d0 d1))
  have HM := hid (fun W a b ha hb c0 c1 d0 d1 => fuzzy_Matches 2 1 0 0 true 1 (simE 1) hR _ _ [bat, cat] [bat, rat] _ W (sets_sane W a b ha hb c0 c1 d0 d1))
  clear hR
  have he0 : ∀ w, (binOp .eql 33 (.agg #[.int .i64 0, .int .i64 0]) (.agg #[.int .i64 0, .int .i64 0])).run Try.prog w = .ok (.bool true) w := fun _ => by kernel_rfl
  have he1 : ∀ w, (binOp .eql 33 (.agg #[.int .i64 1, .int .i64 1]) (.agg #[.int .i64 1, .int .i64 1])).run Try.prog w = .ok (.bool true) w := fun _ => by kernel_rfl
  go_enter Try.func5, Try.ntmps5
  go_wp2_with fail
  with_reducible refine (HP.out _ (w.heap.size + 1) (w.heap.size + 1 + 1) (by simp) (by simp) (by go_cell) (by go_cell) (by go_cell) (by go_cell)).mono ?_
  rintro e w1 ⟨ps, hf, a, c, rfl, hown, hb1⟩
  have hps := found_sane hf
  subst hps
  obtain ⟨a', c', e1, _, _, hx⟩ := rdPr_of_own hown
  obtain ⟨rfl, _, rfl⟩ := Value.slice.inj e1
  obtain ⟨b, o, rfl, hbb, hcell⟩ := hx (by decide)
  have HC0 : Hid (w1.cell? ⟨b, o, none⟩ = some (.int .i64 0) ∧ w1.cell? ⟨b, o + 1, none⟩ = some (.int .i64 0)) := hid (hcell 0 (by decide))
  have HC1 : Hid (w1.cell? ⟨b, o + 2, none⟩ = some (.int .i64 1) ∧ w1.cell? ⟨b, o + 2 + 1, none⟩ = some (.int .i64 1)) := hid (hcell 1 (by decide))
  have q0 := cell_later hb1 (a := ⟨w.heap.size, 0, none⟩) (v := .int .i64 2) (by go_cell)
  have q1 := cell_later hb1 (a := ⟨w.heap.size, 1, none⟩) (v := .int .i64 1) (by go_cell)
  have q2 := cell_later hb1 (a := ⟨w.heap.size, 2, none⟩) (v := .int .i64 0) (by go_cell)
  have q3 := cell_later hb1 (a := ⟨w.heap.size, 3, none⟩) (v := .int .i64 0) (by go_cell)
  have hz1 := hb1.size
  simp at hz1
  have HB1 := hid (show Below w.heap.size w w1 by repeat' (first | (with_reducible exact Below.refl _ _) | (with_reducible assumption) | (with_reducible refine below_drewN ?_) | (with_reducible refine Below.alloc ?_ ?_ _) | (with_reducible refine Below.drew ?_) | (with_reducible refine Below.setCell ?_ ?_ _) | (with_reducible refine Below.trans ?_ (Below.mono (by with_reducible assumption) ?_)) | go_size))
  clear hf hown e1 hx hcell hb1
  go_wp2_with fail
  have hs1 : ∀ W, Below w1.heap.size w1 W → Below w.heap.size w W := fun W h => HB1.out.trans (h.mono HB1.out.size)
  have HS1 := hid hs1
  clear hs1
  with_reducible refine (HC.out _ w1.heap.size (w1.heap.size + 1) (by go_size) (by go_size) (by go_cell) (by go_cell) (by go_cell) (by go_cell)).mono ?_
  rintro e w2 ⟨rfl, hb2⟩
  have HB2 := hid (show Below w1.heap.size w1 w2 by repeat' (first | (with_reducible exact Below.refl _ _) | (with_reducible assumption) | (with_reducible refine below_drewN ?_) | (with_reducible refine Below.alloc ?_ ?_ _) | (with_reducible refine Below.drew ?_) | (with_reducible refine Below.setCell ?_ ?_ _) | (with_reducible refine Below.trans ?_ (Below.mono (by with_reducible assumption) ?_)) | go_size))
  have r0 := (HB2.out.cell (p := ⟨w.heap.size, 0, none⟩) (by show w.heap.size < w1.heap.size; omega)).trans q0
  have r1 := (HB2.out.cell (p := ⟨w.heap.size, 1, none⟩) (by show w.heap.size < w1.heap.size; omega)).trans q1
  have r2 := (HB2.out.cell (p := ⟨w.heap.size, 2, none⟩) (by show w.heap.size < w1.heap.size; omega)).trans q2
  have r3 := (HB2.out.cell (p := ⟨w.heap.size, 3, none⟩) (by show w.heap.size < w1.heap.size; omega)).trans q3
  have s0 := (HB2.out.cell (p := ⟨b, o, none⟩) hbb).trans HC0.out.1
  have s1 := (HB2.out.cell (p := ⟨b, o + 1, none⟩) hbb).trans HC0.out.2
  have s2 := (HB2.out.cell (p := ⟨b, o + 2, none⟩) hbb).trans HC1.out.1
  have s3 := (HB2.out.cell (p := ⟨b, o + 2 + 1, none⟩) hbb).trans HC1.out.2
  have hz2 := HB2.out.size
  clear hb2 q0 q1 q2 q3
  simp only [List.length_cons, List.length_nil] at *
  rw [show Mt.coveredP (nearS true 1 (simE 1) [bat, cat] [bat, rat]) (0 + 1 + 1) (0 + 1 + 1) = 2 from covered_sane]
  go_wp2_with fail
  have HMM := hid matches_sane
  with_reducible refine (HM.out _ w2.heap.size (w2.heap.size + 1) (by go_size) (by go_size) (by go_cell) (by go_cell) (by go_cell) (by go_cell)).mono ?_
  rintro e w3 ⟨a3, c3, rfl, _, hb3⟩
  have HB3 := hid (show Below w2.heap.size w2 w3 by repeat' (first | (with_reducible exact Below.refl _ _) | (with_reducible assumption) | (with_reducible refine below_drewN ?_) | (with_reducible refine Below.alloc ?_ ?_ _) | (with_reducible refine Below.drew ?_) | (with_reducible refine Below.setCell ?_ ?_ _) | (with_reducible refine Below.trans ?_ (Below.mono (by with_reducible assumption) ?_)) | go_size))
  have HF := hid (HB1.out.trans ((HB2.out.mono HB1.out.size).trans (HB3.out.mono (Nat.le_trans HB1.out.size HB2.out.size))))
  rw [show (Mt.matchesP (nearS true 1 (simE 1) [bat, cat] [bat, rat]) (0 + 1 + 1) (0 + 1 + 1)).length = 4 from HMM.out]
  go_wp2
  go_ret
  exact ⟨rfl, HF.out⟩

end Go.Proofs.Ytdncdlcfgljheaa
