/- Contract of explain.can at operations that can be done. -/
import Derived.Laws.EntriesVeiled
import Derived.Test.YtaajpliifdlokaaGreatDoorLnNrav
set_option linter.unusedVariables false
set_option linter.unusedSimpArgs false
namespace Go.Proofs.YtaajpliifdlokaaGreatDoor
open Go.RowKit
set_option maxHeartbeats 1000000 in
theorem expl_can1 (k : Int) (n tb : Nat) (va : Option Addr) (vc : Nat) (w : World) (h2 : w.cell? ⟨tb, 2, none⟩ = some (.slice va n vc)) :
    Calls Tryz.prog 240 #[.int .i64 k, .pointer (some ⟨tb, 0, none⟩)] w (Ret w (.bool (thereL n k))) := by
  have HT : Hid (thereL n k = (decide (0 ≤ k) && decide (k < n))) := hid rfl
  generalize thereL n k = R at *
  by_cases h0 : 0 ≤ k
  · by_cases h1 : k < n
    · have HR : Hid (R = true) := hid (by rw [HT.out]; simp [h0, h1])
      clear HT
      go_enter Tryz.func240, Tryz.ntmps240
      go_wp2
      go_ret
      exact ⟨ret_bool HR.out.symm, Below.refl _ _⟩
    · have HR : Hid (R = false) := hid (by rw [HT.out]; simp [h1])
      clear HT
      go_enter Tryz.func240, Tryz.ntmps240
      go_wp2
      go_ret
      exact ⟨ret_bool HR.out.symm, Below.refl _ _⟩
  · have HR : Hid (R = false) := hid (by rw [HT.out]; simp [h0])
    clear HT
    go_enter Tryz.func240, Tryz.ntmps240
    go_wp2
    go_ret
    exact ⟨ret_bool HR.out.symm, Below.refl _ _⟩
set_option maxHeartbeats 1000000 in
theorem expl_can2 (k : Int) (n tb fb : Nat) (va : Option Addr) (vc : Nat) (w : World) (h2 : w.cell? ⟨tb, 2, none⟩ = some (.slice va n vc)) (hf : w.cell? ⟨fb, 0, none⟩ = some (.func (.func 240) #[] #[.pointer (some ⟨tb, 0, none⟩)])) :
    Calls Tryz.prog 242 #[.int .i64 k, .pointer (some ⟨fb, 0, none⟩)] w (Ret w (.bool (!thereL n k))) := by
  have HC := hid (expl_can1 k n tb va vc w h2)
  generalize thereL n k = R at *
  go_enter Tryz.func242, Tryz.ntmps242
  go_wp2_with fail
  with_reducible refine HC.out.mono ?_
  rintro e w1 ⟨rfl, hb1⟩
  have HB1 := hid hb1
  clear hb1
  go_wp2
  go_ret
  exact ⟨rfl, HB1.out⟩
theorem can_facts {n : Nat} {o : Po} (h : canL n o = true) : ∃ (c : Bool) (tx mx : Nat) (f i : Nat), findI .i64 o.kind actM = some (some (i, actV c (tx : Int) (mx : Int) f)) ∧ o.text.size ≤ tx ∧ o.cols.length ≤ mx ∧ (∀ k ∈ o.cols, thereL n k = true) ∧ (if c = true then thereL n o.col = true else o.col = 0) ∧ tx ≤ 1024 ∧ mx ≤ 64 := by
  have h0 := h
  rcases can_kind h with hk | hk | hk | hk | hk <;> unfold canL at h
  · rw [if_pos hk] at h
    simp only [Bool.and_eq_true, decide_eq_true_eq] at h
    refine ⟨true, 1024, 0, 246, 0, by rw [hk]; rfl, h.2, by omega, fun k hkk => ?_, h.1.1, by omega, by omega⟩
    rw [List.eq_nil_of_length_eq_zero h.1.2] at hkk
    cases hkk
  · rw [if_neg (by omega), if_pos (by omega)] at h
    simp only [Bool.and_eq_true, decide_eq_true_eq] at h
    refine ⟨true, 0, 0, 246, 1, by rw [hk]; rfl, by omega, by omega, fun k hkk => ?_, h.1.1, by omega, by omega⟩
    rw [List.eq_nil_of_length_eq_zero h.1.2] at hkk
    cases hkk
  · obtain ⟨h1, h2⟩ := can_ks h0 hk
    rw [if_neg (by omega), if_neg (by omega), if_pos hk] at h
    simp only [Bool.and_eq_true, decide_eq_true_eq] at h
    exact ⟨false, 0, 64, 247, 2, by rw [hk]; rfl, by omega, h2, fun k hkk => List.all_eq_true.1 h1 k hkk, by rw [if_neg (by decide)]; exact h.2.1.1, by omega, by omega⟩
  · rw [if_neg (by omega), if_neg (by omega), if_neg (by omega)] at h
    simp only [Bool.and_eq_true, decide_eq_true_eq] at h
    refine ⟨false, 0, 0, 248, 3, by rw [hk]; rfl, by omega, by omega, fun k hkk => ?_, by rw [if_neg (by decide)]; exact h.1.1.2, by omega, by omega⟩
    rw [List.eq_nil_of_length_eq_zero h.2] at hkk
    cases hkk
  · rw [if_neg (by omega), if_pos (by omega)] at h
    simp only [Bool.and_eq_true, decide_eq_true_eq] at h
    refine ⟨true, 0, 0, 251, 4, by rw [hk]; rfl, by omega, by omega, fun k hkk => ?_, h.1.1, by omega, by omega⟩
    rw [List.eq_nil_of_length_eq_zero h.1.2] at hkk
    cases hkk
set_option maxRecDepth 100000 in
set_option maxHeartbeats 4000000 in
theorem expl_can (o : Po) (id : Int) (nm : ByteArray) (v u : Value) (xs : List Co) (B : Nat) (w : World) (hv : RdCo w (· < B) v xs) (hu : RdOp w B u o) (hB : B ≤ w.heap.size) (hcan : canL xs.length o = true) :
  Calls Tryz.prog 213 #[.agg #[.int .i64 id, .string nm, v], o.val u] w (Ret w (.bool true)) := by
 obtain ⟨c, tx, mx, f, i, hfi, htx, hmx, hall, hcol, htx2, hmx2⟩ := can_facts hcan
 obtain ⟨va, vc, rfl⟩ : ∃ a c, v = .slice a xs.length c := by
  obtain ⟨cv, ⟨a, c, e, -⟩, -⟩ := hv
  exact ⟨a, c, e⟩
 have HCF := hid (fun tb fb W (hW : Below w.heap.size w W) (h2 : W.cell? ⟨tb, 2, none⟩ = some (.slice va xs.length vc)) (hf : W.cell? ⟨fb, 0, none⟩ = some (.func (.func 240) #[] #[.pointer (some ⟨tb, 0, none⟩)])) (htb : tb < W.heap.size) (hfb : fb < W.heap.size) =>
  has_can u o.cols.length (fun q => o.cols.getD q 0) (fun _ => false) fb B W (by
   have h1 := inK_of_rd (hu.below hW hB)
   exact h1.congr fun _ _ _ _ => rfl) (Nat.le_trans hB hW.size) (fun q hq W' hW' => by
   have h := expl_can2 (o.cols.getD q 0) xs.length tb fb va vc W' ((hW'.cell (p := ⟨tb, 2, none⟩) htb).trans h2) ((hW'.cell (p := ⟨fb, 0, none⟩) hfb).trans hf)
   rw [hall _ (getD_mem hq 0)] at h
   exact h))
 rw [show (List.range o.cols.length).any (fun _ => false) = false from List.any_eq_false.2 (fun _ _ => by simp)] at HCF
 have HC1 := hid (fun k tb W (h2 : W.cell? ⟨tb, 2, none⟩ = some (.slice va xs.length vc)) => expl_can1 k xs.length tb va vc W h2)
 obtain ⟨ua, uc, rfl, -, -, -⟩ := hu
 have HFI := hid hfi
 have HCOL := hid hcol
 clear hv hcan hall hcol hfi
 obtain ⟨kind, col, text, cols⟩ := o
 simp only [Po.val] at *
 generalize xs.length = L at *
 generalize cols.length = m at *
 have HX0 := hid (((BoxN.new w #[.int .i64 id, .string nm, .slice va L vc] 51).alloc (.cells #[.int .i64 kind, .int .i64 col, .string text, .slice ua m uc] 122)).alloc (.cells #[.func (.func 240) #[] #[.pointer (some ⟨w.heap.size, 0, none⟩)]] 149))
 have ho0 := (BoxN.new (w.alloc (.cells #[.int .i64 id, .string nm, .slice va L vc] 51)) #[.int .i64 kind, .int .i64 col, .string text, .slice ua m uc] 122).alloc (.cells #[.func (.func 240) #[] #[.pointer (some ⟨w.heap.size, 0, none⟩)]] 149)
 rw [World.size_alloc] at ho0
 have HO0 := hid ho0
 have HB0 := hid ((((Below.refl w.heap.size w).alloc (Nat.le_refl _) (.cells #[.int .i64 id, .string nm, .slice va L vc] 51)).alloc (by simp) (.cells #[.int .i64 kind, .int .i64 col, .string text, .slice ua m uc] 122)).alloc (by simp; omega) (.cells #[.func (.func 240) #[] #[.pointer (some ⟨w.heap.size, 0, none⟩)]] 149))
 have hy0 := BoxN.new ((w.alloc (.cells #[.int .i64 id, .string nm, .slice va L vc] 51)).alloc (.cells #[.int .i64 kind, .int .i64 col, .string text, .slice ua m uc] 122)) #[.func (.func 240) #[] #[.pointer (some ⟨w.heap.size, 0, none⟩)]] 149
 rw [World.size_alloc, World.size_alloc] at hy0
 have HY0 := hid hy0
 have hz0' : (((w.alloc (.cells #[.int .i64 id, .string nm, .slice va L vc] 51)).alloc (.cells #[.int .i64 kind, .int .i64 col, .string text, .slice ua m uc] 122)).alloc (.cells #[.func (.func 240) #[] #[.pointer (some ⟨w.heap.size, 0, none⟩)]] 149)).heap.size = w.heap.size + 3 := by simp
 clear hy0 ho0
 go_enter Tryz.func213, Tryz.ntmps213
 go_upto_region 2 with fail
 generalize ((w.alloc (.cells #[.int .i64 id, .string nm, .slice va L vc] 51)).alloc (.cells #[.int .i64 kind, .int .i64 col, .string text, .slice ua m uc] 122)).alloc (.cells #[.func (.func 240) #[] #[.pointer (some ⟨w.heap.size, 0, none⟩)]] 149) = W0 at *
 have hz0a := Nat.le_of_eq hz0'
 have hz0b := Nat.le_of_eq hz0'.symm
 clear hz0'
 have HG := hid (fun W (hW : Below W0.heap.size W0 W) => ((HO0.out.below hW HO0.out.lt).cell 0 rfl : W.cell? ⟨w.heap.size + 1, 0, none⟩ = some (.int .i64 kind)))
 have HDR : Hid (Below W0.heap.size W0 W0.drew) := hid (Below.refl W0.heap.size W0).drew
 have HDA : Hid (Below W0.heap.size W0 (W0.drew.alloc (.cells #[.bool false, .int .i64 0, .int .i64 0, .nilFunc] 237))) := hid (HDR.out.alloc (Nat.le_refl _) _)
 have o00 := HG.out W0 (Below.refl _ _)
 unfold actV at HFI
 go_region_held3 (fun w' => w'.cell? ⟨w.heap.size + 1, 0, none⟩ = some (.int .i64 kind))
  (first | exact HG.out _ (Below.refl _ _) | exact HG.out _ HDR.out | exact HG.out _ HDA.out | exact HG.out _ HC5.out | exact HG.out _ (HC5.out.alloc HC5.out.size _) | ((repeat rw [World.cell?_setCell_other _ _ _ _ (by intro e; injection e with e; omega)]); exact HG.out _ HC5.out) | ((repeat rw [World.cell?_setCell_other _ _ _ _ (by intro e; injection e with e; omega)]); exact HG.out _ (HC5.out.alloc HC5.out.size _)) | go_keep)
  ((go_at_call 220; go_must ((with_reducible refine (expl_actions _).mono ?_); rintro e w5 ⟨b5, rfl, hbb5, hm5, hb5⟩; have HC5 : Hid (Below W0.heap.size W0 w5) := hid (by first | exact HDR.out.trans (hb5.mono HDR.out.size) | exact HDA.out.trans (hb5.mono HDA.out.size)); (have hlk : (Instr.lookup 238 (.map (some b5)) (.int .i64 kind) true).run Tryz.prog w5 = .ok (.tuple #[.agg #[.bool c, .int .i64 (tx : Int), .int .i64 (mx : Int), .func (.func f) #[] #[]], .bool true]) w5 := known_look true Tryz.underlying238 Tryz.underlying3 hm5 HFI.out); (have hlk2 : (Instr.lookup 238 (.map (some b5)) (.int .i64 kind) true).run Tryz.prog (w5.alloc (.cells #[.bool false, .int .i64 0, .int .i64 0, .nilFunc] 237)) = .ok (.tuple #[.agg #[.bool c, .int .i64 (tx : Int), .int .i64 (mx : Int), .func (.func f) #[] #[]], .bool true]) (w5.alloc (.cells #[.bool false, .int .i64 0, .int .i64 0, .nilFunc] 237)) := known_look true Tryz.underlying238 Tryz.underlying3 ((Below.heap_alloc w5 _ b5 (Array.getElem?_eq_some_iff.1 hm5).1).trans hm5) HFI.out); have hz5 := HC5.out.size; (try (have zb : BoxN w5 W0.heap.size 237 #[.bool false, .int .i64 0, .int .i64 0, .nilFunc] := (BoxN.new W0.drew #[.bool false, .int .i64 0, .int .i64 0, .nilFunc] 237).below hb5 (BoxN.new W0.drew #[.bool false, .int .i64 0, .int .i64 0, .nilFunc] 237).lt; have HZB := hid zb; have z0 := zb.cell 0 rfl; have z1 := zb.cell 1 rfl; have z2 := zb.cell 2 rfl; have z3 := zb.cell 3 rfl; have zf0 := zb.frozen 0; have zf1 := zb.frozen 1; have zf2 := zb.frozen 2; have zf3 := zb.frozen 3; clear zb)); (have zn := BoxN.new w5 #[.bool false, .int .i64 0, .int .i64 0, .nilFunc] 237; have n0 := zn.cell 0 rfl; have n1 := zn.cell 1 rfl; have n2 := zn.cell 2 rfl; have n3 := zn.cell 3 rfl; have nf0 := zn.frozen 0; have nf1 := zn.frozen 1; have nf2 := zn.frozen 2; have nf3 := zn.frozen 3; clear zn); clear hb5 hm5)))
 ·have HAF := hid (BoxN.new w5 #[.bool c, .int .i64 (tx : Int), .int .i64 (mx : Int), .func (.func f) #[] #[]] 237)
  have HBF := hid (HC5.out.alloc HC5.out.size (.cells #[.bool c, .int .i64 (tx : Int), .int .i64 (mx : Int), .func (.func f) #[] #[]] 237))
  have HXF := hid ((HX0.out.below HC5.out HX0.out.lt).alloc (.cells #[.bool c, .int .i64 (tx : Int), .int .i64 (mx : Int), .func (.func f) #[] #[]] 237))
  have HOF := hid ((HO0.out.below HC5.out HO0.out.lt).alloc (.cells #[.bool c, .int .i64 (tx : Int), .int .i64 (mx : Int), .func (.func f) #[] #[]] 237))
  have HYF := hid ((HY0.out.below HC5.out HY0.out.lt).alloc (.cells #[.bool c, .int .i64 (tx : Int), .int .i64 (mx : Int), .func (.func f) #[] #[]] 237))
  clear HG o00
  have hAz : w5.heap.size < (w5.alloc (.cells #[.bool c, .int .i64 (tx : Int), .int .i64 (mx : Int), .func (.func f) #[] #[]] 237)).heap.size := HAF.out.lt
  clear n0 n1 n2 n3 nf0 nf1 nf2 nf3 hlk hlk2
  generalize w5.alloc (.cells #[.bool c, .int .i64 (tx : Int), .int .i64 (mx : Int), .func (.func f) #[] #[]] 237) = WF at *
  have a0 := HAF.out.cell 0 rfl
  have a1 := HAF.out.cell 1 rfl
  have a2 := HAF.out.cell 2 rfl
  have p0 := HOF.out.cell 0 rfl
  have p1 := HOF.out.cell 1 rfl
  have p2 := HOF.out.cell 2 rfl
  have p3 := HOF.out.cell 3 rfl
  go_wp2_with fail
  have HB1 := hid (HB0.out.trans (HBF.out.mono (by omega)))
  with_reducible refine (HCF.out w.heap.size (w.heap.size + 2) WF HB1.out (HXF.out.cell 2 rfl) (HYF.out.cell 0 rfl) HXF.out.lt HYF.out.lt).mono ?_
  rintro e w6 ⟨rfl, hb6⟩
  have HB6 := hid (HB1.out.trans (hb6.mono HB1.out.size))
  have HX6 := hid (HXF.out.below hb6 HXF.out.lt)
  have HO6 := hid (HOF.out.below hb6 HOF.out.lt)
  have HY6 := hid (HYF.out.below hb6 HYF.out.lt)
  have HA6 := hid (HAF.out.below hb6 HAF.out.lt)
  clear a0 a1 a2 p0 p1 p2 p3 hb6
  have a0 := HA6.out.cell 0 rfl
  have p1 := HO6.out.cell 1 rfl
  have f0 := HY6.out.cell 0 rfl
  cases c with
  | true =>
   have HC := hid (HC1.out col w.heap.size w6 (HX6.out.cell 2 rfl))
   rw [show thereL L col = true from HCOL.out] at HC
   go_wp2_with fail
   with_reducible refine HC.out.mono ?_
   rintro e w7 ⟨rfl, hb7⟩
   have HB7 := hid (HB6.out.trans (hb7.mono HB6.out.size))
   clear hb7
   go_wp2
   go_ret
   exact ⟨rfl, HB7.out⟩
  | false =>
   have hc0 : col = 0 := HCOL.out
   subst hc0
   go_wp2
   go_ret
   exact ⟨rfl, HB6.out⟩
 ·have HAF := hid (BoxN.new w5 #[.bool c, .int .i64 (tx : Int), .int .i64 (mx : Int), .func (.func f) #[] #[]] 237)
  have HBF := hid (HC5.out.alloc HC5.out.size (.cells #[.bool c, .int .i64 (tx : Int), .int .i64 (mx : Int), .func (.func f) #[] #[]] 237))
  have HXF := hid ((HX0.out.below HC5.out HX0.out.lt).alloc (.cells #[.bool c, .int .i64 (tx : Int), .int .i64 (mx : Int), .func (.func f) #[] #[]] 237))
  have HOF := hid ((HO0.out.below HC5.out HO0.out.lt).alloc (.cells #[.bool c, .int .i64 (tx : Int), .int .i64 (mx : Int), .func (.func f) #[] #[]] 237))
  have HYF := hid ((HY0.out.below HC5.out HY0.out.lt).alloc (.cells #[.bool c, .int .i64 (tx : Int), .int .i64 (mx : Int), .func (.func f) #[] #[]] 237))
  clear HG o00
  have hAz : w5.heap.size < (w5.alloc (.cells #[.bool c, .int .i64 (tx : Int), .int .i64 (mx : Int), .func (.func f) #[] #[]] 237)).heap.size := HAF.out.lt
  clear n0 n1 n2 n3 nf0 nf1 nf2 nf3 hlk hlk2
  generalize w5.alloc (.cells #[.bool c, .int .i64 (tx : Int), .int .i64 (mx : Int), .func (.func f) #[] #[]] 237) = WF at *
  have a0 := HAF.out.cell 0 rfl
  have a1 := HAF.out.cell 1 rfl
  have a2 := HAF.out.cell 2 rfl
  have p0 := HOF.out.cell 0 rfl
  have p1 := HOF.out.cell 1 rfl
  have p2 := HOF.out.cell 2 rfl
  have p3 := HOF.out.cell 3 rfl
  go_wp2_with fail
  have HB1 := hid (HB0.out.trans (HBF.out.mono (by omega)))
  with_reducible refine (HCF.out w.heap.size (w.heap.size + 2) WF HB1.out (HXF.out.cell 2 rfl) (HYF.out.cell 0 rfl) HXF.out.lt HYF.out.lt).mono ?_
  rintro e w6 ⟨rfl, hb6⟩
  have HB6 := hid (HB1.out.trans (hb6.mono HB1.out.size))
  have HX6 := hid (HXF.out.below hb6 HXF.out.lt)
  have HO6 := hid (HOF.out.below hb6 HOF.out.lt)
  have HY6 := hid (HYF.out.below hb6 HYF.out.lt)
  have HA6 := hid (HAF.out.below hb6 HAF.out.lt)
  clear a0 a1 a2 p0 p1 p2 p3 hb6
  have a0 := HA6.out.cell 0 rfl
  have p1 := HO6.out.cell 1 rfl
  have f0 := HY6.out.cell 0 rfl
  cases c with
  | true =>
   have HC := hid (HC1.out col w.heap.size w6 (HX6.out.cell 2 rfl))
   rw [show thereL L col = true from HCOL.out] at HC
   go_wp2_with fail
   with_reducible refine HC.out.mono ?_
   rintro e w7 ⟨rfl, hb7⟩
   have HB7 := hid (HB6.out.trans (hb7.mono HB6.out.size))
   clear hb7
   go_wp2
   go_ret
   exact ⟨rfl, HB7.out⟩
  | false =>
   have hc0 : col = 0 := HCOL.out
   subst hc0
   go_wp2
   go_ret
   exact ⟨rfl, HB6.out⟩
 ·have HAF := hid ((((HZB.out.set 0 (.bool c)).set 1 (.int .i64 (tx : Int))).set 2 (.int .i64 (mx : Int))).set 3 (.func (.func f) #[] #[]))
  have HBF := hid ((((HC5.out.setCell (p := ⟨W0.heap.size, 0, none⟩) (Nat.le_refl _) (.bool c)).setCell (p := ⟨W0.heap.size, 1, none⟩) (Nat.le_refl _) (.int .i64 (tx : Int))).setCell (p := ⟨W0.heap.size, 2, none⟩) (Nat.le_refl _) (.int .i64 (mx : Int))).setCell (p := ⟨W0.heap.size, 3, none⟩) (Nat.le_refl _) (.func (.func f) #[] #[]))
  have HXF := hid (((((HX0.out.below HC5.out HX0.out.lt).other (p := ⟨W0.heap.size, 0, none⟩) (by show W0.heap.size ≠ _; omega) (.bool c)).other (p := ⟨W0.heap.size, 1, none⟩) (by show W0.heap.size ≠ _; omega) (.int .i64 (tx : Int))).other (p := ⟨W0.heap.size, 2, none⟩) (by show W0.heap.size ≠ _; omega) (.int .i64 (mx : Int))).other (p := ⟨W0.heap.size, 3, none⟩) (by show W0.heap.size ≠ _; omega) (.func (.func f) #[] #[]))
  have HOF := hid (((((HO0.out.below HC5.out HO0.out.lt).other (p := ⟨W0.heap.size, 0, none⟩) (by show W0.heap.size ≠ _; omega) (.bool c)).other (p := ⟨W0.heap.size, 1, none⟩) (by show W0.heap.size ≠ _; omega) (.int .i64 (tx : Int))).other (p := ⟨W0.heap.size, 2, none⟩) (by show W0.heap.size ≠ _; omega) (.int .i64 (mx : Int))).other (p := ⟨W0.heap.size, 3, none⟩) (by show W0.heap.size ≠ _; omega) (.func (.func f) #[] #[]))
  have HYF := hid (((((HY0.out.below HC5.out HY0.out.lt).other (p := ⟨W0.heap.size, 0, none⟩) (by show W0.heap.size ≠ _; omega) (.bool c)).other (p := ⟨W0.heap.size, 1, none⟩) (by show W0.heap.size ≠ _; omega) (.int .i64 (tx : Int))).other (p := ⟨W0.heap.size, 2, none⟩) (by show W0.heap.size ≠ _; omega) (.int .i64 (mx : Int))).other (p := ⟨W0.heap.size, 3, none⟩) (by show W0.heap.size ≠ _; omega) (.func (.func f) #[] #[]))
  clear HG o00
  have hAz : W0.heap.size < (((((w5).setCell ⟨W0.heap.size, 0, none⟩ (.bool c)).setCell ⟨W0.heap.size, 1, none⟩ (.int .i64 (tx : Int))).setCell ⟨W0.heap.size, 2, none⟩ (.int .i64 (mx : Int))).setCell ⟨W0.heap.size, 3, none⟩ (.func (.func f) #[] #[])).heap.size := HAF.out.lt
  clear z0 z1 z2 z3 zf0 zf1 zf2 zf3 n0 n1 n2 n3 nf0 nf1 nf2 nf3 hlk hlk2
  generalize ((((w5).setCell ⟨W0.heap.size, 0, none⟩ (.bool c)).setCell ⟨W0.heap.size, 1, none⟩ (.int .i64 (tx : Int))).setCell ⟨W0.heap.size, 2, none⟩ (.int .i64 (mx : Int))).setCell ⟨W0.heap.size, 3, none⟩ (.func (.func f) #[] #[]) = WF at *
  have a0 := HAF.out.cell 0 rfl
  have a1 := HAF.out.cell 1 rfl
  have a2 := HAF.out.cell 2 rfl
  have p0 := HOF.out.cell 0 rfl
  have p1 := HOF.out.cell 1 rfl
  have p2 := HOF.out.cell 2 rfl
  have p3 := HOF.out.cell 3 rfl
  go_wp2_with fail
  have HB1 := hid (HB0.out.trans (HBF.out.mono (by omega)))
  with_reducible refine (HCF.out w.heap.size (w.heap.size + 2) WF HB1.out (HXF.out.cell 2 rfl) (HYF.out.cell 0 rfl) HXF.out.lt HYF.out.lt).mono ?_
  rintro e w6 ⟨rfl, hb6⟩
  have HB6 := hid (HB1.out.trans (hb6.mono HB1.out.size))
  have HX6 := hid (HXF.out.below hb6 HXF.out.lt)
  have HO6 := hid (HOF.out.below hb6 HOF.out.lt)
  have HY6 := hid (HYF.out.below hb6 HYF.out.lt)
  have HA6 := hid (HAF.out.below hb6 HAF.out.lt)
  clear a0 a1 a2 p0 p1 p2 p3 hb6
  have a0 := HA6.out.cell 0 rfl
  have p1 := HO6.out.cell 1 rfl
  have f0 := HY6.out.cell 0 rfl
  cases c with
  | true =>
   have HC := hid (HC1.out col w.heap.size w6 (HX6.out.cell 2 rfl))
   rw [show thereL L col = true from HCOL.out] at HC
   go_wp2_with fail
   with_reducible refine HC.out.mono ?_
   rintro e w7 ⟨rfl, hb7⟩
   have HB7 := hid (HB6.out.trans (hb7.mono HB6.out.size))
   clear hb7
   go_wp2
   go_ret
   exact ⟨rfl, HB7.out⟩
  | false =>
   have hc0 : col = 0 := HCOL.out
   subst hc0
   go_wp2
   go_ret
   exact ⟨rfl, HB6.out⟩
end Go.Proofs.YtaajpliifdlokaaGreatDoor
