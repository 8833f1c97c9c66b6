/- Contract of the kit's Op. -/
import Derived.Test.YthblaeleogdfpaaGreatDoorCToaz
import Derived.Test.YthblaeleogdfpaaGreatDoorCToba
set_option linter.unusedVariables false
set_option linter.unusedSimpArgs false
namespace Go.Proofs.YthblaeleogdfpaaGreatDoor
open Go.RowKit
def sixTexts : List ByteArray := [⟨#[97]⟩, ⟨#[98]⟩, ⟨#[49]⟩, ⟨#[50]⟩, ⟨#[107, 48]⟩, ⟨#[]⟩]
theorem six_ok : ∀ x ∈ sixTexts, TextOk 8 x := by unfold TextOk; decide +kernel
def Few3 (L : Nat) (o : Po) : Prop := o.cols.length ≤ 3 ∧ (o.kind = 3 → 0 < L → 0 < o.cols.length)
def KOp (w : World) (g L : Nat) (e : Ending) (w' : World) : Prop :=
  ∃ (o : Po) (v : Value), e = .returned (o.val v) ∧ o.text.size ≤ 1024 ∧ Few3 L o ∧ Rd w' w'.heap.size v o.cols.length (intF o.cols) ∧ KDice w' g ∧ Roll w.heap.size g w w'
structure OpSt (w0 w : World) (g : Nat) (kind col : Int) (text : ByteArray) (v : Value) : Prop where
  res : BoxN w (w0.heap.size + 1) 56 #[.int .i64 0, .int .i64 0, .string ⟨#[]⟩, .slice none 0 0]
  box : BoxN w (w0.heap.size + 2) 56 #[.int .i64 kind, .int .i64 col, .string text, v]
  dice : KDice w g
  roll : Roll w0.heap.size g w0 w
section
variable {w0 w w' : World} {g : Nat} {kind col : Int} {text : ByteArray} {v : Value}
theorem OpSt.rolled (h : OpSt w0 w g kind col text v) (hr : Roll w.heap.size g w w') (hd : KDice w' g) (hg : g < w0.heap.size) : OpSt w0 w' g kind col text v :=
 ⟨h.res.roll hr h.res.lt (by omega), h.box.roll hr h.box.lt (by omega), hd, h.roll.trans (hr.mono h.roll.size)⟩
theorem OpSt.alloc (h : OpSt w0 w g kind col text v) (hg : g < w0.heap.size) (O : Obj) : OpSt w0 (w.alloc O) g kind col text v :=
 h.rolled ((Roll.refl _ _ _).alloc (Nat.le_refl _) O) (h.dice.alloc O) hg
theorem OpSt.drew (h : OpSt w0 w g kind col text v) : OpSt w0 w.drew g kind col text v := ⟨h.res, h.box, h.dice.drew, h.roll.drewN 1⟩
theorem BoxN.drew {w : World} {b : Nat} {t : TypeId} {vs : Array Value} (h : BoxN w b t vs) : BoxN w.drew b t vs := h
theorem OpSt.put (h : OpSt w0 w g kind col text v) (hg : g < w0.heap.size) (i : Nat) (u : Value) {k' c' : Int} {t' : ByteArray} {v' : Value} (e : (#[.int .i64 kind, .int .i64 col, .string text, v] : Array Value).setIfInBounds i u = #[.int .i64 k', .int .i64 c', .string t', v']) :
  OpSt w0 (w.setCell ⟨w0.heap.size + 2, i, none⟩ u) g k' c' t' v' := by
 have hb := h.box.set i u
 rw [e] at hb
 exact ⟨h.res.other (by show w0.heap.size + 2 ≠ w0.heap.size + 1; omega) _, hb, h.dice.store (by show g < w0.heap.size + 2; omega) _, h.roll.trans ⟨rfl, rfl, rfl, by simp, fun k hk _ => Below.heap_setCell _ _ _ _ (by show k ≠ w0.heap.size + 2; omega)⟩⟩
end
theorem rd_ints {w : World} {base : Nat} {v : Value} {ks : List Nat} (h : w.ownsRow base 3 1 v ks.length (iv ks)) : Rd w w.heap.size v (ks.map fun (x : Nat) => (x : Int)).length (intF (ks.map fun (x : Nat) => (x : Int))) := by
 have h := rd_of_owns h (natF ks) (fun i hi => iv_at hi)
 rw [List.length_map]
 exact h.congr fun i hi => by simp [natF, intF, List.getD, hi]
structure KsSt (w0 w : World) (g : Nat) (v : Value) (ks : List Nat) : Prop where
  st : OpSt w0 w g 3 0 ⟨#[]⟩ v
  own : w.ownsRow (w0.heap.size + 3) 3 1 v ks.length (iv ks)
  low : w0.heap.size + 3 ≤ w.heap.size
section
variable {w0 w w' : World} {g : Nat} {v : Value} {ks : List Nat}
theorem KsSt.rolled (h : KsSt w0 w g v ks) (hr : Roll w.heap.size g w w') (hd : KDice w' g) (hg : g < w0.heap.size) : KsSt w0 w' g v ks :=
 ⟨h.st.rolled hr hd hg, own_roll h.own hr (Nat.le_refl _) (by omega), Nat.le_trans h.low hr.size⟩
theorem KsSt.drew (h : KsSt w0 w g v ks) : KsSt w0 w.drew g v ks := ⟨⟨h.st.res, h.st.box, h.st.dice.drew, h.st.roll.drewN 1⟩, own_drewN h.own 1, h.low⟩
theorem KsSt.alloc (h : KsSt w0 w g v ks) (hg : g < w0.heap.size) (O : Obj) : KsSt w0 (w.alloc O) g v ks := h.rolled ((Roll.refl _ _ _).alloc (Nat.le_refl _) O) (h.st.dice.alloc O) hg
theorem KsSt.push (h : KsSt w0 w g v ks) (hg : g < w0.heap.size) {r p m cap : Nat} (hm : m = ks.length + 1) (hown : w'.ownsRow (w0.heap.size + 3) 3 1 (.slice (some ⟨p, 0, none⟩) m cap) m (iv ks ++ [.int .i64 (r : Int)])) (hgr : w.grownBy w' v.ownBlock) :
  KsSt w0 (w'.setCell ⟨w0.heap.size + 2, 3, none⟩ (.slice (some ⟨p, 0, none⟩) m cap)) g (.slice (some ⟨p, 0, none⟩) m cap) (ks ++ [r]) := by
 have hv : ∀ k, v.ownBlock = some k → w0.heap.size + 3 ≤ k := fun k hk => (h.own.lt k hk).1
 have hlo := h.low
 have hx : ∀ k, k < w0.heap.size + 3 → w'.heap[k]? = w.heap[k]? := fun k hk => hgr.block k (by omega) (fun e => by have := hv k e.symm; omega)
 have h1 : OpSt w0 w' g 3 0 ⟨#[]⟩ v := ⟨(hx _ (by omega)).trans h.st.res, (hx _ (by omega)).trans h.st.box, h.st.dice.keep fun k hk => hx k (by omega), h.st.roll.trans ⟨hgr.os, hgr.tape, hgr.output, hgr.size, fun k hk _ => hx k (by omega)⟩⟩
 subst hm
 refine ⟨h1.put hg 3 _ rfl, ?_, by have := hgr.size; simp; omega⟩
 rw [List.length_append, List.length_singleton, show iv (ks ++ [r]) = iv ks ++ [.int .i64 (r : Int)] by simp [iv]]
 exact ownsRow_setCell_below hown (by show w0.heap.size + 2 < w0.heap.size + 3; omega) _
end
set_option maxRecDepth 100000 in
set_option maxHeartbeats 4000000 in
theorem kit_Op (g : Nat) (t : Ta) (v : Value) (w : World) (hd : KDice w g) (ht : TabV t) (hv : RdCo w (fun b => b < w.heap.size ∧ b ≠ g) v t.cols) :
  Calls Tryz.prog 23 #[.pointer (some ⟨g, 0, none⟩), .agg #[.int .i64 t.id, .string t.name, v]] w (KOp w g t.cols.length) := by
 have hgl := hd.lt
 have HD := hid hd
 have hxl64 : t.cols.length ≤ 64 := ht.2.2.2.1
 obtain ⟨n, hn4, hx⟩ := ht.cv
 have HC := hid (fun q (hq : q < t.cols.length) => hx _ (getD_mem hq Co.z))
 obtain ⟨i0, hi, hz0, hz1, hz2⟩ := info_parts info_intR
 obtain ⟨cv, hcv, hcl⟩ := hv
 obtain ⟨va, vc, rfl, hcc, hm, hr⟩ := hcv
 have HR := hid hr
 have HCL := hid hcl
 clear hr hcl hx ht hd
 obtain ⟨id, nm, xs⟩ := t
 simp only at *
 generalize hxl : xs.length = L at *
 clear hxl
 unfold maxLen at hm
 go_enter Tryz.func23, Tryz.ntmps23
 go_wp2_with fail
 have hd0 := (HD.out.alloc (.cells #[.int .i64 id, .string nm, .slice va L vc] 24)).alloc (.cells #[.int .i64 0, .int .i64 0, .string ⟨#[]⟩, .slice none 0 0] 56)
 have hr0 := ((Roll.refl w.heap.size g w).alloc (Nat.le_refl _) (.cells #[.int .i64 id, .string nm, .slice va L vc] 24)).alloc (by simp) (.cells #[.int .i64 0, .int .i64 0, .string ⟨#[]⟩, .slice none 0 0] 56)
 have hx0 := (BoxN.new w #[.int .i64 id, .string nm, .slice va L vc] 24).alloc (.cells #[.int .i64 0, .int .i64 0, .string ⟨#[]⟩, .slice none 0 0] 56)
 have hy0 := BoxN.new (w.alloc (.cells #[.int .i64 id, .string nm, .slice va L vc] 24)) #[.int .i64 0, .int .i64 0, .string ⟨#[]⟩, .slice none 0 0] 56
 rw [World.size_alloc] at hy0
 have hz0' : ((w.alloc (.cells #[.int .i64 id, .string nm, .slice va L vc] 24)).alloc (.cells #[.int .i64 0, .int .i64 0, .string ⟨#[]⟩, .slice none 0 0] 56)).heap.size = w.heap.size + 2 := by simp
 with_reducible refine (kit_Next g _ _ hd0 (by omega) (by omega)).mono ?_
 clear hd0
 generalize (w.alloc (.cells #[.int .i64 id, .string nm, .slice va L vc] 24)).alloc (.cells #[.int .i64 0, .int .i64 0, .string ⟨#[]⟩, .slice none 0 0] 56) = W0 at *
 rintro e w1 ⟨k, rfl, hk, hd1, hr1, hs1⟩
 have hX1 := hx0.roll hr1 (by omega) (by omega)
 have hY1 := hy0.roll hr1 (by omega) (by omega)
 have hR1 := hr0.trans (hr1.mono (by omega))
 have hs1' : w1.heap.size = w.heap.size + 2 := by omega
 have HX1 := hid hX1
 have HY1 := hid hY1
 have HR1 := hid hR1
 have HD1 := hid hd1
 clear hx0 hy0 hr0 hX1 hY1 hR1 hd1 hr1 hs1
 have hk5 : k < 5 := by omega
 clear hk
 rcases (show k = 0 ∨ k = 1 ∨ k = 2 ∨ k = 3 ∨ k = 4 by omega) with rfl | rfl | rfl | rfl | rfl
 ·have hO := BoxN.new w1 #[.int .i64 1, .int .i64 0, .string ⟨#[]⟩, .slice none 0 0] 56
  have HX2 := hid (HX1.out.alloc (.cells #[.int .i64 1, .int .i64 0, .string ⟨#[]⟩, .slice none 0 0] 56))
  rw [hs1'] at hO
  have HST2 : Hid (OpSt w (w1.alloc (.cells #[.int .i64 1, .int .i64 0, .string ⟨#[]⟩, .slice none 0 0] 56)) g 1 0 ⟨#[]⟩ (.slice none 0 0)) := hid ⟨HY1.out.alloc _, hO, HD1.out.alloc _, HR1.out.alloc (by omega) _⟩
  have hz2' : (w1.alloc (.cells #[.int .i64 1, .int .i64 0, .string ⟨#[]⟩, .slice none 0 0] 56)).heap.size = w.heap.size + 3 := by simp; omega
  have x2 := HX2.out.cell 2 rfl
  have y0 := HST2.out.box.cell 0 rfl
  clear hO
  go_wp2_with fail
  generalize w1.alloc (.cells #[.int .i64 1, .int .i64 0, .string ⟨#[]⟩, .slice none 0 0] 56) = W2 at *
  clear x2 y0
  with_reducible refine (kit_Next g _ _ HST2.out.dice (by omega) (by omega)).mono ?_
  rintro e w3 ⟨m, rfl, hm, hd3, hr3, hs3⟩
  have HST3 := hid (HST2.out.rolled hr3 hd3 hgl)
  have HX3 := hid (HX2.out.roll hr3 (by omega) (by omega))
  have hs3' : w3.heap.size = w.heap.size + 3 := by omega
  have z1 := HST3.out.box.cell 1 rfl
  have zf1 := HST3.out.box.frozen 1
  have HST4 := hid (HST3.out.put hgl 1 (.int .i64 (m : Int)) rfl)
  clear hd3 hr3 hs3
  go_wp2_with fail
  generalize hW4 : w3.setCell ⟨w.heap.size + 2, 1, none⟩ (.int .i64 (m : Int)) = W4 at *
  have hz4 : W4.heap.size = w.heap.size + 3 := by rw [← hW4]; simpa using hs3'
  have HX4 : Hid (BoxN W4 w.heap.size 24 #[.int .i64 id, .string nm, .slice va L vc]) := hid (by rw [← hW4]; exact HX3.out.other (by show w.heap.size + 2 ≠ w.heap.size; omega) _)
  have HST5 := hid (HST4.out.alloc hgl (.cells #[.string ⟨#[97]⟩, .string ⟨#[98]⟩, .string ⟨#[49]⟩, .string ⟨#[50]⟩, .string ⟨#[107, 48]⟩, .string ⟨#[]⟩] 9))
  have HX5 := hid (HX4.out.alloc (.cells #[.string ⟨#[97]⟩, .string ⟨#[98]⟩, .string ⟨#[49]⟩, .string ⟨#[50]⟩, .string ⟨#[107, 48]⟩, .string ⟨#[]⟩] 9))
  have hw5 : BoxN (W4.alloc (.cells #[.string ⟨#[97]⟩, .string ⟨#[98]⟩, .string ⟨#[49]⟩, .string ⟨#[50]⟩, .string ⟨#[107, 48]⟩, .string ⟨#[]⟩] 9)) (w.heap.size + 3) 9 (sixTexts.map Value.string).toArray := by have h := BoxN.new W4 #[.string ⟨#[97]⟩, .string ⟨#[98]⟩, .string ⟨#[49]⟩, .string ⟨#[50]⟩, .string ⟨#[107, 48]⟩, .string ⟨#[]⟩] 9; rw [hz4] at h; exact h
  have hz5 : (W4.alloc (.cells #[.string ⟨#[97]⟩, .string ⟨#[98]⟩, .string ⟨#[49]⟩, .string ⟨#[50]⟩, .string ⟨#[107, 48]⟩, .string ⟨#[]⟩] 9)).heap.size = w.heap.size + 4 := by simp; omega
  clear hW4 z1 zf1
  with_reducible refine (kit_Word g (w.heap.size + 3) 6 sixTexts _ HST5.out.dice hw5 (by omega) rfl (by omega) (by omega)).mono ?_
  clear hw5
  generalize W4.alloc (.cells #[.string ⟨#[97]⟩, .string ⟨#[98]⟩, .string ⟨#[49]⟩, .string ⟨#[50]⟩, .string ⟨#[107, 48]⟩, .string ⟨#[]⟩] 9) = W5 at *
  rintro e w6 ⟨s, rfl, hs, hd6, hr6, hs6⟩
  have HST6 := hid (HST5.out.rolled hr6 hd6 hgl)
  have HX6 := hid (HX5.out.roll hr6 (by omega) (by omega))
  have HOK6 : Hid (s.size ≤ 1024) := hid (by have := (six_ok _ hs).1; omega)
  have hz6 : w6.heap.size = w.heap.size + 4 := by omega
  have z2 := HST6.out.box.cell 2 rfl
  have zf2 := HST6.out.box.frozen 2
  have HST7 := hid (HST6.out.put hgl 2 (.string s) rfl)
  have HX7 := hid (HX6.out.other (p := ⟨w.heap.size + 2, 2, none⟩) (by show w.heap.size + 2 ≠ w.heap.size; omega) (.string s))
  clear hs hd6 hr6 hs6
  by_cases hL0 : L = 0
  ·subst hL0
   have r0 := HST7.out.res.cell 0 rfl
   have r1 := HST7.out.res.cell 1 rfl
   have r2 := HST7.out.res.cell 2 rfl
   have r3 := HST7.out.res.cell 3 rfl
   have rf0 := HST7.out.res.frozen 0
   have rf1 := HST7.out.res.frozen 1
   have rf2 := HST7.out.res.frozen 2
   have rf3 := HST7.out.res.frozen 3
   have b0 := HST7.out.box.cell 0 rfl
   have b1 := HST7.out.box.cell 1 rfl
   have b2 := HST7.out.box.cell 2 rfl
   have b3 := HST7.out.box.cell 3 rfl
   go_wp2
   refine bodyPost_ret (v := .agg #[.int .i64 1, .int .i64 (m : Int), .string s, (.slice none 0 0)]) (by simp [results, Tryz.results23, go_sem, r0, r1, r2, r3]) rfl ⟨⟨1, (m : Int), s, []⟩, (.slice none 0 0), rfl, HOK6.out, ⟨by show (0 : Nat) ≤ 3; omega, fun h => absurd h (by simp)⟩, Rd.nil, HST7.out.dice.below (B := w.heap.size) (by have := Below.refl w.heap.size (w6.setCell ⟨w.heap.size + 2, 2, none⟩ (.string s)); repeat' (first | (with_reducible exact Below.refl _ _) | (with_reducible assumption) | (with_reducible refine below_drewN ?_) | (with_reducible refine Below.alloc ?_ ?_ _) | (with_reducible refine Below.drew ?_) | (with_reducible refine Below.setCell ?_ ?_ _) | (with_reducible refine Below.trans ?_ (Below.mono (by with_reducible assumption) ?_)) | go_size)) hgl, HST7.out.roll.trans (Roll.of_below (by repeat' (first | (with_reducible exact Below.refl _ _) | (with_reducible assumption) | (with_reducible refine below_drewN ?_) | (with_reducible refine Below.alloc ?_ ?_ _) | (with_reducible refine Below.drew ?_) | (with_reducible refine Below.setCell ?_ ?_ _) | (with_reducible refine Below.trans ?_ (Below.mono (by with_reducible assumption) ?_)) | go_size)) g)⟩
  ·have hLp : (0 : Int) < (L : Int) := by omega
   have hLd : decide ((0 : Int) < (L : Int)) = true := decide_eq_true hLp
   have hmL : m < L := by omega
   have hmL' : (m : Int) < (L : Int) := by omega
   go_upto_region 7 with fail
   generalize hW7 : w6.setCell ⟨w.heap.size + 2, 2, none⟩ (.string s) = W7 at *
   have hz7 : W7.heap.size = w.heap.size + 4 := by rw [← hW7]; simpa using hz6
   obtain ⟨ba, oa, rfl, hba, hcella⟩ := HR.out (by omega)
   have k1 : W7.cell? ⟨ba, oa + m * 2 + 1, none⟩ = some (cv m) := (HST7.out.roll.cell (p := ⟨ba, oa + m * 2 + 1, none⟩) hba.1 hba.2).trans (hcella m hmL 1 (by omega))
   obtain ⟨ca, ck, hcq, -, -, hcell2⟩ := HCL.out m hmL
   have hxm := HC.out m hmL
   rw [hxm.2.1] at hcq hcell2
   rw [hcq] at k1
   have x2 := HX7.out.cell 2 rfl
   have y1 := HST7.out.box.cell 1 rfl
   have HKW : Hid (w.cell? ⟨ba, oa + m * 2 + 1, none⟩ = some (.slice ca n ck)) := hid ((hcella m hmL 1 (by omega)).trans (by show some (cv m) = _; rw [hcq]))
   clear hcella hcq hW7 z2 zf2
   by_cases hn0 : n = 0
   ·subst hn0
    have r0 := HST7.out.res.cell 0 rfl
    have r1 := HST7.out.res.cell 1 rfl
    have r2 := HST7.out.res.cell 2 rfl
    have r3 := HST7.out.res.cell 3 rfl
    have rf0 := HST7.out.res.frozen 0
    have rf1 := HST7.out.res.frozen 1
    have rf2 := HST7.out.res.frozen 2
    have rf3 := HST7.out.res.frozen 3
    have b0 := HST7.out.box.cell 0 rfl
    have b1 := HST7.out.box.cell 1 rfl
    have b2 := HST7.out.box.cell 2 rfl
    have b3 := HST7.out.box.cell 3 rfl
    go_wp2
    refine bodyPost_ret (v := .agg #[.int .i64 1, .int .i64 (m : Int), .string s, (.slice none 0 0)]) (by simp [results, Tryz.results23, go_sem, r0, r1, r2, r3]) rfl ⟨⟨1, (m : Int), s, []⟩, (.slice none 0 0), rfl, HOK6.out, ⟨by show (0 : Nat) ≤ 3; omega, fun h => absurd h (by simp)⟩, Rd.nil, HST7.out.dice.below (B := w.heap.size) (by have := Below.refl w.heap.size W7; repeat' (first | (with_reducible exact Below.refl _ _) | (with_reducible assumption) | (with_reducible refine below_drewN ?_) | (with_reducible refine Below.alloc ?_ ?_ _) | (with_reducible refine Below.drew ?_) | (with_reducible refine Below.setCell ?_ ?_ _) | (with_reducible refine Below.trans ?_ (Below.mono (by with_reducible assumption) ?_)) | go_size)) hgl, HST7.out.roll.trans (Roll.of_below (by repeat' (first | (with_reducible exact Below.refl _ _) | (with_reducible assumption) | (with_reducible refine below_drewN ?_) | (with_reducible refine Below.alloc ?_ ?_ _) | (with_reducible refine Below.drew ?_) | (with_reducible refine Below.setCell ?_ ?_ _) | (with_reducible refine Below.trans ?_ (Below.mono (by with_reducible assumption) ?_)) | go_size)) g)⟩
   ·have hnp : (0 : Int) < (n : Int) := by omega
    have hnd : decide ((0 : Int) < (n : Int)) = true := decide_eq_true hnp
    go_wp2_with fail
    with_reducible refine (kit_Next g _ _ HST7.out.dice (by omega) (by omega)).mono ?_
    rintro e w8 ⟨q8, rfl, hq8, hd8, hr8, hs8⟩
    have HST8 := hid (HST7.out.rolled hr8 hd8 hgl)
    have HX8 := hid (HX7.out.roll hr8 (by omega) (by omega))
    clear hd8 hr8 x2 y1 k1
    by_cases hq0 : q8 = 0
    ·subst hq0
     have r0 := HST8.out.res.cell 0 rfl
     have r1 := HST8.out.res.cell 1 rfl
     have r2 := HST8.out.res.cell 2 rfl
     have r3 := HST8.out.res.cell 3 rfl
     have rf0 := HST8.out.res.frozen 0
     have rf1 := HST8.out.res.frozen 1
     have rf2 := HST8.out.res.frozen 2
     have rf3 := HST8.out.res.frozen 3
     have b0 := HST8.out.box.cell 0 rfl
     have b1 := HST8.out.box.cell 1 rfl
     have b2 := HST8.out.box.cell 2 rfl
     have b3 := HST8.out.box.cell 3 rfl
     go_wp2
     refine bodyPost_ret (v := .agg #[.int .i64 1, .int .i64 (m : Int), .string s, (.slice none 0 0)]) (by simp [results, Tryz.results23, go_sem, r0, r1, r2, r3]) rfl ⟨⟨1, (m : Int), s, []⟩, (.slice none 0 0), rfl, HOK6.out, ⟨by show (0 : Nat) ≤ 3; omega, fun h => absurd h (by simp)⟩, Rd.nil, HST8.out.dice.below (B := w.heap.size) (by have := Below.refl w.heap.size w8; repeat' (first | (with_reducible exact Below.refl _ _) | (with_reducible assumption) | (with_reducible refine below_drewN ?_) | (with_reducible refine Below.alloc ?_ ?_ _) | (with_reducible refine Below.drew ?_) | (with_reducible refine Below.setCell ?_ ?_ _) | (with_reducible refine Below.trans ?_ (Below.mono (by with_reducible assumption) ?_)) | go_size)) hgl, HST8.out.roll.trans (Roll.of_below (by repeat' (first | (with_reducible exact Below.refl _ _) | (with_reducible assumption) | (with_reducible refine below_drewN ?_) | (with_reducible refine Below.alloc ?_ ?_ _) | (with_reducible refine Below.drew ?_) | (with_reducible refine Below.setCell ?_ ?_ _) | (with_reducible refine Below.trans ?_ (Below.mono (by with_reducible assumption) ?_)) | go_size)) g)⟩
    ·have hqp : (0 : Int) < (q8 : Int) := by omega
     have hqd : decide ((0 : Int) < (q8 : Int)) = true := decide_eq_true hqp
     obtain ⟨b2, o2, rfl, hb2, hcell3⟩ := hcell2 (by omega)
     have hkw := HKW.out
     obtain ⟨TX, hTX⟩ : ∃ TX : Nat → ByteArray, ∀ r, TX r = ((xs.getD m Co.z).cells.getD r Cl.z).text := ⟨_, fun _ => rfl⟩
     have HTXT : Hid (∀ r, r < n → (TX r).size ≤ 1024) := hid (fun r (hr : r < n) => by rw [hTX]; exact (hxm.2.2 _ (getD_mem (by rw [hxm.2.1]; exact hr) Cl.z)).2.1)
     have HC3 : Hid (∀ W, Roll w.heap.size g w W → ∀ r, r < n → W.cell? ⟨b2, o2 + r * 2 + 1, none⟩ = some (.string (TX r))) := hid (fun W hW r (hr : r < n) => by rw [hTX]; exact (hW.cell (p := ⟨b2, o2 + r * 2 + 1, none⟩) hb2.1 hb2.2).trans (hcell3 r hr 1 (by omega)))
     have t1 := HC3.out _ HST8.out.roll
     clear hTX
     have x2 := HX8.out.cell 2 rfl
     have y1 := HST8.out.box.cell 1 rfl
     have k1 := (HST8.out.roll.cell (p := ⟨ba, oa + m * 2 + 1, none⟩) hba.1 hba.2).trans hkw
     have hgz8 := HST8.out.dice.lt
     clear hcell3 hkw hxm
     go_upto_region 8 with fail
     go_region_held3 (fun w' => w'.cell? ⟨w.heap.size, 2, none⟩ = some (.slice (some ⟨ba, oa, none⟩) L vc) ∧ w'.cell? ⟨w.heap.size + 2, 1, none⟩ = some (.int .i64 (m : Int)) ∧ w'.cell? ⟨ba, oa + m * 2 + 1, none⟩ = some (.slice (some ⟨b2, o2, none⟩) n ck) ∧ ∀ r, r < n → w'.cell? ⟨b2, o2 + r * 2 + 1, none⟩ = some (.string (TX r)))
      (first | exact ⟨x2, y1, k1, t1⟩ | exact ⟨u0, u1, u2, u3⟩ | exact ⟨v0, v1, v2, v3⟩ | go_keep)
      (first
       | (go_at_call 40; go_must (((with_reducible refine (kit_Next g _ _ HST8.out.dice.drew (by omega) (by omega)).mono ?_); rintro e w9 ⟨r9, rfl, hr9', hd9, hr9, hs9⟩; have hr9n : r9 < n := (by omega); have hr9n' : (r9 : Int) < (n : Int) := (by omega); have HST9 := hid (HST8.out.drew.rolled hr9 hd9 hgl); have HX9 := hid (HX8.out.drew.roll hr9 HX8.out.lt (by omega)); have u0 : w9.cell? ⟨w.heap.size, 2, none⟩ = some (.slice (some ⟨ba, oa, none⟩) L vc) := HX9.out.cell 2 rfl; have u1 : w9.cell? ⟨w.heap.size + 2, 1, none⟩ = some (.int .i64 (m : Int)) := HST9.out.box.cell 1 rfl; have u2 : w9.cell? ⟨ba, oa + m * 2 + 1, none⟩ = some (.slice (some ⟨b2, o2, none⟩) n ck) := (HST9.out.roll.cell (p := ⟨ba, oa + m * 2 + 1, none⟩) hba.1 hba.2).trans HKW.out; have u3 := HC3.out _ HST9.out.roll; have HTX9 := hid (HTXT.out r9 hr9n); have u4 : w9.cell? ⟨w.heap.size + 2, 2, none⟩ = some (.string s) := HST9.out.box.cell 2 rfl; have fu4 := HST9.out.box.frozen 2; have HST10 := hid (HST9.out.put hgl 2 (.string (TX r9)) rfl); have v0 : (w9.setCell ⟨w.heap.size + 2, 2, none⟩ (.string (TX r9))).cell? ⟨w.heap.size, 2, none⟩ = some (.slice (some ⟨ba, oa, none⟩) L vc) := (HX9.out.other (p := ⟨w.heap.size + 2, 2, none⟩) (by show w.heap.size + 2 ≠ w.heap.size; omega) _).cell 2 rfl; have v1 : (w9.setCell ⟨w.heap.size + 2, 2, none⟩ (.string (TX r9))).cell? ⟨w.heap.size + 2, 1, none⟩ = some (.int .i64 (m : Int)) := HST10.out.box.cell 1 rfl; have v2 : (w9.setCell ⟨w.heap.size + 2, 2, none⟩ (.string (TX r9))).cell? ⟨ba, oa + m * 2 + 1, none⟩ = some (.slice (some ⟨b2, o2, none⟩) n ck) := (HST10.out.roll.cell (p := ⟨ba, oa + m * 2 + 1, none⟩) hba.1 hba.2).trans HKW.out; have v3 := HC3.out _ HST10.out.roll; clear hd9 hr9 hr9' hs9))))
     all_goals
      have HTX10 : Hid ((TX r9).size ≤ 1024) := hid (by have := HTX9.out; omega)
      clear x2 y1 k1 t1 u0 u1 u2 u3 u4 fu4 v0 v1 v2 v3
      generalize TX r9 = tx at *
      have r0 := HST10.out.res.cell 0 rfl
      have r1 := HST10.out.res.cell 1 rfl
      have r2 := HST10.out.res.cell 2 rfl
      have r3 := HST10.out.res.cell 3 rfl
      have rf0 := HST10.out.res.frozen 0
      have rf1 := HST10.out.res.frozen 1
      have rf2 := HST10.out.res.frozen 2
      have rf3 := HST10.out.res.frozen 3
      have b0 := HST10.out.box.cell 0 rfl
      have b1 := HST10.out.box.cell 1 rfl
      have b2 := HST10.out.box.cell 2 rfl
      have b3 := HST10.out.box.cell 3 rfl
      go_wp2
      refine bodyPost_ret (v := .agg #[.int .i64 1, .int .i64 (m : Int), .string tx, (.slice none 0 0)]) (by simp [results, Tryz.results23, go_sem, r0, r1, r2, r3]) rfl ⟨⟨1, (m : Int), tx, []⟩, (.slice none 0 0), rfl, HTX10.out, ⟨by show (0 : Nat) ≤ 3; omega, fun h => absurd h (by simp)⟩, Rd.nil, HST10.out.dice.below (B := w.heap.size) (by have := Below.refl w.heap.size (w9.setCell ⟨w.heap.size + 2, 2, none⟩ (.string tx)); repeat' (first | (with_reducible exact Below.refl _ _) | (with_reducible assumption) | (with_reducible refine below_drewN ?_) | (with_reducible refine Below.alloc ?_ ?_ _) | (with_reducible refine Below.drew ?_) | (with_reducible refine Below.setCell ?_ ?_ _) | (with_reducible refine Below.trans ?_ (Below.mono (by with_reducible assumption) ?_)) | go_size)) hgl, HST10.out.roll.trans (Roll.of_below (by repeat' (first | (with_reducible exact Below.refl _ _) | (with_reducible assumption) | (with_reducible refine below_drewN ?_) | (with_reducible refine Below.alloc ?_ ?_ _) | (with_reducible refine Below.drew ?_) | (with_reducible refine Below.setCell ?_ ?_ _) | (with_reducible refine Below.trans ?_ (Below.mono (by with_reducible assumption) ?_)) | go_size)) g)⟩
 ·have hO := BoxN.new w1 #[.int .i64 2, .int .i64 0, .string ⟨#[]⟩, .slice none 0 0] 56
  have HX2 := hid (HX1.out.alloc (.cells #[.int .i64 2, .int .i64 0, .string ⟨#[]⟩, .slice none 0 0] 56))
  rw [hs1'] at hO
  have HST2 : Hid (OpSt w (w1.alloc (.cells #[.int .i64 2, .int .i64 0, .string ⟨#[]⟩, .slice none 0 0] 56)) g 2 0 ⟨#[]⟩ (.slice none 0 0)) := hid ⟨HY1.out.alloc _, hO, HD1.out.alloc _, HR1.out.alloc (by omega) _⟩
  have hz2' : (w1.alloc (.cells #[.int .i64 2, .int .i64 0, .string ⟨#[]⟩, .slice none 0 0] 56)).heap.size = w.heap.size + 3 := by simp; omega
  have x2 := HX2.out.cell 2 rfl
  have y0 := HST2.out.box.cell 0 rfl
  clear hO
  go_wp2_with fail
  generalize w1.alloc (.cells #[.int .i64 2, .int .i64 0, .string ⟨#[]⟩, .slice none 0 0] 56) = W2 at *
  clear x2 y0
  with_reducible refine (kit_Next g _ _ HST2.out.dice (by omega) (by omega)).mono ?_
  rintro e w3 ⟨m, rfl, hm, hd3, hr3, hs3⟩
  have HST3 := hid (HST2.out.rolled hr3 hd3 hgl)
  have HX3 := hid (HX2.out.roll hr3 (by omega) (by omega))
  have hs3' : w3.heap.size = w.heap.size + 3 := by omega
  have z1 := HST3.out.box.cell 1 rfl
  have zf1 := HST3.out.box.frozen 1
  have HST4 := hid (HST3.out.put hgl 1 (.int .i64 (m : Int)) rfl)
  clear hd3 hr3 hs3
  skip
  have r0 := HST4.out.res.cell 0 rfl
  have r1 := HST4.out.res.cell 1 rfl
  have r2 := HST4.out.res.cell 2 rfl
  have r3 := HST4.out.res.cell 3 rfl
  have rf0 := HST4.out.res.frozen 0
  have rf1 := HST4.out.res.frozen 1
  have rf2 := HST4.out.res.frozen 2
  have rf3 := HST4.out.res.frozen 3
  have b0 := HST4.out.box.cell 0 rfl
  have b1 := HST4.out.box.cell 1 rfl
  have b2 := HST4.out.box.cell 2 rfl
  have b3 := HST4.out.box.cell 3 rfl
  go_wp2
  refine bodyPost_ret (v := .agg #[.int .i64 2, .int .i64 (m : Int), .string ⟨#[]⟩, (.slice none 0 0)]) (by simp [results, Tryz.results23, go_sem, r0, r1, r2, r3]) rfl ⟨⟨2, (m : Int), ⟨#[]⟩, []⟩, (.slice none 0 0), rfl, by show (0 : Nat) ≤ 1024; omega, ⟨by show (0 : Nat) ≤ 3; omega, fun h => absurd h (by simp)⟩, Rd.nil, HST4.out.dice.below (B := w.heap.size) (by have := Below.refl w.heap.size (w3.setCell ⟨w.heap.size + 2, 1, none⟩ (.int .i64 (m : Int))); repeat' (first | (with_reducible exact Below.refl _ _) | (with_reducible assumption) | (with_reducible refine below_drewN ?_) | (with_reducible refine Below.alloc ?_ ?_ _) | (with_reducible refine Below.drew ?_) | (with_reducible refine Below.setCell ?_ ?_ _) | (with_reducible refine Below.trans ?_ (Below.mono (by with_reducible assumption) ?_)) | go_size)) hgl, HST4.out.roll.trans (Roll.of_below (by repeat' (first | (with_reducible exact Below.refl _ _) | (with_reducible assumption) | (with_reducible refine below_drewN ?_) | (with_reducible refine Below.alloc ?_ ?_ _) | (with_reducible refine Below.drew ?_) | (with_reducible refine Below.setCell ?_ ?_ _) | (with_reducible refine Below.trans ?_ (Below.mono (by with_reducible assumption) ?_)) | go_size)) g)⟩
 ·have hO := BoxN.new w1 #[.int .i64 3, .int .i64 0, .string ⟨#[]⟩, .slice none 0 0] 56
  have HX2 := hid (HX1.out.alloc (.cells #[.int .i64 3, .int .i64 0, .string ⟨#[]⟩, .slice none 0 0] 56))
  rw [hs1'] at hO
  have HST2 : Hid (OpSt w (w1.alloc (.cells #[.int .i64 3, .int .i64 0, .string ⟨#[]⟩, .slice none 0 0] 56)) g 3 0 ⟨#[]⟩ (.slice none 0 0)) := hid ⟨HY1.out.alloc _, hO, HD1.out.alloc _, HR1.out.alloc (by omega) _⟩
  have hz2' : (w1.alloc (.cells #[.int .i64 3, .int .i64 0, .string ⟨#[]⟩, .slice none 0 0] 56)).heap.size = w.heap.size + 3 := by simp; omega
  have x2 := HX2.out.cell 2 rfl
  have y0 := HST2.out.box.cell 0 rfl
  clear hO
  go_wp2_with fail
  generalize w1.alloc (.cells #[.int .i64 3, .int .i64 0, .string ⟨#[]⟩, .slice none 0 0] 56) = W2 at *
  clear x2 y0
  with_reducible refine (kit_Next g _ _ HST2.out.dice (by omega) (by omega)).mono ?_
  rintro e w3 ⟨m, rfl, hm, hd3, hr3, hs3⟩
  have HST3 := hid (HST2.out.rolled hr3 hd3 hgl)
  have hs3' : w3.heap.size = w.heap.size + 3 := by omega
  have hm3 : m < 3 := by omega
  clear hd3 hr3 hs3 hm
  go_wp2_with fail
  go_loopg [7] (m + 1) (fun N i wr => i = .int .i64 (N : Int) ∧ ∃ (y : Value) (ks : List Nat), ks.length + N = m + 1 ∧ Hid (KsSt w wr g y ks))
  case atStart => exact ⟨by go_num, .slice none 0 0, [], by simp, hid ⟨HST3.out, World.ownsRow_nil _ _ _ _, by omega⟩⟩
  case round =>
   obtain ⟨rfl, y, ks, hks, HS⟩ := hrel
   have hlo := HS.out.low
   have hown := HS.out.own
   generalize hkl : ks.length = q at *
   have HKL := hid hkl
   clear hkl
   obtain ⟨ya, yc, rfl⟩ := own_slice hown
   have HOWN := hid hown
   clear hown
   by_cases hp : 0 < gk ∧ 0 < L
   ·obtain ⟨hp1, hp2⟩ := hp
    have hpL : (0 : Int) < (L : Int) := by omega
    have hpL2 : decide ((0 : Int) < (L : Int)) = true := decide_eq_true hpL
    have hpg : decide ((0 : Int) < (gk : Int)) = true := decide_eq_true (by omega)
    have s0 : wr.cell? ⟨w.heap.size + 2, 3, none⟩ = some (.slice ya q yc) := HS.out.st.box.cell 3 rfl
    go_wp2_with fail
    go_region_law (first
     | (go_simp; go_at_call 40; go_must (((with_reducible refine (kit_Next g _ _ HS.out.st.dice.drew (by omega) (by omega)).mono ?_); rintro e w5 ⟨r5, rfl, hr5', hd5, hr5, hs5⟩; have HS5 := hid (HS.out.drew.rolled hr5 hd5 hgl); have HO5 := hid (own_roll (own_drewN HOWN.out 1) hr5 (Nat.le_refl _) (by omega)); have s5 : w5.cell? ⟨w.heap.size + 2, 3, none⟩ = some (.slice ya q yc) := HS5.out.st.box.cell 3 rfl; have s6 : (w5.alloc (.cells #[.int .i64 (r5 : Int)] 3)).cell? ⟨w.heap.size + 2, 3, none⟩ = some (.slice ya q yc) := (HS5.out.st.box.alloc (.cells #[.int .i64 (r5 : Int)] 3)).cell 3 rfl; have hlo5 := HS5.out.low; have HN5 := hid (BoxN.new w5 #[.int .i64 (r5 : Int)] 3); clear hd5 hr5 hs5 hr5')))
     | ((refine step_append_form _ rfl (.tmp 87) (.tmp 91) 25 25 rfl (w.heap.size + 3) 3 3 i0 (.int .i64 0) 1 8 Tryz.underlying25 Tryz.underlying25 hi hz0 hz1 hz2 rfl (by decide) (.slice ya q yc) q (iv ks) rfl (HO5.out.alloc _) (some ⟨_, 0, none⟩) 1 1 [.int .i64 (r5 : Int)] rfl rfl (fun _ => ⟨_, rfl, World.news_of_block HN5.out⟩) (by intro u hu; simp at hu; subst hu; rfl) (by omega) (by unfold maxLen; omega) (by omega) (by simp; omega) ?_); intro p7 cap7 w7 hown7 hg7 hat7 hlt7; have hbx7 := (HS5.out.st.box.alloc (.cells #[.int .i64 (r5 : Int)] 3)).grown hg7 (fun e => by have := HOWN.out.lt _ e.symm; omega); have q1 : w7.cell? ⟨w.heap.size + 2, 3, none⟩ = some (.slice ya q yc) := hbx7.cell 3 rfl; have fq1 := hbx7.frozen 3; have HG7 := hid hg7; have HOWN7 := hid hown7; clear hown7 hg7 hat7 hbx7))
    all_goals
     have HS7 := hid ((HS5.out.alloc hgl (.cells #[.int .i64 (r5 : Int)] 3)).push hgl (r := r5) (by rw [HKL.out]) HOWN7.out HG7.out)
     clear s0 s5 s6 q1 fq1
     go_wp2
     go_roundg (gk - 1)
     case rel => exact ⟨by go_num, _, ks ++ [r5], by rw [List.length_append, List.length_singleton, HKL.out]; omega, HS7⟩
     case measure => omega
   ·skip
    have hst := HS.out.st
    have HSE := hid hst
    have HLE : Hid ((ks.map fun (x : Nat) => (x : Int)).length ≤ 3) := hid (by rw [List.length_map, HKL.out]; omega)
    clear hst
    by_cases hp1 : 0 < gk
    ·have hL0 : L = 0 := by omega
     subst hL0
     have hpg : decide ((0 : Int) < (gk : Int)) = true := decide_eq_true (by omega)
     have r0 := HSE.out.res.cell 0 rfl
     have r1 := HSE.out.res.cell 1 rfl
     have r2 := HSE.out.res.cell 2 rfl
     have r3 := HSE.out.res.cell 3 rfl
     have rf0 := HSE.out.res.frozen 0
     have rf1 := HSE.out.res.frozen 1
     have rf2 := HSE.out.res.frozen 2
     have rf3 := HSE.out.res.frozen 3
     have b0 := HSE.out.box.cell 0 rfl
     have b1 := HSE.out.box.cell 1 rfl
     have b2 := HSE.out.box.cell 2 rfl
     have b3 := HSE.out.box.cell 3 rfl
     go_wp2
     refine bodyPost_ret (v := .agg #[.int .i64 3, .int .i64 0, .string ⟨#[]⟩, (.slice ya q yc)]) (by simp [results, Tryz.results23, go_sem, r0, r1, r2, r3]) rfl ⟨⟨3, 0, ⟨#[]⟩, (ks.map fun (x : Nat) => (x : Int))⟩, (.slice ya q yc), rfl, by show (0 : Nat) ≤ 1024; omega, ⟨HLE.out, fun _ h => absurd h (by simp)⟩, ?_, HSE.out.dice.below (B := w.heap.size) (by have := Below.refl w.heap.size wr; repeat' (first | (with_reducible exact Below.refl _ _) | (with_reducible assumption) | (with_reducible refine below_drewN ?_) | (with_reducible refine Below.alloc ?_ ?_ _) | (with_reducible refine Below.drew ?_) | (with_reducible refine Below.setCell ?_ ?_ _) | (with_reducible refine Below.trans ?_ (Below.mono (by with_reducible assumption) ?_)) | go_size)) hgl, HSE.out.roll.trans (Roll.of_below (by repeat' (first | (with_reducible exact Below.refl _ _) | (with_reducible assumption) | (with_reducible refine below_drewN ?_) | (with_reducible refine Below.alloc ?_ ?_ _) | (with_reducible refine Below.drew ?_) | (with_reducible refine Below.setCell ?_ ?_ _) | (with_reducible refine Below.trans ?_ (Below.mono (by with_reducible assumption) ?_)) | go_size)) g)⟩
     exact rd_ints (ownsRow_setCell_below (ownsRow_setCell_below (ownsRow_setCell_below (ownsRow_setCell_below HS.out.own (by show w.heap.size + 1 < w.heap.size + 3; omega) _) (by show w.heap.size + 1 < w.heap.size + 3; omega) _) (by show w.heap.size + 1 < w.heap.size + 3; omega) _) (by show w.heap.size + 1 < w.heap.size + 3; omega) _)
    ·obtain rfl : gk = 0 := by omega
     have HLP : Hid (0 < (ks.map fun (x : Nat) => (x : Int)).length) := hid (by rw [List.length_map, HKL.out]; omega)
     have r0 := HSE.out.res.cell 0 rfl
     have r1 := HSE.out.res.cell 1 rfl
     have r2 := HSE.out.res.cell 2 rfl
     have r3 := HSE.out.res.cell 3 rfl
     have rf0 := HSE.out.res.frozen 0
     have rf1 := HSE.out.res.frozen 1
     have rf2 := HSE.out.res.frozen 2
     have rf3 := HSE.out.res.frozen 3
     have b0 := HSE.out.box.cell 0 rfl
     have b1 := HSE.out.box.cell 1 rfl
     have b2 := HSE.out.box.cell 2 rfl
     have b3 := HSE.out.box.cell 3 rfl
     go_wp2
     refine bodyPost_ret (v := .agg #[.int .i64 3, .int .i64 0, .string ⟨#[]⟩, (.slice ya q yc)]) (by simp [results, Tryz.results23, go_sem, r0, r1, r2, r3]) rfl ⟨⟨3, 0, ⟨#[]⟩, (ks.map fun (x : Nat) => (x : Int))⟩, (.slice ya q yc), rfl, by show (0 : Nat) ≤ 1024; omega, ⟨HLE.out, fun _ _ => HLP.out⟩, ?_, HSE.out.dice.below (B := w.heap.size) (by have := Below.refl w.heap.size wr; repeat' (first | (with_reducible exact Below.refl _ _) | (with_reducible assumption) | (with_reducible refine below_drewN ?_) | (with_reducible refine Below.alloc ?_ ?_ _) | (with_reducible refine Below.drew ?_) | (with_reducible refine Below.setCell ?_ ?_ _) | (with_reducible refine Below.trans ?_ (Below.mono (by with_reducible assumption) ?_)) | go_size)) hgl, HSE.out.roll.trans (Roll.of_below (by repeat' (first | (with_reducible exact Below.refl _ _) | (with_reducible assumption) | (with_reducible refine below_drewN ?_) | (with_reducible refine Below.alloc ?_ ?_ _) | (with_reducible refine Below.drew ?_) | (with_reducible refine Below.setCell ?_ ?_ _) | (with_reducible refine Below.trans ?_ (Below.mono (by with_reducible assumption) ?_)) | go_size)) g)⟩
     exact rd_ints (ownsRow_setCell_below (ownsRow_setCell_below (ownsRow_setCell_below (ownsRow_setCell_below HS.out.own (by show w.heap.size + 1 < w.heap.size + 3; omega) _) (by show w.heap.size + 1 < w.heap.size + 3; omega) _) (by show w.heap.size + 1 < w.heap.size + 3; omega) _) (by show w.heap.size + 1 < w.heap.size + 3; omega) _)
 ·have hO := BoxN.new w1 #[.int .i64 4, .int .i64 0, .string ⟨#[]⟩, .slice none 0 0] 56
  have HX2 := hid (HX1.out.alloc (.cells #[.int .i64 4, .int .i64 0, .string ⟨#[]⟩, .slice none 0 0] 56))
  rw [hs1'] at hO
  have HST2 : Hid (OpSt w (w1.alloc (.cells #[.int .i64 4, .int .i64 0, .string ⟨#[]⟩, .slice none 0 0] 56)) g 4 0 ⟨#[]⟩ (.slice none 0 0)) := hid ⟨HY1.out.alloc _, hO, HD1.out.alloc _, HR1.out.alloc (by omega) _⟩
  have hz2' : (w1.alloc (.cells #[.int .i64 4, .int .i64 0, .string ⟨#[]⟩, .slice none 0 0] 56)).heap.size = w.heap.size + 3 := by simp; omega
  have x2 := HX2.out.cell 2 rfl
  have y0 := HST2.out.box.cell 0 rfl
  clear hO
  go_upto_region 2 with fail
  generalize w1.alloc (.cells #[.int .i64 4, .int .i64 0, .string ⟨#[]⟩, .slice none 0 0] 56) = W2 at *
  have r0 := HST2.out.res.cell 0 rfl
  have r1 := HST2.out.res.cell 1 rfl
  have r2 := HST2.out.res.cell 2 rfl
  have r3 := HST2.out.res.cell 3 rfl
  have rf0 := HST2.out.res.frozen 0
  have rf1 := HST2.out.res.frozen 1
  have rf2 := HST2.out.res.frozen 2
  have rf3 := HST2.out.res.frozen 3
  have b0 := HST2.out.box.cell 0 rfl
  have b1 := HST2.out.box.cell 1 rfl
  have b2 := HST2.out.box.cell 2 rfl
  have b3 := HST2.out.box.cell 3 rfl
  go_wp2
  refine bodyPost_ret (v := .agg #[.int .i64 4, .int .i64 0, .string ⟨#[]⟩, (.slice none 0 0)]) (by simp [results, Tryz.results23, go_sem, r0, r1, r2, r3]) rfl ⟨⟨4, 0, ⟨#[]⟩, []⟩, (.slice none 0 0), rfl, by show (0 : Nat) ≤ 1024; omega, ⟨by show (0 : Nat) ≤ 3; omega, fun h => absurd h (by simp)⟩, Rd.nil, HST2.out.dice.below (B := w.heap.size) (by have := Below.refl w.heap.size W2; repeat' (first | (with_reducible exact Below.refl _ _) | (with_reducible assumption) | (with_reducible refine below_drewN ?_) | (with_reducible refine Below.alloc ?_ ?_ _) | (with_reducible refine Below.drew ?_) | (with_reducible refine Below.setCell ?_ ?_ _) | (with_reducible refine Below.trans ?_ (Below.mono (by with_reducible assumption) ?_)) | go_size)) hgl, HST2.out.roll.trans (Roll.of_below (by repeat' (first | (with_reducible exact Below.refl _ _) | (with_reducible assumption) | (with_reducible refine below_drewN ?_) | (with_reducible refine Below.alloc ?_ ?_ _) | (with_reducible refine Below.drew ?_) | (with_reducible refine Below.setCell ?_ ?_ _) | (with_reducible refine Below.trans ?_ (Below.mono (by with_reducible assumption) ?_)) | go_size)) g)⟩
 ·have hO := BoxN.new w1 #[.int .i64 5, .int .i64 0, .string ⟨#[]⟩, .slice none 0 0] 56
  have HX2 := hid (HX1.out.alloc (.cells #[.int .i64 5, .int .i64 0, .string ⟨#[]⟩, .slice none 0 0] 56))
  rw [hs1'] at hO
  have HST2 : Hid (OpSt w (w1.alloc (.cells #[.int .i64 5, .int .i64 0, .string ⟨#[]⟩, .slice none 0 0] 56)) g 5 0 ⟨#[]⟩ (.slice none 0 0)) := hid ⟨HY1.out.alloc _, hO, HD1.out.alloc _, HR1.out.alloc (by omega) _⟩
  have hz2' : (w1.alloc (.cells #[.int .i64 5, .int .i64 0, .string ⟨#[]⟩, .slice none 0 0] 56)).heap.size = w.heap.size + 3 := by simp; omega
  have x2 := HX2.out.cell 2 rfl
  have y0 := HST2.out.box.cell 0 rfl
  clear hO
  go_wp2_with fail
  generalize w1.alloc (.cells #[.int .i64 5, .int .i64 0, .string ⟨#[]⟩, .slice none 0 0] 56) = W2 at *
  clear x2 y0
  with_reducible refine (kit_Next g _ _ HST2.out.dice (by omega) (by omega)).mono ?_
  rintro e w3 ⟨m, rfl, hm, hd3, hr3, hs3⟩
  have HST3 := hid (HST2.out.rolled hr3 hd3 hgl)
  have HX3 := hid (HX2.out.roll hr3 (by omega) (by omega))
  have hs3' : w3.heap.size = w.heap.size + 3 := by omega
  have z1 := HST3.out.box.cell 1 rfl
  have zf1 := HST3.out.box.frozen 1
  have HST4 := hid (HST3.out.put hgl 1 (.int .i64 (m : Int)) rfl)
  clear hd3 hr3 hs3
  skip
  have r0 := HST4.out.res.cell 0 rfl
  have r1 := HST4.out.res.cell 1 rfl
  have r2 := HST4.out.res.cell 2 rfl
  have r3 := HST4.out.res.cell 3 rfl
  have rf0 := HST4.out.res.frozen 0
  have rf1 := HST4.out.res.frozen 1
  have rf2 := HST4.out.res.frozen 2
  have rf3 := HST4.out.res.frozen 3
  have b0 := HST4.out.box.cell 0 rfl
  have b1 := HST4.out.box.cell 1 rfl
  have b2 := HST4.out.box.cell 2 rfl
  have b3 := HST4.out.box.cell 3 rfl
  go_wp2
  refine bodyPost_ret (v := .agg #[.int .i64 5, .int .i64 (m : Int), .string ⟨#[]⟩, (.slice none 0 0)]) (by simp [results, Tryz.results23, go_sem, r0, r1, r2, r3]) rfl ⟨⟨5, (m : Int), ⟨#[]⟩, []⟩, (.slice none 0 0), rfl, by show (0 : Nat) ≤ 1024; omega, ⟨by show (0 : Nat) ≤ 3; omega, fun h => absurd h (by simp)⟩, Rd.nil, HST4.out.dice.below (B := w.heap.size) (by have := Below.refl w.heap.size (w3.setCell ⟨w.heap.size + 2, 1, none⟩ (.int .i64 (m : Int))); repeat' (first | (with_reducible exact Below.refl _ _) | (with_reducible assumption) | (with_reducible refine below_drewN ?_) | (with_reducible refine Below.alloc ?_ ?_ _) | (with_reducible refine Below.drew ?_) | (with_reducible refine Below.setCell ?_ ?_ _) | (with_reducible refine Below.trans ?_ (Below.mono (by with_reducible assumption) ?_)) | go_size)) hgl, HST4.out.roll.trans (Roll.of_below (by repeat' (first | (with_reducible exact Below.refl _ _) | (with_reducible assumption) | (with_reducible refine below_drewN ?_) | (with_reducible refine Below.alloc ?_ ?_ _) | (with_reducible refine Below.drew ?_) | (with_reducible refine Below.setCell ?_ ?_ _) | (with_reducible refine Below.trans ?_ (Below.mono (by with_reducible assumption) ?_)) | go_size)) g)⟩
end Go.Proofs.YthblaeleogdfpaaGreatDoor
