/- Contracts of overlap.asked, overlap.Top. Contracts of overlap.numbers, overlap.ValidCertificate. Contracts of overlap.ValidCertificate, overlap.Count. -/
import Derived.Deep.Cut
import Derived.Test.YtikiimlmoalbcaaGreatDoorOOtbi
import Derived.Deep.RegionHeld3
import Derived.Test.YtikiimlmoalbcaaGreatDoorOOtan
set_option linter.unusedVariables false
set_option linter.unusedSimpArgs false
namespace Go.Proofs.YtikiimlmoalbcaaGreatDoor
open Go.RowKit
set_option maxRecDepth 100000 in
set_option maxHeartbeats 2000000 in
theorem over_asked {w : World} {cs : List Cv} {q : List ByteArray} {ev vv lv qv : Value} (hin : SrcIn w cs q ev vv lv qv) (k : Nat) (hk : k ≤ 1024) :
  Calls Tryz.prog 76 #[.agg #[ev, vv, lv], qv, .int .i64 (k : Int)] w (Ret w (.int .i64 0)) := by
 have HPV := hid (fun W (hW : Below w.heap.size w W) => posting_Valid cs hin.ok ev vv lv W.heap.size W (hin.later hW).rd (Nat.le_refl _))
 have HIS := hid (fun W (hW : Below w.heap.size w W) => text_IsSet qv q W.heap.size W (hin.later hW).qrd)
 have HSET : Hid (isSet q = true) := hid hin.asc.isSet
 obtain ⟨ea, ec, rfl, -⟩ := id hin.rd.ents
 obtain ⟨va, vc, rfl, -⟩ := id hin.rd.vals
 obtain ⟨lf, ⟨la, lc, rfl, -⟩, -⟩ := id hin.rd.lists
 obtain ⟨qa, qc, rfl, -⟩ := id hin.qrd
 clear hin
 have HB0 := hid ((Below.refl w.heap.size w).alloc (Nat.le_refl _) (.cells #[.slice ea (indexOf cs).ents.length ec, .slice va (indexOf cs).vals.length vc, .slice la (indexOf cs).lists.length lc] 30))
 have hX := BoxN.new w #[.slice ea (indexOf cs).ents.length ec, .slice va (indexOf cs).vals.length vc, .slice la (indexOf cs).lists.length lc] 30
 have x0 := hX.cell 0 rfl
 have x1 := hX.cell 1 rfl
 have x2 := hX.cell 2 rfl
 clear hX
 have hk0 : decide (k < 0) = false := by simp
 have hk1 : decide (1024 < k) = false := decide_eq_false (by omega)
 have hki : (k : Int) ≤ 1024 := by omega
 have hkj : (0 : Int) ≤ (k : Int) := by omega
 go_enter Tryz.func76, Tryz.ntmps76
 go_wp2_with fail
 with_reducible refine (HPV.out _ HB0.out).mono ?_
 rintro e w1 ⟨rfl, hb1⟩
 have HB1 := hid (HB0.out.trans (hb1.mono HB0.out.size))
 clear hb1 x0 x1 x2
 go_wp2_with fail
 with_reducible refine (HIS.out _ HB1.out).mono ?_
 rintro e w2 hq2
 have hr := hq2.ret
 rw [HSET.out] at hr
 obtain ⟨rfl, hb2⟩ := hr
 have HB2 := hid (HB1.out.trans (hb2.mono HB1.out.size))
 clear hb2 hq2
 go_wp2
 go_ret
 exact ⟨rfl, HB2.out⟩
def den1 (_ _ : Nat) : Nat := 1
theorem sco_over {Q : Nat} (hQ : Q ≤ 1048576) (w : World) : ScoOk w (.func (.func 77) #[] #[]) Q den1 :=
 ⟨overlap_sco Q, fun n s _ _ _ _ => by show (1 : Nat) < 4294967296; omega, fun n s W hn _ _ _ => Fr.pos_over n 1 s W (fun _ => by omega) (fun V _ => Fr.over_score n s V (by omega))⟩
def OTopP (w : World) (cs : List Cv) (q : List ByteArray) (k : Nat) (e : Ending) (w' : World) : Prop :=
  ∃ (va : Option Addr) (vc : Nat) (H : List Nat) (ds : List Mq) (la ca : Option Addr) (ln lc cn cc : Nat), e = .returned (.tuple #[.slice va ds.length vc, .agg #[.slice la ln lc, .slice ca cn cc], .int .i64 0]) ∧ HtsRd w.heap.size w' (.slice va ds.length vc) den1 cs (comC cs q) H ds ∧ (∀ S, HitsOk den1 cs q S → H = S.take k) ∧
    CertE (k = 0 ∧ ln = 0 ∧ lc = 0 ∧ cn = 0 ∧ cc = 0) cs q (fun vs r cols => GoodT den1 cs vs k r cols) w.heap.size w' (.slice la ln lc) (.slice ca cn cc) ∧ Below w.heap.size w w'
set_option maxRecDepth 100000 in
set_option maxHeartbeats 8000000 in
theorem over_Top {w : World} {cs : List Cv} {q : List ByteArray} {ev vv lv qv : Value} (hin : SrcIn w cs q ev vv lv qv) (k : Nat) (hk : k ≤ 1024) (ho : Fr.OneAt w) :
  Calls Tryz.prog 28 #[.agg #[ev, vv, lv], qv, .int .i64 (k : Int)] w (OTopP w cs q k) := by
 have hQ : q.length ≤ 1048576 := hin.ql
 obtain ⟨ea, ec, rfl, -⟩ := id hin.rd.ents
 obtain ⟨va0, vc0, rfl, -⟩ := id hin.rd.vals
 obtain ⟨lf, ⟨la0, lc0, rfl, -⟩, -⟩ := id hin.rd.lists
 obtain ⟨qa, qc, rfl, -⟩ := id hin.qrd
 have HAS := hid (fun W (hW : Below w.heap.size w W) => over_asked (hin.later hW) k hk)
 have HTP := hid (fun W (hW : Below w.heap.size w W) => bnd_Top (hin.later hW) (sco_over hQ W) k (by omega) (ho.below hW))
 clear hin ho
 have hB0 : Below w.heap.size w ((w.alloc (.cells #[.slice ea (indexOf cs).ents.length ec, .slice va0 (indexOf cs).vals.length vc0, .slice la0 (indexOf cs).lists.length lc0] 30)).alloc (.cells #[.slice none 0 0, .slice none 0 0] 36)) := ((Below.refl w.heap.size w).alloc (Nat.le_refl _) _).alloc (by rw [World.size_alloc]; omega) _
 have hX0 := (BoxN.new w #[.slice ea (indexOf cs).ents.length ec, .slice va0 (indexOf cs).vals.length vc0, .slice la0 (indexOf cs).lists.length lc0] 30).alloc (.cells #[.slice none 0 0, .slice none 0 0] 36)
 have hX1 := BoxN.new (w.alloc (.cells #[.slice ea (indexOf cs).ents.length ec, .slice va0 (indexOf cs).vals.length vc0, .slice la0 (indexOf cs).lists.length lc0] 30)) #[.slice none 0 0, .slice none 0 0] 36
 rw [World.size_alloc] at hX1
 obtain ⟨W0, hW0⟩ : ∃ V, V = ((w.alloc (.cells #[.slice ea (indexOf cs).ents.length ec, .slice va0 (indexOf cs).vals.length vc0, .slice la0 (indexOf cs).lists.length lc0] 30)).alloc (.cells #[.slice none 0 0, .slice none 0 0] 36)) := ⟨_, rfl⟩
 rw [← hW0] at hB0 hX0 hX1
 have hz0 : w.heap.size + 1 < W0.heap.size := hX1.lt
 have HB0 := hid hB0
 have HX0 := hid hX0
 have HX1 := hid hX1
 have x0 := hX0.cell 0 rfl
 have x1 := hX0.cell 1 rfl
 have x2 := hX0.cell 2 rfl
 clear hB0 hX0 hX1
 go_enter Tryz.func28, Tryz.ntmps28
 go_upto_region 1 with fail
 rw [← hW0]
 clear hW0
 go_wp2_with fail
 with_reducible refine (HAS.out W0 HB0.out).mono ?_
 rintro e w2 ⟨rfl, hb2⟩
 have HB2 := hid (HB0.out.trans (hb2.mono (by omega)))
 have hX2 := HX0.out.below hb2 HX0.out.lt
 have HY2 := hid (HX1.out.below hb2 HX1.out.lt)
 clear x0 x1 x2
 have x0 := hX2.cell 0 rfl
 have x1 := hX2.cell 1 rfl
 have x2 := hX2.cell 2 rfl
 have hz2 := hb2.size
 clear hX2 hb2
 go_wp2_with fail
 with_reducible refine (HTP.out w2 HB2.out).mono ?_
 rintro e w3 ⟨va, vc, HL, ds, la, ca, ln, lc, cn, cc, rfl, hrd, hall, hcert, hb3⟩
 have HB3 := hid (HB2.out.trans (hb3.mono HB2.out.size))
 have HY3 := hid ((HY2.out.below hb3 HY2.out.lt).alloc (.cells #[.slice la ln lc, .slice ca cn cc] 36))
 have HC3 := hid (BoxN.new w3 #[.slice la ln lc, .slice ca cn cc] 36)
 have HB4 := hid (HB3.out.alloc HB3.out.size (.cells #[.slice la ln lc, .slice ca cn cc] 36))
 have HR4 := hid (hrd.later ((Below.refl w3.heap.size w3).alloc (Nat.le_refl _) (.cells #[.slice la ln lc, .slice ca cn cc] 36)))
 have HE4 := hid (CertE.later (show CertE (k = 0 ∧ ln = 0 ∧ lc = 0 ∧ cn = 0 ∧ cc = 0) cs q (fun vs r cols => GoodT den1 cs vs k r cols) w2.heap.size w3 (.slice la ln lc) (.slice ca cn cc) from hcert) ((Below.refl w3.heap.size w3).alloc (Nat.le_refl _) (.cells #[.slice la ln lc, .slice ca cn cc] 36)))
 have HA := hid hall
 clear hrd hall hcert hb3 x0 x1 x2
 go_upto_region 5 with fail
 obtain ⟨w4, hw4⟩ : ∃ V, V = w3.alloc (.cells #[.slice la ln lc, .slice ca cn cc] 36) := ⟨_, rfl⟩
 rw [← hw4] at HY3 HC3 HB4 HR4 HE4 ⊢
 clear hw4
 have y0 := HY3.out.cell 0 rfl
 have y1 := HY3.out.cell 1 rfl
 have f0 := HY3.out.frozen 0
 have f1 := HY3.out.frozen 1
 have v0 := HC3.out.cell 0 rfl
 have v1 := HC3.out.cell 1 rfl
 have HRES : Hid (OTopP w cs q k (.returned (.tuple #[.slice va ds.length vc, .agg #[.slice la ln lc, .slice ca cn cc], .int .i64 0])) (((w4.setCell ⟨w.heap.size + 1, 0, none⟩ (.slice la ln lc)).setCell ⟨w.heap.size + 1, 1, none⟩ (.slice ca cn cc)).drew)) := hid
  ⟨va, vc, HL, ds, la, ca, ln, lc, cn, cc, rfl, (((HR4.out.set (x := ⟨w.heap.size + 1, 0, none⟩) (show w.heap.size + 1 < w2.heap.size by omega) _).set (x := ⟨w.heap.size + 1, 1, none⟩) (show w.heap.size + 1 < w2.heap.size by omega) _).later ((Below.refl _ _).drew)).base (by omega), HA.out, (((HE4.out.set (x := ⟨w.heap.size + 1, 0, none⟩) (show w.heap.size + 1 < w2.heap.size by omega) _).set (x := ⟨w.heap.size + 1, 1, none⟩) (show w.heap.size + 1 < w2.heap.size by omega) _).later ((Below.refl _ _).drew)).base (by omega), ((HB4.out.setCell (p := ⟨w.heap.size + 1, 0, none⟩) (show w.heap.size ≤ w.heap.size + 1 by omega) _).setCell (p := ⟨w.heap.size + 1, 1, none⟩) (show w.heap.size ≤ w.heap.size + 1 by omega) _).drew⟩
 have HZ : Hid (BoxN (((w4.setCell ⟨w.heap.size + 1, 0, none⟩ (.slice la ln lc)).setCell ⟨w.heap.size + 1, 1, none⟩ (.slice ca cn cc)).drew) (w.heap.size + 1) 36 #[.slice la ln lc, .slice ca cn cc]) := hid ((HY3.out.set 0 (.slice la ln lc)).set 1 (.slice ca cn cc))
 go_region
 have z0 := HZ.out.cell 0 rfl
 have z1 := HZ.out.cell 1 rfl
 clear y0 y1 f0 f1 v0 v1
 go_wp2
 refine bodyPost_ret (v := .tuple #[.slice va ds.length vc, .agg #[.slice la ln lc, .slice ca cn cc], .int .i64 0]) (by simp [results, Tryz.results28, go_sem, z0, z1]) rfl HRES.out
end Go.Proofs.YtikiimlmoalbcaaGreatDoor

namespace Go.Proofs.YtikiimlmoalbcaaGreatDoor
open Go.RowKit
def InZ (w : World) (S : Nat → Prop) (v : Value) (zs : List Int) : Prop := InK 1 w S v zs.length (fun i _ => .int .i64 (zs.getD i 0))
theorem InN.z {w : World} {S : Nat → Prop} {v : Value} {xs : List Nat} (h : InN w S v xs) : InZ w S v (xs.map fun x : Nat => (x : Int)) := by
 unfold InZ
 rw [List.length_map]
 refine InK.congr h fun i hi j hj => ?_
 simp [natF, List.getD, hi]
theorem InZ.keep {w w' : World} {S : Nat → Prop} {v : Value} {zs : List Int} (h : InZ w S v zs) (hk : ∀ p : Addr, S p.block → w'.cell? p = w.cell? p) : InZ w' S v zs := InK.keep h hk
theorem InZ.at {w : World} {S : Nat → Prop} {v : Value} {zs : List Int} (h : InZ w S v zs) {i : Nat} (hi : i < zs.length) : ∃ b o c, v = .slice (some ⟨b, o, none⟩) zs.length c ∧ S b ∧ ∀ j, j < zs.length → w.cell? ⟨b, o + j, none⟩ = some (.int .i64 (zs.getD j 0)) := by
 obtain ⟨a, c, rfl, -, -, hr⟩ := h
 obtain ⟨b, o, rfl, hb, hc⟩ := hr (by omega)
 exact ⟨b, o, c, rfl, hb, fun j hj => by have h := hc j hj 0 (by omega); simpa using h⟩
def numC (zs : List Int) (n : Int) (i : Nat) : Bool := decide (0 ≤ zs.getD i 0) && (decide (zs.getD i 0 < n) && (decide (i = 0) || decide (zs.getD (i - 1) 0 < zs.getD i 0)))
def numB (zs : List Int) (n : Int) : Bool := (List.range zs.length).all (numC zs n)
theorem num_no {zs : List Int} {n : Int} {i : Nat} (hi : i < zs.length) (h : numC zs n i = false) : numB zs n = false := by
 unfold numB
 rw [List.all_eq_false]
 exact ⟨i, List.mem_range.2 hi, by rw [h]; simp⟩
theorem num_yes {zs : List Int} {n : Int} (h : ∀ i, i < zs.length → numC zs n i = true) : numB zs n = true := by
 unfold numB
 rw [List.all_eq_true]
 exact fun i hi => h i (List.mem_range.1 hi)
set_option maxRecDepth 100000 in
set_option maxHeartbeats 2000000 in
theorem over_numbers (v : Value) (zs : List Int) (n : Int) (B : Nat) (w : World) (hv : InZ w (· < B) v zs) (hB : B ≤ w.heap.size) (hl : zs.length ≤ 1099511627776) :
  Calls Tryz.prog 65 #[v, .int .i64 n] w (Ret w (.bool (numB zs n))) := by
 have HAT := hid (fun W i (hW : Below w.heap.size w W) (hi : i < zs.length) => (hv.keep (w' := W) fun p (hp : p.block < B) => hW.cell (p := p) (by omega)).at hi)
 obtain ⟨a, c, rfl, -⟩ := hv
 have HNO := hid (fun i hi h => @num_no zs n i hi h)
 have HYE := hid (fun h => @num_yes zs n h)
 have HC : Hid (∀ i, numC zs n i = (decide (0 ≤ zs.getD i 0) && (decide (zs.getD i 0 < n) && (decide (i = 0) || decide (zs.getD (i - 1) 0 < zs.getD i 0))))) := hid (fun _ => rfl)
 generalize numB zs n = R at *
 go_enter Tryz.func65, Tryz.ntmps65
 go_wp2_with fail
 go_loopg [9, 5, 6] zs.length (fun K i u5 u6 wr => ∃ p : Nat, i = .int .i64 (p : Int) ∧ p + K = zs.length ∧ Hid (Below w.heap.size w wr) ∧ Hid (∀ j, j < p → numC zs n j = true))
 case atStart => exact ⟨0, rfl, by omega, hid (Below.refl _ _), hid (fun j hj => absurd hj (by omega))⟩
 case round =>
  obtain ⟨p, rfl, hp0, HB, HALL⟩ := hrel
  by_cases hp : 0 < gk
  ·have hpl : p < zs.length := by omega
   have hpi : (p : Int) < (zs.length : Int) := by omega
   obtain ⟨b, o, cc, e, -, hc⟩ := HAT.out wr p HB.out hpl
   obtain ⟨rfl, -, rfl⟩ := Value.slice.inj e
   have k0 := hc p hpl
   have HCP := hid (HC.out p)
   have HSTEP : Hid (numC zs n p = true → ∀ j, j < p + 1 → numC zs n j = true) := hid (fun h j hj => by
    rcases Nat.lt_or_ge j p with h1 | h1
    ·exact HALL.out j h1
    ·obtain rfl : j = p := by omega
     exact h)
   have HNP := hid (fun h => HNO.out p hpl h)
   by_cases h0 : 0 ≤ zs.getD p 0
   ·by_cases h1 : zs.getD p 0 < n
    ·by_cases hpz : p = 0
     ·have HY := hid (HSTEP.out (by rw [HCP.out, decide_eq_true h0, decide_eq_true h1, decide_eq_true hpz]; rfl))
      generalize zs.getD p 0 = x at *
      have b0 : ¬ x < 0 := by omega
      have b1 : ¬ n ≤ x := by omega
      have b2 : ¬ (0 : Int) < (p : Int) := by omega
      clear hc e h0 h1 hpz
      go_wp2_with fail
      go_roundg (gk - 1)
      case rel => exact ⟨p + 1, by go_num, by omega, HB, HY⟩
      case measure => omega
     ·have k1 := hc (p - 1) (by omega)
      obtain ⟨pp, hpp⟩ : ∃ pp, pp = p - 1 := ⟨_, rfl⟩
      have hkw : IntKind.i64.wrap ((p : Int) - 1) = (pp : Int) := by rw [IntKind.wrap_i64]; omega
      have hppi : (pp : Int) < (zs.length : Int) := by omega
      rw [← hpp] at k1
      have HPP := hid hpp
      clear hpp
      by_cases h2 : zs.getD pp 0 < zs.getD p 0
      ·have HY := hid (HSTEP.out (by rw [HCP.out, decide_eq_true h0, decide_eq_true h1, ← HPP.out, decide_eq_true h2]; simp))
       generalize zs.getD p 0 = x at *
       generalize zs.getD pp 0 = y at *
       have b0 : ¬ x < 0 := by omega
       have b1 : ¬ n ≤ x := by omega
       have b2 : (0 : Int) < (p : Int) := by omega
       have b3 : ¬ x ≤ y := by omega
       clear hc e h0 h1 h2 hpz
       go_wp2_with fail
       go_roundg (gk - 1)
       case rel => exact ⟨p + 1, by go_num, by omega, HB, HY⟩
       case measure => omega
      ·have HY := hid (HNP.out (by rw [HCP.out, decide_eq_true h0, decide_eq_true h1, ← HPP.out, decide_eq_false h2, decide_eq_false hpz]; rfl))
       generalize zs.getD p 0 = x at *
       generalize zs.getD pp 0 = y at *
       have b0 : ¬ x < 0 := by omega
       have b1 : ¬ n ≤ x := by omega
       have b2 : (0 : Int) < (p : Int) := by omega
       have b3 : x ≤ y := by omega
       clear hc e h0 h1 h2 hpz
       go_wp2
       go_ret
       exact ⟨by rw [HY.out]; rfl, HB.out⟩
    ·have HY := hid (HNP.out (by rw [HCP.out, decide_eq_true h0, decide_eq_false h1]; rfl))
     generalize zs.getD p 0 = x at *
     have b0 : ¬ x < 0 := by omega
     have b1 : n ≤ x := by omega
     clear hc e h0 h1
     go_wp2
     go_ret
     exact ⟨by rw [HY.out]; rfl, HB.out⟩
   ·have HY := hid (HNP.out (by rw [HCP.out, decide_eq_false h0]; rfl))
    generalize zs.getD p 0 = x at *
    have b0 : x < 0 := by omega
    clear hc e h0
    go_wp2
    go_ret
    exact ⟨by rw [HY.out]; rfl, HB.out⟩
  ·obtain rfl : gk = 0 := by omega
   obtain rfl : p = zs.length := by omega
   have HY := hid (HYE.out HALL.out)
   go_wp2
   go_ret
   exact ⟨by rw [HY.out]; rfl, HB.out⟩
end Go.Proofs.YtikiimlmoalbcaaGreatDoor

namespace Go.Proofs.YtikiimlmoalbcaaGreatDoor
open Go.RowKit
theorem set_asc {q : List ByteArray} (h : Asc q) : setOfL q = q := asc_unique (setOfL_asc q) h fun x => setOfL_mem_iff q x
theorem num_ok {L : List Nat} {n : Nat} (h1 : L.Pairwise (· < ·)) (h2 : ∀ x ∈ L, x < n) : numB (L.map fun x : Nat => (x : Int)) (n : Int) = true := by
 refine num_yes fun i hi => ?_
 rw [List.length_map] at hi
 have e : ∀ j, j < L.length → (L.map fun x : Nat => (x : Int)).getD j 0 = (L.getD j 0 : Nat) := fun j hj => by simp [List.getD, hj]
 unfold numC
 have h3 := h2 _ (getD_mem hi 0)
 rw [e i hi, decide_eq_true (by omega : (0 : Int) ≤ (L.getD i 0 : Nat)), decide_eq_true (by omega : ((L.getD i 0 : Nat) : Int) < (n : Int)), Bool.true_and, Bool.true_and, Bool.or_eq_true]
 by_cases h0 : i = 0
 ·exact .inl (decide_eq_true h0)
 ·refine .inr ?_
  rw [e (i - 1) (by omega)]
  have h4 := List.pairwise_iff_getElem.1 h1 (i - 1) i (by omega) hi (by omega)
  rw [List.getElem_eq_getD 0, List.getElem_eq_getD 0] at h4
  exact decide_eq_true (by omega)
set_option maxRecDepth 100000 in
set_option maxHeartbeats 2000000 in
theorem over_valid (cs : List Cv) (ev vv lv : Value) (hx1 : ∃ a c, ev = .slice a cs.length c) (hx2 : ∃ a c, vv = .slice a (setOfL (allOf cs)).length c) (hx3 : ∃ a n c, lv = .slice a n c) (zlv zcv : Value) (zs ks : List Int) (w : World) (h1 : InZ w (· < w.heap.size) zlv zs) (h2 : InZ w (· < w.heap.size) zcv ks) (hl1 : zs.length ≤ 1099511627776) (hl2 : ks.length ≤ 1099511627776) :
  Calls Tryz.prog 21 #[.agg #[ev, vv, lv], .agg #[zlv, zcv]] w (Ret w (.bool (numB zs ((setOfL (allOf cs)).length : Int) && numB ks (cs.length : Int)))) := by
 have HN1 := hid (fun W (hW : Below w.heap.size w W) => over_numbers zlv zs ((setOfL (allOf cs)).length : Int) w.heap.size W (h1.keep fun p hp => hW.cell (p := p) hp) hW.size hl1)
 have HN2 := hid (fun W (hW : Below w.heap.size w W) => over_numbers zcv ks (cs.length : Int) w.heap.size W (h2.keep fun p hp => hW.cell (p := p) hp) hW.size hl2)
 obtain ⟨ea, ec, rfl⟩ := hx1
 obtain ⟨va, vc, rfl⟩ := hx2
 obtain ⟨la, ln, lc, rfl⟩ := hx3
 obtain ⟨za, zc, rfl, -⟩ := h1
 obtain ⟨ka, kc, rfl, -⟩ := h2
 generalize numB zs ((setOfL (allOf cs)).length : Int) = r1 at *
 generalize numB ks (cs.length : Int) = r2 at *
 generalize cs.length = n1 at *
 generalize (setOfL (allOf cs)).length = n2 at *
 generalize zs.length = n3 at *
 generalize ks.length = n4 at *
 have hx0 := (BoxN.new w #[.slice ea n1 ec, .slice va n2 vc, .slice la ln lc] 30).alloc (.cells #[.slice za n3 zc, .slice ka n4 kc] 36)
 have hx1 := BoxN.new (w.alloc (.cells #[.slice ea n1 ec, .slice va n2 vc, .slice la ln lc] 30)) #[.slice za n3 zc, .slice ka n4 kc] 36
 rw [World.size_alloc] at hx1
 have HB0 := hid (((Below.refl w.heap.size w).alloc (Nat.le_refl _) (.cells #[.slice ea n1 ec, .slice va n2 vc, .slice la ln lc] 30)).alloc (by simp) (.cells #[.slice za n3 zc, .slice ka n4 kc] 36))
 go_enter Tryz.func21, Tryz.ntmps21
 go_upto_region 1 with fail
 generalize (w.alloc (.cells #[.slice ea n1 ec, .slice va n2 vc, .slice la ln lc] 30)).alloc (.cells #[.slice za n3 zc, .slice ka n4 kc] 36) = W0 at *
 have HX0 := hid hx0
 have HX1 := hid hx1
 have x0 := hx0.cell 0 rfl
 have x1 := hx0.cell 1 rfl
 have y0 := hx1.cell 0 rfl
 have y1 := hx1.cell 1 rfl
 clear hx0 hx1
 go_wp2_with fail
 with_reducible refine (HN1.out _ HB0.out).mono ?_
 rintro e w1 ⟨rfl, hb1⟩
 have HB1 := hid (HB0.out.trans (hb1.mono HB0.out.size))
 have hx0 := HX0.out.below hb1 HX0.out.lt
 have hx1 := HX1.out.below hb1 HX1.out.lt
 clear x0 x1 y0 y1 hb1
 have x0 := hx0.cell 0 rfl
 have x1 := hx0.cell 1 rfl
 have y0 := hx1.cell 0 rfl
 have y1 := hx1.cell 1 rfl
 clear hx0 hx1
 cases r1
 ·go_wp2
  go_ret
  exact ⟨rfl, HB1.out⟩
 ·go_wp2_with fail
  with_reducible refine (HN2.out _ HB1.out).mono ?_
  rintro e w2 ⟨rfl, hb2⟩
  have HB2 := hid (HB1.out.trans (hb2.mono HB1.out.size))
  clear hb2
  go_wp2
  go_ret
  exact ⟨rfl, HB2.out⟩
set_option maxRecDepth 100000 in
set_option maxHeartbeats 4000000 in
theorem over_Count {w : World} {cs : List Cv} {q : List ByteArray} {ev vv lv qv : Value} (hin : SrcIn w cs q ev vv lv qv) (c : Nat) (hc : c < cs.length) :
  Calls Tryz.prog 23 #[.agg #[ev, vv, lv], qv, .int .i64 (c : Int)] w (Ret w (.int .i64 ((comC cs q c : Nat) : Int))) := by
 obtain ⟨ea, ec, rfl, -⟩ := id hin.rd.ents
 obtain ⟨va, vc, rfl, -⟩ := id hin.rd.vals
 obtain ⟨lf, ⟨la, lc, rfl, -⟩, -⟩ := id hin.rd.lists
 have hql := hin.ql
 have HST := hid (fun W (hW : Below w.heap.size w W) => by
  have h := text_Set qv q W.heap.size W (hin.later hW).qrd (Nat.le_refl _) (by omega)
  rw [set_asc hin.asc] at h
  exact h)
 have HCO := hid (fun W (hW : Below w.heap.size w W) qv' (hq : RdS W W.heap.size qv' q) => src_common cs hin.ok q _ _ _ qv' W.heap.size c W hc (hin.later hW).rd (Nat.le_refl _) hq hin.asc (by omega))
 generalize (indexOf cs).ents.length = n1 at *
 generalize (indexOf cs).vals.length = n2 at *
 generalize (indexOf cs).lists.length = n3 at *
 obtain ⟨qa, qc, rfl, -⟩ := hin.qrd
 clear hin hc
 have hx0 := BoxN.new w #[.slice ea n1 ec, .slice va n2 vc, .slice la n3 lc] 30
 have HB0 := hid ((Below.refl w.heap.size w).alloc (Nat.le_refl _) (.cells #[.slice ea n1 ec, .slice va n2 vc, .slice la n3 lc] 30))
 go_enter Tryz.func23, Tryz.ntmps23
 go_upto_region 1 with fail
 generalize w.alloc (.cells #[.slice ea n1 ec, .slice va n2 vc, .slice la n3 lc] 30) = W0 at *
 have HG := hid (fun W (hW : Below W0.heap.size W0 W) => (by
  have h1 := hx0.below hW hx0.lt
  exact ⟨h1.cell 0 rfl, h1.cell 1 rfl, h1.cell 2 rfl⟩ : W.cell? ⟨w.heap.size, 0, none⟩ = some (.slice ea n1 ec) ∧ W.cell? ⟨w.heap.size, 1, none⟩ = some (.slice va n2 vc) ∧ W.cell? ⟨w.heap.size, 2, none⟩ = some (.slice la n3 lc)))
 clear hx0
 have HC := hid (show Below W0.heap.size W0 W0.drew by have h1 := Below.refl W0.heap.size W0; repeat' (first | (with_reducible exact Below.refl _ _) | (with_reducible assumption) | (with_reducible refine below_drewN ?_) | (with_reducible refine Below.alloc ?_ ?_ _) | (with_reducible refine Below.drew ?_) | (with_reducible refine Below.setCell ?_ ?_ _) | (with_reducible refine Below.trans ?_ (Below.mono (by with_reducible assumption) ?_)) | go_size))
 go_region_held3 (fun W => W.cell? ⟨w.heap.size, 0, none⟩ = some (.slice ea n1 ec) ∧ W.cell? ⟨w.heap.size, 1, none⟩ = some (.slice va n2 vc) ∧ W.cell? ⟨w.heap.size, 2, none⟩ = some (.slice la n3 lc))
  (first | exact HG.out _ HC.out | go_keep)
  (first
   | (go_at_call 67; go_must ((with_reducible refine (HST.out _ (Fr.belowT HB0.out HC.out)).mono ?_); rintro e w5 ⟨sa, sc, rfl, hown, hb5⟩; have HR5 := hid (rdS_of_own hown); have HC := hid (Fr.belowT HC.out hb5); clear hown hb5))
   | (go_at_call 66; go_must ((with_reducible refine (HCO.out _ (Fr.belowT HB0.out HC.out) _ HR5.out).mono ?_); rintro e w6 ⟨rfl, hb6⟩; have HC := hid (Fr.belowT HC.out hb6); clear hb6)))
 all_goals
  go_wp2
  go_ret
  exact ⟨rfl, by have h1 := Fr.belowT HB0.out HC.out; have h2 := h1.size; repeat' (first | (with_reducible exact Below.refl _ _) | (with_reducible assumption) | (with_reducible refine below_drewN ?_) | (with_reducible refine Below.alloc ?_ ?_ _) | (with_reducible refine Below.drew ?_) | (with_reducible refine Below.setCell ?_ ?_ _) | (with_reducible refine Below.trans ?_ (Below.mono (by with_reducible assumption) ?_)) | go_size)⟩
end Go.Proofs.YtikiimlmoalbcaaGreatDoor
