/- Contracts of the reference's checks of cells, tables and lists of tables, at any contents. -/
import Derived.Test.YthblaeleogdfpaaGreatDoorCToaf
import Derived.Test.YthblaeleogdfpaaGreatDoorCToag
set_option linter.unusedVariables false
set_option linter.unusedSimpArgs false
namespace Go.Proofs.YthblaeleogdfpaaGreatDoor
open Go.RowKit
def fineB (s : ByteArray) : Bool := decide (s.size ≤ 1024) && Lib.validD s.data.toList
def cellB (c : Cl) : Bool := fineB c.text && (!c.null || decide (c.text = ⟨#[]⟩))
def colB (n : Nat) (x : Co) : Bool := fineB x.name && (decide (n ≤ 4096) && (decide (x.cells.length = n) && x.cells.all cellB))
def tabB (t : Ta) : Bool := decide (0 ≤ t.id ∧ t.id ≤ 1073741824) && (fineB t.name && (decide (t.cols.length ≤ 64) && t.cols.all (colB (rowsC t.cols))))
def SzC (xs : List Co) : Prop := ∀ c ∈ xs, c.name.size ≤ 9223372036854775807 ∧ ∀ d ∈ c.cells, d.text.size ≤ 9223372036854775807
def SzT (t : Ta) : Prop := (Lit.int .i64 t.id).wf = true ∧ t.name.size ≤ 9223372036854775807 ∧ SzC t.cols
theorem all_no {α : Type} {p : α → Bool} {l : List α} {q : Nat} {d : α} (hq : q < l.length) (h : p (l.getD q d) = false) : l.all p = false := by
 cases e : l.all p with
 | false => rfl
 | true => rw [List.all_eq_true.1 e _ (getD_mem hq d)] at h; cases h
theorem all_up {α : Type} {p : α → Bool} {l : List α} {q : Nat} {d : α} (hq : q < l.length) (hp : (l.take q).all p = true) (h : p (l.getD q d) = true) : (l.take (q + 1)).all p = true := by
 have e : l.getD q d = l[q] := by simp [List.getD, hq]
 rw [List.take_succ_eq_append_getElem hq, List.all_append, hp, ← e, Bool.true_and, List.all_cons, h]
 rfl
theorem all_end {α : Type} {p : α → Bool} {l : List α} {n : Nat} (hn : l.length = n) (h : (l.take n).all p = true) : l.all p = true := by rw [← hn, List.take_length] at h; exact h
theorem empty_textB (t : ByteArray) : t.toList.isEmpty = decide (t = ⟨#[]⟩) := by
 rw [Lib.toList_data]
 by_cases h : t = ⟨#[]⟩
 ·subst h
  rfl
 ·rw [decide_eq_false h]
  cases hl : t.data.toList with
  | nil =>
   refine absurd ?_ h
   obtain ⟨⟨d⟩⟩ := t
   have : d = [] := hl
   subst this
   rfl
  | cons => rfl
theorem fineB_text {s : ByteArray} (h : fineB s = true) : TextOk 1024 s := by
 unfold fineB at h
 rw [Bool.and_eq_true, decide_eq_true_eq] at h
 exact h
theorem ref_nameB (s : ByteArray) (w : World) (hs : s.size ≤ 9223372036854775807) (hT : Tabs w) : Calls Tryz.prog 104 #[.string s] w (Ret w (.bool (fineB s))) := by
 have HV := hid (ref_Valid s w hs hT)
 have HF : Hid (fineB s = (decide (s.size ≤ 1024) && Lib.validD s.data.toList)) := hid rfl
 generalize Lib.validD s.data.toList = b at *
 generalize fineB s = r at *
 clear hT
 cases b with
 | false =>
  go_enter Tryz.func104, Tryz.ntmps104
  go_wp2_with fail
  with_reducible refine HV.out.mono ?_
  rintro e w1 ⟨rfl, hb⟩
  have HB := hid hb
  clear hb
  go_wp2
  go_ret
  exact ⟨by rw [HF.out, Bool.and_false]; rfl, HB.out⟩
 | true =>
  go_enter Tryz.func104, Tryz.ntmps104
  go_wp2_with fail
  with_reducible refine HV.out.mono ?_
  rintro e w1 ⟨rfl, hb⟩
  have HB := hid hb
  clear hb
  go_wp2
  go_ret
  refine ⟨ret_bool ?_, HB.out⟩
  rw [HF.out, Bool.and_true]
  apply decide_eq_decide.2
  omega
set_option maxHeartbeats 400000 in
theorem ref_ValidCellB (c : Cl) (w : World) (hc : c.text.size ≤ 9223372036854775807) (hT : Tabs w) : Calls Tryz.prog 105 #[.agg #[.bool c.null, .string c.text]] w (Ret w (.bool (cellB c))) := by
 obtain ⟨n, t⟩ := c
 simp only at hc
 have hb0 : Below w.heap.size w (w.alloc (.cells #[.bool n, .string t] 104)) := (Below.refl _ _).alloc (Nat.le_refl _) _
 have HV := hid (ref_Valid t (w.alloc (.cells #[.bool n, .string t] 104)) hc (hT.below hb0))
 have HF : Hid (cellB ⟨n, t⟩ = ((decide (t.size ≤ 1024) && Lib.validD t.data.toList) && (!n || decide (t = ⟨#[]⟩)))) := hid rfl
 generalize Lib.validD t.data.toList = b at *
 generalize cellB ⟨n, t⟩ = r at *
 have hx := BoxN.new w #[.bool n, .string t] 104
 have HB0 := hid hb0
 clear hT hb0 
 by_cases hsz : t.size ≤ 1024
 ·have hd : decide ((t.size : Int) ≤ 1024) = true := decide_eq_true (by omega)
  have hd2 : decide (t.size ≤ 1024) = true := decide_eq_true hsz
  rw [hd2] at HF
  clear hd2
  cases b <;> cases n
  all_goals
   go_enter Tryz.func105, Tryz.ntmps105
   go_wp2_with fail
   with_reducible refine HV.out.mono ?_
   rintro e w1 ⟨rfl, hb⟩
   have hx1 := hx.below hb (by simp)
   have c0 := hx1.cell 0 rfl
   have c1 := hx1.cell 1 rfl
   have HB := hid (HB0.out.trans (hb.mono (by simp)))
   clear hb hx1 hx
   go_wp2
   go_ret
   refine ⟨?_, HB.out⟩
   rw [HF.out]
   first | (simp; done) | (simp; exact empty_textB t)
 ·have hd : decide ((t.size : Int) ≤ 1024) = false := decide_eq_false (by omega)
  have hd2 : decide (t.size ≤ 1024) = false := decide_eq_false hsz
  rw [hd2] at HF
  clear hd2
  cases b
  all_goals
   go_enter Tryz.func105, Tryz.ntmps105
   go_wp2_with fail
   with_reducible refine HV.out.mono ?_
   rintro e w1 ⟨rfl, hb⟩
   have hx1 := hx.below hb (by simp)
   have c0 := hx1.cell 0 rfl
   have c1 := hx1.cell 1 rfl
   have HB := hid (HB0.out.trans (hb.mono (by simp)))
   clear hb hx1 hx
   go_wp2
   go_ret
   refine ⟨?_, HB.out⟩
   rw [HF.out]
   simp
set_option maxRecDepth 100000 in
set_option maxHeartbeats 4000000 in
theorem ref_ValidB (t : Ta) (v : Value) (B : Nat) (w : World) (hz : SzT t) (hv : RdCo w (· < B) v t.cols) (hB : B ≤ w.heap.size) (hT : Tabs w) :
  Calls Tryz.prog 56 #[.agg #[.int .i64 t.id, .string t.name, v]] w (Ret w (.bool (tabB t))) := by
 obtain ⟨id, nm, xs⟩ := t
 obtain ⟨-, hnm, hsz⟩ := hz
 simp only at hnm hsz hv
 obtain ⟨cv, ⟨a, k, rfl, hk, hm, hrd⟩, hcl⟩ := hv
 have HTB : Hid (tabB ⟨id, nm, xs⟩ = (decide (0 ≤ id ∧ id ≤ 1073741824) && (fineB nm && (decide (xs.length ≤ 64) && xs.all (colB (rowsC xs)))))) := hid rfl
 have hb0 : Below w.heap.size w (w.alloc (.cells #[.int .i64 id, .string nm, .slice a xs.length k] 24)) := (Below.refl _ _).alloc (Nat.le_refl _) _
 have HN := hid (ref_nameB nm (w.alloc (.cells #[.int .i64 id, .string nm, .slice a xs.length k] 24)) hnm (hT.below hb0))
 have HX := hid (BoxN.new w #[.int .i64 id, .string nm, .slice a xs.length k] 24)
 have HB0 := hid hb0
 have HT := hid hT
 have HRD := hid hrd
 have HCL := hid hcl
 have HSZ := hid hsz
 have HANO := hid (fun q (hq : q < xs.length) (h : colB (rowsC xs) (xs.getD q Co.z) = false) => all_no hq h)
 have HAUP := hid (fun q (hq : q < xs.length) hp (h : colB (rowsC xs) (xs.getD q Co.z) = true) => all_up hq hp h)
 have HAEN := hid (fun h => all_end (p := colB (rowsC xs)) (l := xs) (n := xs.length) rfl h)
 have HRC : Hid ((xs.getD 0 Co.z).cells.length = rowsC xs) := hid rfl
 have HCB : Hid (∀ x : Co, colB (rowsC xs) x = (fineB x.name && (decide (rowsC xs ≤ 4096) && (decide (x.cells.length = rowsC xs) && x.cells.all cellB)))) := hid fun _ => rfl
 clear hb0 hT hrd hcl hsz hnm
 generalize tabB ⟨id, nm, xs⟩ = R at *
 generalize fineB nm = bn at *
 generalize colB (rowsC xs) = cb at *
 generalize rowsC xs = rc at *
 generalize hxl : xs.length = L at *
 have HXL := hid hxl
 clear hxl
 unfold maxLen at hm
 have c0 := HX.out.cell 0 rfl
 have c1 := HX.out.cell 1 rfl
 have c2 := HX.out.cell 2 rfl
 by_cases hi0 : id < 0
 ·have hd : decide (id < 0) = true := decide_eq_true hi0
  have hR : R = false := by rw [HTB.out, decide_eq_false (by omega)]; rfl
  subst hR
  go_enter Tryz.func56, Tryz.ntmps56
  generalize hLA : Code.loop _ = LA
  go_wp2
  go_ret
  exact ⟨rfl, HB0.out⟩
 have hd0 : decide (id < 0) = false := decide_eq_false hi0
 by_cases hi1 : 1073741824 < id
 ·have hd : decide (1073741824 < id) = true := decide_eq_true hi1
  have hR : R = false := by rw [HTB.out, decide_eq_false (by omega)]; rfl
  subst hR
  go_enter Tryz.func56, Tryz.ntmps56
  generalize hLA : Code.loop _ = LA
  go_wp2
  go_ret
  exact ⟨rfl, HB0.out⟩
 have hd1 : decide (1073741824 < id) = false := decide_eq_false hi1
 rw [decide_eq_true (show 0 ≤ id ∧ id ≤ 1073741824 by omega), Bool.true_and] at HTB
 clear hi0 hi1
 cases bn with
 | false =>
  have hR : R = false := by rw [HTB.out]; rfl
  subst hR
  go_enter Tryz.func56, Tryz.ntmps56
  generalize hLA : Code.loop _ = LA
  go_wp2_with fail
  with_reducible refine HN.out.mono ?_
  rintro e w1 ⟨rfl, hb⟩
  have HB1 := hid (HB0.out.trans (hb.mono (by simp)))
  clear hb c0 c1 c2
  go_wp2
  go_ret
  exact ⟨rfl, HB1.out⟩
 | true =>
  rw [Bool.true_and] at HTB
  by_cases hL64 : 64 < L
  ·have hd64 : decide ((64 : Int) < (L : Int)) = true := decide_eq_true (by omega)
   have hR : R = false := by rw [HTB.out, decide_eq_false (by omega)]; rfl
   subst hR
   go_enter Tryz.func56, Tryz.ntmps56
   generalize hLA : Code.loop _ = LA
   go_wp2_with fail
   with_reducible refine HN.out.mono ?_
   rintro e w1 ⟨rfl, hb⟩
   have HB1 := hid (HB0.out.trans (hb.mono (by simp)))
   have HX1 := hid (HX.out.below hb HX.out.lt)
   clear hb c0 c1 c2
   have c2 := HX1.out.cell 2 rfl
   go_wp2
   go_ret
   exact ⟨rfl, HB1.out⟩
  have hd64 : decide ((64 : Int) < (L : Int)) = false := decide_eq_false (by omega)
  rw [decide_eq_true (show L ≤ 64 by omega), Bool.true_and] at HTB
  go_enter Tryz.func56, Tryz.ntmps56
  generalize hLA : Code.loop _ = LA
  go_wp2_with fail
  with_reducible refine HN.out.mono ?_
  rintro e w1 ⟨rfl, hb⟩
  have HX1 := hid (HX.out.below hb HX.out.lt)
  have HB1 := hid (HB0.out.trans (hb.mono (by simp)))
  have hz1 := HX1.out.lt
  clear hb c0 c1 c2
  have c2 := HX1.out.cell 2 rfl
  go_wp2_with fail
  clear c2 HN HX hd0 hd1
  subst hLA
  go_loopg [30] L (fun N i wr => ∃ q : Nat, q + N = L ∧ i = .int .i64 (q : Int) ∧ Hid (Below w1.heap.size w1 wr) ∧ Hid ((xs.take q).all cb = true))
  case atStart => exact ⟨0, by omega, rfl, hid (Below.refl _ _), hid rfl⟩
  case round =>
   obtain ⟨q, hq, rfl, HB, HALL⟩ := hrel
   by_cases hp : 0 < gk
   ·obtain ⟨b, o, rfl, hb, hcell⟩ := HRD.out (by omega)
    have hbw : b < w.heap.size := by have : b < B := hb; omega
    have HBW := hid (HB1.out.trans (HB.out.mono HB1.out.size))
    have hwz := HBW.out.size
    have hwz1 := HB.out.size
    have HSQ := hid (HSZ.out _ (getD_mem (l := xs) (i := q) (by have := HXL.out; omega) Co.z))
    have HRQ := hid (HCL.out q (by omega))
    obtain ⟨ca, ck, hcq, -, hcm, -⟩ := HCL.out q (by omega)
    obtain ⟨ca0, ck0, hc0, -, -, -⟩ := HCL.out 0 (by omega)
    rw [HRC.out] at hc0
    have k0 : wr.cell? ⟨b, o + q * 2, none⟩ = some (.string (xs.getD q Co.z).name) := (HBW.out.cell (p := ⟨b, o + q * 2, none⟩) hbw).trans (hcell q (by omega) 0 (by omega))
    have k1 : wr.cell? ⟨b, o + q * 2 + 1, none⟩ = some (cv q) := (HBW.out.cell (p := ⟨b, o + q * 2 + 1, none⟩) hbw).trans (hcell q (by omega) 1 (by omega))
    have k2 : wr.cell? ⟨b, o + 1, none⟩ = some (cv 0) := (HBW.out.cell (p := ⟨b, o + 1, none⟩) hbw).trans (by have := hcell 0 (by omega) 1 (by omega); simp only [Nat.zero_mul, Nat.add_zero] at this; exact this)
    have HCBQ := hid (HCB.out (xs.getD q Co.z))
    have HANQ := hid (HANO.out q (by omega))
    have HAUQ := hid (HAUP.out q (by omega) HALL.out)
    rw [hcq] at k1 HRQ
    rw [hc0] at k2
    clear hcell hcq hc0
    generalize xs.getD q Co.z = x at *
    obtain ⟨xn, xc⟩ := x
    simp only at HCBQ HSQ
    have HNM := hid (fun W h => ref_nameB xn W HSQ.out.1 h)
    have HCC := hid (fun c h W hW => ref_ValidCellB c W (HSQ.out.2 c h) hW)
    generalize hxcl : xc.length = m at *
    have HXCL := hid hxcl
    clear hxcl
    unfold maxLen at hcm
    generalize fineB xn = bx at *
    have hL0 : 0 < L := by omega
    have hL1 : (0 : Int) < (L : Int) := by omega
    have hL2 : L ≠ 0 := by omega
    go_wp2_with fail
    have HWA : Hid (Below wr.heap.size wr (wr.alloc (.cells #[.string xn, .slice ca m ck] 30))) := hid (by repeat' (first | (with_reducible exact Below.refl _ _) | (with_reducible assumption) | (with_reducible refine below_drewN ?_) | (with_reducible refine Below.alloc ?_ ?_ _) | (with_reducible refine Below.drew ?_) | (with_reducible refine Below.setCell ?_ ?_ _) | (with_reducible refine Below.trans ?_ (Below.mono (by with_reducible assumption) ?_)) | go_size))
    have hbx := BoxN.new wr #[.string xn, .slice ca m ck] 30
    have n2 : (wr.alloc (.cells #[.string xn, .slice ca m ck] 30)).cell? ⟨b, o + 1, none⟩ = some (.slice ca0 rc ck0) := (World.cell?_alloc_lt _ _ _ (by show b < _; omega)).trans k2
    have n3 : (wr.alloc (.cells #[.string xn, .slice ca m ck] 30)).cell? ⟨w.heap.size, 2, none⟩ = some (.slice (some ⟨b, o, none⟩) L k) := (World.cell?_alloc_lt _ _ _ (by show w.heap.size < _; omega)).trans ((HX1.out.below HB.out hz1).cell 2 rfl)
    generalize wr.alloc (.cells #[.string xn, .slice ca m ck] 30) = W8 at *
    have hwz8 := HWA.out.size
    have f0 := fun p : LaterOf W8 => p.cell (v := .string xn) (hbx.cell 0 rfl)
    have f1 := fun p : LaterOf W8 => p.cell (v := .slice ca m ck) (hbx.cell 1 rfl)
    have f2 := fun p : LaterOf W8 => p.cell n2
    have f3 := fun p : LaterOf W8 => p.cell n3
    have HCALL := hid (fun p : LaterOf W8 => later_call p (HNM.out p.W (HT.out.below (HBW.out.trans ((HWA.out.trans (p.hb.mono hwz8)).mono hwz)))))
    have HBX := hid hbx
    clear hbx n2 n3
    cases bx with
    | false =>
     refine wp_region_later (by kernel_rfl) (by kernel_rfl) ?_
     repeat (first | go_big_quiet_step ((go_at_call 104; exact HCALL.out _)) | quiet_step ((go_at_call 104; exact HCALL.out _)))
     refine wpQuiet_nil ?_
     intro _ hw'
     obtain ⟨p5, rfl⟩ := hw'
     have HBI := hid (HBW.out.trans ((HWA.out.trans (p5.hb.mono hwz8)).mono hwz))
     generalize p5.W = w5 at *
     clear f0 f1 f2 f3 HCALL
     have hR : R = false := by rw [HTB.out]; exact HANQ.out (by rw [HCBQ.out]; rfl)
     subst hR
     go_wp2
     go_ret
     exact ⟨rfl, HBI.out⟩
    | true =>
     rw [Bool.true_and] at HCBQ
     by_cases hm4 : 4096 < m
     ·have hd5 : decide ((4096 : Int) < (m : Int)) = true := decide_eq_true (by omega)
      refine wp_region_later (by kernel_rfl) (by kernel_rfl) ?_
      repeat (first | go_big_quiet_step ((go_at_call 104; exact HCALL.out _)) | quiet_step ((go_at_call 104; exact HCALL.out _)))
      refine wpQuiet_nil ?_
      intro _ hw'
      obtain ⟨p5, rfl⟩ := hw'
      have HBI := hid (HBW.out.trans ((HWA.out.trans (p5.hb.mono hwz8)).mono hwz))
      generalize p5.W = w5 at *
      clear f0 f1 f2 f3 HCALL
      have hR : R = false := by
       rw [HTB.out]
       refine HANQ.out ?_
       rw [HCBQ.out]
       by_cases e : m = rc
       ·rw [decide_eq_false (show ¬ rc ≤ 4096 by omega)]; rfl
       ·rw [decide_eq_false e, Bool.false_and, Bool.and_false]
      subst hR
      go_wp2
      go_ret
      exact ⟨rfl, HBI.out⟩
     have hd5 : decide ((4096 : Int) < (m : Int)) = false := decide_eq_false (by omega)
     by_cases hmr : m = rc
     ·subst hmr
      rw [decide_eq_true (show m ≤ 4096 by omega), Bool.true_and, decide_eq_true rfl, Bool.true_and] at HCBQ
      have hd6 : ((m : Int) != (m : Int)) = false := by simp
      refine wp_region_later (by kernel_rfl) (by kernel_rfl) ?_
      repeat (first | go_big_quiet_step ((go_at_call 104; exact HCALL.out _)) | quiet_step ((go_at_call 104; exact HCALL.out _)))
      refine wpQuiet_nil ?_
      intro _ hw'
      obtain ⟨p5, rfl⟩ := hw'
      have HB5 := hid (HWA.out.trans (p5.hb.mono hwz8))
      have HBX5 := hid (HBX.out.below p5.hb HBX.out.lt)
      generalize p5.W = w5 at *
      clear f0 f1 f2 f3 HCALL
      have HBI := hid (HB.out.trans (HB5.out.mono hwz1))
      have HBW5 := hid (HBW.out.trans (HB5.out.mono hwz))
      have o1 := HBX5.out.cell 1 rfl
      have HCNO := hid (fun q (hq : q < xc.length) (h : cellB (xc.getD q Cl.z) = false) => all_no hq h)
      have HCUP := hid (fun q (hq : q < xc.length) hp (h : cellB (xc.getD q Cl.z) = true) => all_up hq hp h)
      have HCEN := hid (fun h => all_end (p := cellB) (l := xc) (n := xc.length) rfl h)
      rw [HXCL.out] at HCNO HCUP HCEN
      obtain ⟨ca', ck', hce, -, -, hrc⟩ := HRQ.out
      simp only at hrc hce
      rw [HXCL.out] at hrc hce
      obtain ⟨rfl, -, rfl⟩ := Value.slice.inj hce
      have HRC2 := hid hrc
      clear hrc hce HRQ k0 k1 k2
      obtain ⟨wo, rfl⟩ : ∃ wo, wo = wr := ⟨wr, rfl⟩
      obtain ⟨ko, rfl⟩ : ∃ ko, ko = gk := ⟨gk, rfl⟩
      go_wp2_with fail
      clear o1
      go_loopg [59] m (fun N i W => ∃ j : Nat, j + N = m ∧ i = .int .i64 (j : Int) ∧ Hid (Below w5.heap.size w5 W) ∧ Hid ((xc.take j).all cellB = true))
      case atStart => exact ⟨0, by omega, rfl, hid (by have := Below.refl w5.heap.size w5; repeat' (first | (with_reducible exact Below.refl _ _) | (with_reducible assumption) | (with_reducible refine below_drewN ?_) | (with_reducible refine Below.alloc ?_ ?_ _) | (with_reducible refine Below.drew ?_) | (with_reducible refine Below.setCell ?_ ?_ _) | (with_reducible refine Below.trans ?_ (Below.mono (by with_reducible assumption) ?_)) | go_size)), hid rfl⟩
      case round =>
       obtain ⟨j, hj, rfl, HBJ, HALJ⟩ := hrel
       have hjz := HBJ.out.size
       have HBWJ := hid (HBW5.out.trans (HBJ.out.mono HBW5.out.size))
       by_cases hpj : 0 < gk
       ·obtain ⟨b2, o2, rfl, hb2, hcell2⟩ := HRC2.out (by omega)
        have hbw2 : b2 < w.heap.size := by have : b2 < B := hb2; omega
        have k0 : wr.cell? ⟨b2, o2 + j * 2, none⟩ = some (.bool (xc.getD j Cl.z).null) := (HBWJ.out.cell (p := ⟨b2, o2 + j * 2, none⟩) hbw2).trans (hcell2 j (by omega) 0 (by omega))
        have k1 : wr.cell? ⟨b2, o2 + j * 2 + 1, none⟩ = some (.string (xc.getD j Cl.z).text) := (HBWJ.out.cell (p := ⟨b2, o2 + j * 2 + 1, none⟩) hbw2).trans (hcell2 j (by omega) 1 (by omega))
        have HCJ := hid (HCC.out _ (getD_mem (l := xc) (i := j) (by have h : xc.length = m := HXCL.out; omega) Cl.z))
        have HCNJ := hid (HCNO.out j (by omega))
        have HCUJ := hid (HCUP.out j (by omega) HALJ.out)
        clear hcell2
        generalize xc.getD j Cl.z = c at *
        generalize cellB c = bc at *
        obtain ⟨cn, ct⟩ := c
        go_wp2_with fail
        with_reducible refine (HCJ.out _ (HT.out.below (by have := HBWJ.out; have h9 := HBWJ.out.size; repeat' (first | (with_reducible exact Below.refl _ _) | (with_reducible assumption) | (with_reducible refine below_drewN ?_) | (with_reducible refine Below.alloc ?_ ?_ _) | (with_reducible refine Below.drew ?_) | (with_reducible refine Below.setCell ?_ ?_ _) | (with_reducible refine Below.trans ?_ (Below.mono (by with_reducible assumption) ?_)) | go_size)))).mono ?_
        rintro e w6 ⟨rfl, hb6⟩
        have HB6 : Hid (Below wr.heap.size wr w6) := hid (by repeat' (first | (with_reducible exact Below.refl _ _) | (with_reducible assumption) | (with_reducible refine below_drewN ?_) | (with_reducible refine Below.alloc ?_ ?_ _) | (with_reducible refine Below.drew ?_) | (with_reducible refine Below.setCell ?_ ?_ _) | (with_reducible refine Below.trans ?_ (Below.mono (by with_reducible assumption) ?_)) | go_size))
        clear hb6 k0 k1
        cases bc with
        | false =>
         have hR : R = false := by rw [HTB.out]; exact HANQ.out (by rw [HCBQ.out]; exact HCNJ.out rfl)
         subst hR
         go_wp2
         go_ret
         exact ⟨rfl, HBWJ.out.trans (HB6.out.mono HBWJ.out.size)⟩
        | true =>
         go_wp2_with fail
         go_roundg (gk - 1)
         case rel => exact ⟨j + 1, by omega, by go_num, hid (HBJ.out.trans (HB6.out.mono hjz)), hid (HCUJ.out (by simp))⟩
         case measure => omega
       ·obtain rfl : j = m := by omega
        go_wp2_with fail
        go_roundg (ko - 1)
        case rel => exact ⟨q + 1, by omega, by go_num, hid (HBI.out.trans (HBJ.out.mono HBI.out.size)), hid (HAUQ.out (by rw [HCBQ.out]; exact HCEN.out HALJ.out))⟩
        case measure => omega
     ·have hd6 : ((m : Int) != (rc : Int)) = true := by simp; omega
      refine wp_region_later (by kernel_rfl) (by kernel_rfl) ?_
      repeat (first | go_big_quiet_step ((go_at_call 104; exact HCALL.out _)) | quiet_step ((go_at_call 104; exact HCALL.out _)))
      refine wpQuiet_nil ?_
      intro _ hw'
      obtain ⟨p5, rfl⟩ := hw'
      have HBI := hid (HBW.out.trans ((HWA.out.trans (p5.hb.mono hwz8)).mono hwz))
      generalize p5.W = w5 at *
      clear f0 f1 f2 f3 HCALL
      have hR : R = false := by
       rw [HTB.out]
       refine HANQ.out ?_
       rw [HCBQ.out, decide_eq_false hmr, Bool.false_and, Bool.and_false]
      subst hR
      go_wp2
      go_ret
      exact ⟨rfl, HBI.out⟩
   ·obtain rfl : q = L := by omega
    have hR : R = true := by rw [HTB.out]; exact HAEN.out HALL.out
    subst hR
    go_wp2
    go_ret
    exact ⟨rfl, HB1.out.trans (HB.out.mono HB1.out.size)⟩
def upB : List Ta → Bool
  | a :: b :: l => decide (a.id < b.id) && upB (b :: l)
  | _ => true
def listB (ts : List Ta) : Bool := decide (ts.length ≤ 1024) && (ts.all tabB && upB ts)
def SzL (ts : List Ta) : Prop := ∀ t ∈ ts, SzT t
theorem upB_iff : ∀ (l : List Ta), upB l = true ↔ ∀ q, q + 1 < l.length → (l.getD q Ta.z).id < (l.getD (q + 1) Ta.z).id
 | [] => ⟨fun _ q h => absurd h (by simp), fun _ => rfl⟩
 | [a] => ⟨fun _ q h => absurd h (by simp), fun _ => rfl⟩
 | a :: b :: l => by
  have ih := upB_iff (b :: l)
  unfold upB
  rw [Bool.and_eq_true, decide_eq_true_eq, ih]
  constructor
  ·rintro ⟨h1, h2⟩ q hq
   cases q with
   | zero => exact h1
   | succ q => exact h2 q (by simpa using hq)
  ·intro h
   exact ⟨h 0 (by simp), fun q hq => h (q + 1) (by simpa using hq)⟩
theorem upB_no {l : List Ta} {q : Nat} (hq : q + 1 < l.length) (h : (l.getD (q + 1) Ta.z).id ≤ (l.getD q Ta.z).id) : upB l = false := by
 cases e : upB l with
 | false => rfl
 | true => exact absurd ((upB_iff l).1 e q hq) (by omega)
theorem listV_up {l : List Ta} (h : upB l = true) : l.Pairwise (fun a b => a.id < b.id) := by
 induction l with
 | nil => exact List.Pairwise.nil
 | cons a l ih =>
  have hl : upB l = true := by
   cases l with
   | nil => rfl
   | cons b l => unfold upB at h; rw [Bool.and_eq_true] at h; exact h.2
  refine List.Pairwise.cons ?_ (ih hl)
  cases l with
  | nil => exact fun _ h => absurd h (by simp)
  | cons b l =>
   have hab : a.id < b.id := by unfold upB at h; rw [Bool.and_eq_true, decide_eq_true_eq] at h; exact h.1
   intro x hx
   rcases List.mem_cons.1 hx with rfl | hx
   ·exact hab
   ·have := (List.pairwise_cons.1 (ih hl)).1 x hx
    omega
set_option maxRecDepth 100000 in
set_option maxHeartbeats 4000000 in
theorem ref_ValidListB (v : Value) (ts : List Ta) (B : Nat) (w : World) (hz : SzL ts) (hv : RdTa w (· < B) v ts) (hB : B ≤ w.heap.size) (hT : Tabs w) :
  Calls Tryz.prog 83 #[v] w (Ret w (.bool (listB ts))) := by
 obtain ⟨tv, htv, hco⟩ := hv
 obtain ⟨a, k, rfl, hk, hm, hrd⟩ := htv
 have HLB : Hid (listB ts = (decide (ts.length ≤ 1024) && (ts.all tabB && upB ts))) := hid rfl
 have HT := hid hT
 have HRD := hid hrd
 have HCO := hid hco
 have HOK := hid hz
 have HANO := hid (fun q (hq : q < ts.length) (h : tabB (ts.getD q Ta.z) = false) => all_no hq h)
 have HAUP := hid (fun q (hq : q < ts.length) hp (h : tabB (ts.getD q Ta.z) = true) => all_up hq hp h)
 have HAEN := hid (fun h => all_end (p := tabB) (l := ts) (n := ts.length) rfl h)
 have HUN := hid (fun q (hq : q + 1 < ts.length) => upB_no hq)
 have HUY := hid (upB_iff ts).2
 clear hT hrd hco hz
 generalize listB ts = R at *
 generalize hxl : ts.length = L at *
 have HXL := hid hxl
 clear hxl
 unfold maxLen at hm
 go_enter Tryz.func83, Tryz.ntmps83
 go_wp2_with fail
 go_loopg [7] L (fun N i wr => ∃ q : Nat, q + N = L ∧ i = .int .i64 (q : Int) ∧ Hid (Below w.heap.size w wr) ∧ Hid ((ts.take q).all tabB = true) ∧ Hid (∀ j, j + 1 < q → (ts.getD j Ta.z).id < (ts.getD (j + 1) Ta.z).id))
 case atStart => exact ⟨0, by omega, rfl, hid (Below.refl _ _), hid rfl, hid (fun j h => absurd h (by omega))⟩
 case round =>
  obtain ⟨q, hq, rfl, HB, HALL, HUP⟩ := hrel
  by_cases hp : 0 < gk
  ·obtain ⟨b, o, rfl, hb, hcell⟩ := HRD.out (by omega)
   have hbw : b < w.heap.size := by have : b < B := hb; omega
   have hwz := HB.out.size
   have k0 : wr.cell? ⟨b, o + q * 3, none⟩ = some (.int .i64 (ts.getD q Ta.z).id) := (HB.out.cell (p := ⟨b, o + q * 3, none⟩) hbw).trans (hcell q (by omega) 0 (by omega))
   have k1 : wr.cell? ⟨b, o + q * 3 + 1, none⟩ = some (.string (ts.getD q Ta.z).name) := (HB.out.cell (p := ⟨b, o + q * 3 + 1, none⟩) hbw).trans (hcell q (by omega) 1 (by omega))
   have k2 : wr.cell? ⟨b, o + q * 3 + 2, none⟩ = some (tv q) := (HB.out.cell (p := ⟨b, o + q * 3 + 2, none⟩) hbw).trans (hcell q (by omega) 2 (by omega))
   have HVQ := hid (fun W (hW : Below w.heap.size w W) => ref_ValidB (ts.getD q Ta.z) (tv q) B W (HOK.out _ (getD_mem (by have := HXL.out; omega) Ta.z)) ((HCO.out q (by omega)).keep fun p (hp : p.block < B) => hW.cell (p := p) (by omega)) (by have := hW.size; omega) (HT.out.below hW))
   obtain ⟨ca, ck, hcq⟩ : ∃ ca ck, tv q = .slice ca (ts.getD q Ta.z).cols.length ck := by
    obtain ⟨cv, ⟨ca, ck, e, -⟩, -⟩ := HCO.out q (by omega)
    exact ⟨ca, ck, e⟩
   rw [hcq] at k2 HVQ
   have HANQ := hid (HANO.out q (by omega))
   have HAUQ := hid (HAUP.out q (by omega) HALL.out)
   by_cases hq0 : q = 0
   ·subst hq0
    clear hcell hcq
    generalize ts.getD 0 Ta.z = t at *
    generalize tabB t = bt at *
    obtain ⟨id, nm, xs⟩ := t
    generalize hxsl : xs.length = m at *
    simp only [Nat.zero_mul, Nat.add_zero] at k0 k1 k2
    rw [show (((0 : Nat)) : Int) = 0 from rfl]
    have hd0 : decide ((0 : Int) < 0) = false := by simp
    go_wp2_with fail
    have HWA : Hid (Below w.heap.size w (wr.alloc (.cells #[.int .i64 id, .string nm, .slice ca m ck] 24))) := hid (by have := HB.out; repeat' (first | (with_reducible exact Below.refl _ _) | (with_reducible assumption) | (with_reducible refine below_drewN ?_) | (with_reducible refine Below.alloc ?_ ?_ _) | (with_reducible refine Below.drew ?_) | (with_reducible refine Below.setCell ?_ ?_ _) | (with_reducible refine Below.trans ?_ (Below.mono (by with_reducible assumption) ?_)) | go_size))
    have hbx := BoxN.new wr #[.int .i64 id, .string nm, .slice ca m ck] 24
    generalize wr.alloc (.cells #[.int .i64 id, .string nm, .slice ca m ck] 24) = W8 at *
    have f0 := fun p : LaterOf W8 => p.cell (hbx.cell 0 rfl)
    have f1 := fun p : LaterOf W8 => p.cell (hbx.cell 1 rfl)
    have f2 := fun p : LaterOf W8 => p.cell (hbx.cell 2 rfl)
    have hwz8 := HWA.out.size
    have HCALL := hid (fun p : LaterOf W8 => later_call p (HVQ.out p.W (HWA.out.trans (p.hb.mono hwz8))))
    clear hbx
    cases bt
    all_goals
     refine wp_region_later (by kernel_rfl) (by kernel_rfl) ?_
     repeat (first | go_big_quiet_step ((go_at_call 56; exact HCALL.out _)) | quiet_step ((go_at_call 56; exact HCALL.out _)))
     refine wpQuiet_nil ?_
     intro _ hw'
     obtain ⟨p5, hw''⟩ := hw'
     subst hw''
     have HB5 := hid (HWA.out.trans (p5.hb.mono hwz8))
     generalize p5.W = w5 at *
     clear f0 f1 f2 HCALL k0 k1 k2
    ·have hR : R = false := by rw [HLB.out, HANQ.out rfl, Bool.false_and, Bool.and_false]
     subst hR
     go_wp2
     go_ret
     exact ⟨rfl, HB5.out⟩
    ·go_wp2_with fail
     go_roundg (gk - 1)
     case rel => exact ⟨0 + 1, by omega, by go_num, hid HB5.out, hid (HAUQ.out (by simp)), hid (fun j h => absurd h (by omega))⟩
     case measure => omega
   ·obtain ⟨pp, rfl⟩ : ∃ pp, q = pp + 1 := ⟨q - 1, by omega⟩
    have k3 : wr.cell? ⟨b, o + pp * 3, none⟩ = some (.int .i64 (ts.getD pp Ta.z).id) := (HB.out.cell (p := ⟨b, o + pp * 3, none⟩) hbw).trans (hcell pp (by omega) 0 (by omega))
    have HUNQ := hid (HUN.out pp (by omega))
    have HUPQ : Hid ((ts.getD pp Ta.z).id < (ts.getD (pp + 1) Ta.z).id → ∀ j, j + 1 < pp + 1 + 1 → (ts.getD j Ta.z).id < (ts.getD (j + 1) Ta.z).id) := hid (fun h j hj => by
     by_cases e : j = pp
     ·subst e; exact h
     ·exact HUP.out j (by omega))
    have hp2 : pp + 1 < ts.length := by have := HXL.out; omega
    clear hcell hcq hq0
    generalize hts : ts.getD (pp + 1) Ta.z = t at *
    generalize htp : (ts.getD pp Ta.z).id = id' at *
    have HTS := hid hts
    have HTP := hid htp
    clear hts htp
    generalize tabB t = bt at *
    obtain ⟨id, nm, xs⟩ := t
    simp only at HUNQ HUPQ
    generalize hxsl : xs.length = m at *
    have hw1 : IntKind.i64.wrap ((pp : Int) + 1 - 1) = (pp : Int) := (IntWalk.i64_in _ (by omega)).trans (by omega)
    have hw2 : IntKind.i64.wrap (pp : Int) = (pp : Int) := IntWalk.i64_in _ (by omega)
    have hp1 : (0 : Int) < (pp : Int) + 1 := by omega
    have hd3 : decide ((0 : Int) < (pp : Int) + 1) = true := decide_eq_true (by omega)
    have hpL : (pp : Int) < (L : Int) := by omega
    have hpL2 : pp < L := by omega
    rw [show (((pp + 1 : Nat)) : Int) = (pp : Int) + 1 from by omega]
    go_wp2_with fail
    have HWA : Hid (Below w.heap.size w (wr.alloc (.cells #[.int .i64 id, .string nm, .slice ca m ck] 24))) := hid (by have := HB.out; repeat' (first | (with_reducible exact Below.refl _ _) | (with_reducible assumption) | (with_reducible refine below_drewN ?_) | (with_reducible refine Below.alloc ?_ ?_ _) | (with_reducible refine Below.drew ?_) | (with_reducible refine Below.setCell ?_ ?_ _) | (with_reducible refine Below.trans ?_ (Below.mono (by with_reducible assumption) ?_)) | go_size))
    have hbx := BoxN.new wr #[.int .i64 id, .string nm, .slice ca m ck] 24
    have HRO := hid (Below.refl wr.heap.size wr |>.alloc (Nat.le_refl _) (.cells #[.int .i64 id, .string nm, .slice ca m ck] 24))
    generalize wr.alloc (.cells #[.int .i64 id, .string nm, .slice ca m ck] 24) = W8 at *
    have f3 := fun p : LaterOf W8 => p.cell ((HRO.out.cell (p := ⟨b, o + pp * 3, none⟩) (by show b < _; omega)).trans k3)
    have f0 := fun p : LaterOf W8 => p.cell (hbx.cell 0 rfl)
    have f1 := fun p : LaterOf W8 => p.cell (hbx.cell 1 rfl)
    have f2 := fun p : LaterOf W8 => p.cell (hbx.cell 2 rfl)
    have hwz8 := HWA.out.size
    have HCALL := hid (fun p : LaterOf W8 => later_call p (HVQ.out p.W (HWA.out.trans (p.hb.mono hwz8))))
    clear hbx
    cases bt with
    | false =>
     refine wp_region_later (by kernel_rfl) (by kernel_rfl) ?_
     repeat (first | go_big_quiet_step ((go_at_call 56; exact HCALL.out _)) | quiet_step ((go_at_call 56; exact HCALL.out _)))
     refine wpQuiet_nil ?_
     intro _ hw'
     obtain ⟨p5, hw''⟩ := hw'
     subst hw''
     have HB5 := hid (HWA.out.trans (p5.hb.mono hwz8))
     generalize p5.W = w5 at *
     clear f0 f1 f2 f3 HCALL k0 k1 k2 k3
     have hR : R = false := by rw [HLB.out, HANQ.out rfl, Bool.false_and, Bool.and_false]
     subst hR
     go_wp2
     go_ret
     exact ⟨rfl, HB5.out⟩
    | true =>
     by_cases hid' : id ≤ id'
     ·have hd : decide (id ≤ id') = true := decide_eq_true hid'
      refine wp_region_later (by kernel_rfl) (by kernel_rfl) ?_
      repeat (first | go_big_quiet_step ((go_at_call 56; exact HCALL.out _)) | quiet_step ((go_at_call 56; exact HCALL.out _)))
      refine wpQuiet_nil ?_
      intro _ hw'
      obtain ⟨p5, hw''⟩ := hw'
      subst hw''
      have HB5 := hid (HWA.out.trans (p5.hb.mono hwz8))
      generalize p5.W = w5 at *
      clear f0 f1 f2 f3 HCALL k0 k1 k2 k3
      have hR : R = false := by rw [HLB.out, HUNQ.out hid', Bool.and_false, Bool.and_false]
      subst hR
      go_wp2
      go_ret
      exact ⟨rfl, HB5.out⟩
     ·have hd : decide (id ≤ id') = false := decide_eq_false hid'
      refine wp_region_later (by kernel_rfl) (by kernel_rfl) ?_
      repeat (first | go_big_quiet_step ((go_at_call 56; exact HCALL.out _)) | quiet_step ((go_at_call 56; exact HCALL.out _)))
      refine wpQuiet_nil ?_
      intro _ hw'
      obtain ⟨p5, hw''⟩ := hw'
      subst hw''
      have HB5 := hid (HWA.out.trans (p5.hb.mono hwz8))
      generalize p5.W = w5 at *
      clear f0 f1 f2 f3 HCALL k0 k1 k2 k3
      go_wp2_with fail
      go_roundg (gk - 1)
      case rel => exact ⟨pp + 1 + 1, by omega, by go_num, hid HB5.out, hid (HAUQ.out (by simp)), hid (HUPQ.out (by omega))⟩
      case measure => omega
  ·obtain rfl : q = L := by omega
   have HR : Hid (decide (q ≤ 1024) = R) := hid (by rw [HLB.out, HAEN.out HALL.out, HUY.out (fun j hj => HUP.out j (by have := HXL.out; omega)), Bool.true_and, Bool.and_true])
   have HR2 : Hid (decide ((q : Int) ≤ 1024) = R) := hid (by rw [← HR.out]; exact decide_eq_decide.2 (by omega))
   go_wp2
   go_ret
   exact ⟨ret_bool HR2.out, HB.out⟩
end Go.Proofs.YthblaeleogdfpaaGreatDoor
