/- Contracts of table.fine, ValidCell, every, Valid, ValidList, at any contents. Tables that pass the checks; the contract of the reference's equal (chapter 36). -/
import Derived.Test.YthblaeleogdfpaaGreatDoorCTobj
import Derived.Test.YthblaeleogdfpaaGreatDoorCToag
import Derived.Test.YthblaeleogdfpaaGreatDoorCToau
import Derived.Test.YthblaeleogdfpaaGreatDoorCToah
set_option linter.unusedVariables false
set_option linter.unusedSimpArgs false
namespace Go.Proofs.YthblaeleogdfpaaGreatDoor
open Go.RowKit
theorem table_fineB (s : ByteArray) (w : World) (hs : s.size ≤ 9223372036854775807) (hT : Tabs w) : Calls Tryz.prog 97 #[.string s] w (Ret w (.bool (fineB s))) := by
 have HV := hid (text_Valid s w hs hT)
 have HF : Hid (fineB s = (decide (s.size ≤ 1024) && Lib.validD s.data.toList)) := hid rfl
 generalize Lib.validD s.data.toList = b at *
 generalize fineB s = r at *
 clear hT
 by_cases h : s.size ≤ 1024
 ·have hd : decide ((s.size : Int) ≤ 1024) = true := decide_eq_true (by omega)
  rw [decide_eq_true h, Bool.true_and] at HF
  go_enter Tryz.func97, Tryz.ntmps97
  go_wp2_with fail
  with_reducible refine HV.out.mono ?_
  rintro e w1 ⟨rfl, hb⟩
  have HB := hid hb
  clear hb
  go_wp2
  go_ret
  exact ⟨by rw [HF.out]; rfl, HB.out⟩
 ·have hd : decide ((s.size : Int) ≤ 1024) = false := decide_eq_false (by omega)
  rw [decide_eq_false h, Bool.false_and] at HF
  go_enter Tryz.func97, Tryz.ntmps97
  go_wp2
  go_ret
  exact ⟨by rw [HF.out]; rfl, Below.refl _ _⟩
set_option maxHeartbeats 400000 in
theorem table_ValidCellB (c : Cl) (w : World) (hc : c.text.size ≤ 9223372036854775807) (hT : Tabs w) : Calls Tryz.prog 101 #[.agg #[.bool c.null, .string c.text]] w (Ret w (.bool (cellB c))) := by
 obtain ⟨n, t⟩ := c
 simp only at hc
 have hb0 : Below w.heap.size w (w.alloc (.cells #[.bool n, .string t] 104)) := (Below.refl _ _).alloc (Nat.le_refl _) _
 have HV := hid (table_fineB t (w.alloc (.cells #[.bool n, .string t] 104)) hc (hT.below hb0))
 have HF : Hid (cellB ⟨n, t⟩ = (fineB t && (!n || decide (t = ⟨#[]⟩)))) := hid rfl
 generalize fineB t = b at *
 generalize cellB ⟨n, t⟩ = r at *
 have hx := BoxN.new w #[.bool n, .string t] 104
 have HB0 := hid hb0
 have HE := hid (empty_textB t)
 clear hT hb0
 cases b <;> cases n
 all_goals
  go_enter Tryz.func101, Tryz.ntmps101
  go_wp2_with fail
  with_reducible refine HV.out.mono ?_
  rintro e w1 ⟨rfl, hb⟩
  have hx1 := hx.below hb (by simp)
  have c0 := hx1.cell 0 rfl
  have c1 := hx1.cell 1 rfl
  have HB := hid (HB0.out.trans (hb.mono (by simp)))
  clear hb hx1 hx
  go_wp2
  go_ret
  refine ⟨?_, HB.out⟩
  rw [HF.out]
  first | (simp; done) | (simp [HE.out]; done)
set_option maxHeartbeats 1000000 in
theorem every_cellsB (v : Value) (cs : List Cl) (B : Nat) (w : World) (hv : RdCl w (· < B) v cs) (hB : B ≤ w.heap.size) (hc : ∀ c ∈ cs, c.text.size ≤ 9223372036854775807) (hT : Tabs w) :
  Calls Tryz.prog 100 #[v, .func (.func 101) #[] #[]] w (Ret w (.bool (cs.all cellB))) := by
 obtain ⟨a, c, rfl, hcc, hm, hr⟩ := hv
 have HR := hid hr
 have HT := hid hT
 have HC := hid (fun x (hx : x ∈ cs) W hW => table_ValidCellB x W (hc x hx) hW)
 have HANO := hid (fun q (hq : q < cs.length) (h : cellB (cs.getD q Cl.z) = false) => all_no hq h)
 have HAUP := hid (fun q (hq : q < cs.length) hp (h : cellB (cs.getD q Cl.z) = true) => all_up hq hp h)
 have HAEN := hid (fun h => all_end (p := cellB) (l := cs) (n := cs.length) rfl h)
 clear hr hT hc
 generalize hxl : cs.length = n at *
 have HXL := hid hxl
 clear hxl
 unfold maxLen at hm
 go_enter Tryz.func100, Tryz.ntmps100
 go_wp2_with fail
 go_loopg [9] n (fun N i wr => ∃ q : Nat, q + N = n ∧ i = .int .i64 (q : Int) ∧ Hid (Below w.heap.size w wr) ∧ Hid ((cs.take q).all cellB = true))
 case atStart => exact ⟨0, by omega, rfl, hid (Below.refl _ _), hid rfl⟩
 case round =>
  obtain ⟨q, hq, rfl, HB, HALL⟩ := hrel
  by_cases hp : 0 < gk
  ·obtain ⟨b, o, rfl, hb, hcell⟩ := HR.out (by omega)
   have hbw : b < w.heap.size := by have : b < B := hb; omega
   have hwz := HB.out.size
   have k0 : wr.cell? ⟨b, o + q * 2, none⟩ = some (.bool (cs.getD q Cl.z).null) := (HB.out.cell (p := ⟨b, o + q * 2, none⟩) hbw).trans (hcell q (by omega) 0 (by omega))
   have k1 : wr.cell? ⟨b, o + q * 2 + 1, none⟩ = some (.string (cs.getD q Cl.z).text) := (HB.out.cell (p := ⟨b, o + q * 2 + 1, none⟩) hbw).trans (hcell q (by omega) 1 (by omega))
   have HCQ := hid (HC.out _ (getD_mem (l := cs) (i := q) (by have := HXL.out; omega) Cl.z))
   have HANQ := hid (HANO.out q (by omega))
   have HAUQ := hid (HAUP.out q (by omega) HALL.out)
   clear hcell
   generalize cs.getD q Cl.z = x at *
   generalize cellB x = bx at *
   obtain ⟨xn, xt⟩ := x
   have HB1 := hid (HB.out.alloc hwz (.cells #[.bool xn, .string xt] 104))
   go_wp2_with fail
   with_reducible refine (HCQ.out _ (HT.out.below HB1.out)).mono ?_
   clear k0 k1
   rintro e w6 ⟨rfl, hb6⟩
   have HB6 := hid (HB1.out.trans (hb6.mono HB1.out.size))
   clear hb6
   cases bx with
   | false =>
    go_wp2
    go_ret
    exact ⟨by rw [HANQ.out (by simp)]; rfl, HB6.out⟩
   | true =>
    go_wp2_with fail
    go_roundg (gk - 1)
    case rel => exact ⟨q + 1, by omega, by go_num, hid HB6.out, hid (HAUQ.out (by simp))⟩
    case measure => omega
  ·obtain rfl : q = n := by omega
   go_wp2
   go_ret
   exact ⟨by rw [HAEN.out HALL.out]; rfl, HB.out⟩
set_option maxRecDepth 100000 in
set_option maxHeartbeats 1000000 in
theorem table_Valid1B (t : Ta) (ca : Option Addr) (cc : Nat) (x : Co) (v : Value) (tb B : Nat) (w : World) (hb : TabBox w tb t ca cc) (hv : RdCo w (· < B) (.slice ca t.cols.length cc) t.cols) (hx : RdCl w (· < B) v x.cells) (hB : B ≤ w.heap.size)
  (hn : x.name.size ≤ 9223372036854775807) (hc : ∀ c ∈ x.cells, c.text.size ≤ 9223372036854775807) (hT : Tabs w) (hm : rowsC t.cols ≤ 4096) :
  Calls Tryz.prog 99 #[.agg #[.string x.name, v], .pointer (some ⟨tb, 0, none⟩)] w (Ret w (.bool (!colB (rowsC t.cols) x))) := by
 have HE := hid (fun W (hW : Below w.heap.size w W) => every_cellsB v x.cells B W (hx.keep fun p (hp : p.block < B) => hW.cell (p := p) (by omega)) (by have := hW.size; omega) hc (hT.below hW))
 have HF := hid (fun W (hW : Below w.heap.size w W) => table_fineB x.name W hn (hT.below hW))
 have HR := hid (fun W (hW : Below w.heap.size w W) => table_Rows t.id t.name (.slice ca t.cols.length cc) t.cols B W (hv.keep fun p (hp : p.block < B) => hW.cell (p := p) (by omega)) (by have := hW.size; omega))
 have HCB : Hid (colB (rowsC t.cols) x = (fineB x.name && (decide (x.cells.length = rowsC t.cols) && x.cells.all cellB))) := hid (by unfold colB; rw [decide_eq_true hm, Bool.true_and])
 obtain ⟨xa, xc, rfl, hxc, hxm, -⟩ := hx
 have HBX := hid hb
 have hbl := hb.lt
 clear hb hv hn hc hT
 obtain ⟨xn, xs⟩ := x
 obtain ⟨id, nm, cols⟩ := t
 have hbx := HBX.out
 unfold TabBox at hbx
 unfold maxLen at hxm
 simp only at HE HF HR hbx hm HCB hxc ⊢
 generalize colB (rowsC cols) ⟨xn, xs⟩ = r at *
 generalize rowsC cols = m at *
 generalize cols.length = n at *
 generalize xs.length = l at *
 generalize xs.all cellB = be at *
 generalize fineB xn = bf at *
 have HWA : Hid (Below w.heap.size w (w.alloc (.cells #[.string xn, .slice xa l xc] 30))) := hid ((Below.refl _ _).alloc (Nat.le_refl _) _)
 have hbc := BoxN.new w #[.string xn, .slice xa l xc] 30
 have hbt := hbx.alloc (.cells #[.string xn, .slice xa l xc] 30)
 clear hbx HBX
 go_enter Tryz.func99, Tryz.ntmps99
 go_upto_region 1 with fail
 generalize w.alloc (.cells #[.string xn, .slice xa l xc] 30) = W8 at *
 have hwz8 := HWA.out.size
 have f0 := fun p : LaterOf W8 => p.cell (v := .string xn) (hbc.cell 0 rfl)
 have f1 := fun p : LaterOf W8 => p.cell (v := .slice xa l xc) (hbc.cell 1 rfl)
 have f2 := fun p : LaterOf W8 => p.cell (v := .int .i64 id) (hbt.cell 0 rfl)
 have f3 := fun p : LaterOf W8 => p.cell (v := .string nm) (hbt.cell 1 rfl)
 have f4 := fun p : LaterOf W8 => p.cell (v := .slice ca n cc) (hbt.cell 2 rfl)
 have HC1 := hid (fun p : LaterOf W8 => later_call p (HF.out p.W (HWA.out.trans (p.hb.mono hwz8))))
 have HC2 := hid (fun p : LaterOf W8 => later_call p (HR.out p.W (HWA.out.trans (p.hb.mono hwz8))))
 have HC3 := hid (fun p : LaterOf W8 => later_call p (HE.out p.W (HWA.out.trans (p.hb.mono hwz8))))
 clear hbc hbt HE HF HR
 cases bf with
 | false =>
  rw [Bool.false_and] at HCB
  refine wp_region_later (by kernel_rfl) (by kernel_rfl) ?_
  repeat (first | go_big_quiet_step ((first | (go_at_call 97; with_reducible exact HC1.out _) | (go_at_call 54; with_reducible exact HC2.out _) | (go_at_call 100; with_reducible exact HC3.out _))) | quiet_step ((first | (go_at_call 97; with_reducible exact HC1.out _) | (go_at_call 54; with_reducible exact HC2.out _) | (go_at_call 100; with_reducible exact HC3.out _))))
  refine wpQuiet_nil ?_
  intro _ hw'
  obtain ⟨p5, hw''⟩ := hw'
  subst hw''
  have HB5 := hid (HWA.out.trans (p5.hb.mono hwz8))
  generalize p5.W = w5 at *
  clear f0 f1 f2 f3 f4 HC1 HC2 HC3
  go_wp2
  go_ret
  exact ⟨by rw [HCB.out]; rfl, HB5.out⟩
 | true =>
  rw [Bool.true_and] at HCB
  by_cases hl : l = m
  ·subst hl
   rw [decide_eq_true rfl, Bool.true_and] at HCB
   have hd : ((l : Int) != (l : Int)) = false := by simp
   refine wp_region_later (by kernel_rfl) (by kernel_rfl) ?_
   repeat (first | go_big_quiet_step ((first | (go_at_call 97; with_reducible exact HC1.out _) | (go_at_call 54; with_reducible exact HC2.out _) | (go_at_call 100; with_reducible exact HC3.out _))) | quiet_step ((first | (go_at_call 97; with_reducible exact HC1.out _) | (go_at_call 54; with_reducible exact HC2.out _) | (go_at_call 100; with_reducible exact HC3.out _))))
   refine wpQuiet_nil ?_
   intro _ hw'
   obtain ⟨p5, hw''⟩ := hw'
   subst hw''
   have HB5 := hid (HWA.out.trans (p5.hb.mono hwz8))
   generalize p5.W = w5 at *
   clear f0 f1 f2 f3 f4 HC1 HC2 HC3
   go_wp2
   go_ret
   exact ⟨by rw [HCB.out]; rfl, HB5.out⟩
  ·rw [decide_eq_false hl, Bool.false_and] at HCB
   have hd : ((l : Int) != (m : Int)) = true := by simp; omega
   refine wp_region_later (by kernel_rfl) (by kernel_rfl) ?_
   repeat (first | go_big_quiet_step ((first | (go_at_call 97; with_reducible exact HC1.out _) | (go_at_call 54; with_reducible exact HC2.out _) | (go_at_call 100; with_reducible exact HC3.out _))) | quiet_step ((first | (go_at_call 97; with_reducible exact HC1.out _) | (go_at_call 54; with_reducible exact HC2.out _) | (go_at_call 100; with_reducible exact HC3.out _))))
   refine wpQuiet_nil ?_
   intro _ hw'
   obtain ⟨p5, hw''⟩ := hw'
   subst hw''
   have HB5 := hid (HWA.out.trans (p5.hb.mono hwz8))
   generalize p5.W = w5 at *
   clear f0 f1 f2 f3 f4 HC1 HC2 HC3
   go_wp2
   go_ret
   exact ⟨by rw [HCB.out]; rfl, HB5.out⟩
def FoundP (w : World) (all : Bool) (e : Ending) (w' : World) : Prop := ∃ r : Int, e = .returned (.int .i64 r) ∧ ((all = true ∧ r = -1) ∨ (all = false ∧ 0 ≤ r)) ∧ Below w.heap.size w w'
set_option maxRecDepth 100000 in
set_option maxHeartbeats 2000000 in
theorem index_colsB (t : Ta) (ca : Option Addr) (cc : Nat) (tb B : Nat) (w : World) (hb : TabBox w tb t ca cc) (hv : RdCo w (· < B) (.slice ca t.cols.length cc) t.cols) (hB : B ≤ w.heap.size) (hz : SzC t.cols) (hm : rowsC t.cols ≤ 4096) (hT : Tabs w) :
  Calls Tryz.prog 51 #[.slice ca t.cols.length cc, .func (.func 99) #[] #[.pointer (some ⟨tb, 0, none⟩)]] w (FoundP w (t.cols.all (colB (rowsC t.cols)))) := by
 have hbl := hb.lt
 obtain ⟨cv, hcv, hcl⟩ := id hv
 have HCL := hid hcl
 have HV1 := hid (fun q (hq : q < t.cols.length) W (hW : Below w.heap.size w W) => (by
  have h1 := hz _ (getD_mem (l := t.cols) (i := q) hq Co.z)
  exact table_Valid1B t ca cc (t.cols.getD q Co.z) (cv q) tb B W (BoxN.below hb hW hbl) (hv.keep fun p (hp : p.block < B) => hW.cell (p := p) (by omega)) ((hcl q hq).keep fun p (hp : p.block < B) => hW.cell (p := p) (by omega)) (by have := hW.size; omega) h1.1 h1.2 (hT.below hW) hm :
   Calls Tryz.prog 99 #[.agg #[.string (t.cols.getD q Co.z).name, cv q], .pointer (some ⟨tb, 0, none⟩)] W (Ret W (.bool (!colB (rowsC t.cols) (t.cols.getD q Co.z))))))
 have HANO := hid (fun q (hq : q < t.cols.length) (h : colB (rowsC t.cols) (t.cols.getD q Co.z) = false) => all_no hq h)
 have HAUP := hid (fun q (hq : q < t.cols.length) hp (h : colB (rowsC t.cols) (t.cols.getD q Co.z) = true) => all_up hq hp h)
 have HAEN := hid (fun h => all_end (p := colB (rowsC t.cols)) (l := t.cols) (n := t.cols.length) rfl h)
 generalize colB (rowsC t.cols) = cb at *
 obtain ⟨a, k, ea, hk, hmx, hrd⟩ := hcv
 obtain ⟨rfl, -, rfl⟩ := Value.slice.inj ea
 have HRD := hid hrd
 clear hb hv hcl ea hT hrd hz hm
 generalize t.cols = xs at *
 generalize hxl : xs.length = L at *
 have HXL := hid hxl
 clear hxl
 unfold maxLen at hmx
 go_enter Tryz.func51, Tryz.ntmps51
 go_wp2_with fail
 go_loopg [8] L (fun N i wr => ∃ q : Nat, q + N = L ∧ i = .int .i64 (q : Int) ∧ Hid (Below w.heap.size w wr) ∧ Hid ((xs.take q).all cb = true))
 case atStart => exact ⟨0, by omega, rfl, hid (Below.refl _ _), hid rfl⟩
 case round =>
  obtain ⟨q, hq, rfl, HB, HALL⟩ := hrel
  by_cases hp : 0 < gk
  ·obtain ⟨b, o, rfl, hb, hcell⟩ := HRD.out (by omega)
   have hbw : b < w.heap.size := by have : b < B := hb; omega
   obtain ⟨qa, qc, hcq, -, -, -⟩ := HCL.out q (by omega)
   have k0 : wr.cell? ⟨b, o + q * 2, none⟩ = some (.string (xs.getD q Co.z).name) := (HB.out.cell (p := ⟨b, o + q * 2, none⟩) hbw).trans (hcell q (by omega) 0 (by omega))
   have k1 : wr.cell? ⟨b, o + q * 2 + 1, none⟩ = some (cv q) := (HB.out.cell (p := ⟨b, o + q * 2 + 1, none⟩) hbw).trans (hcell q (by omega) 1 (by omega))
   have HVQ := hid (HV1.out q (by omega) wr HB.out)
   have HANQ := hid (HANO.out q (by omega))
   have HAUQ := hid (HAUP.out q (by omega) HALL.out)
   rw [hcq] at k1 HVQ
   clear hcell hcq
   generalize cb (xs.getD q Co.z) = bx at *
   generalize (xs.getD q Co.z).cells.length = l at *
   generalize (xs.getD q Co.z).name = nm at *
   go_wp2_with fail
   with_reducible refine HVQ.out.mono ?_
   rintro e w6 ⟨rfl, hb6⟩
   have HB6 := hid (HB.out.trans (hb6.mono HB.out.size))
   clear hb6 k0 k1
   cases bx with
   | false =>
    go_wp2
    go_ret
    exact ⟨_, rfl, .inr ⟨HANQ.out (by simp), by omega⟩, HB6.out⟩
   | true =>
    go_wp2_with fail
    go_roundg (gk - 1)
    case rel => exact ⟨q + 1, by omega, by go_num, hid HB6.out, hid (HAUQ.out (by simp))⟩
    case measure => omega
  ·obtain rfl : q = L := by omega
   go_wp2
   go_ret
   exact ⟨_, rfl, .inl ⟨HAEN.out HALL.out, rfl⟩, HB.out⟩
theorem contains_colsB (t : Ta) (ca : Option Addr) (cc : Nat) (tb B : Nat) (w : World) (hb : TabBox w tb t ca cc) (hv : RdCo w (· < B) (.slice ca t.cols.length cc) t.cols) (hB : B ≤ w.heap.size) (hz : SzC t.cols) (hm : rowsC t.cols ≤ 4096) (hT : Tabs w) :
  Calls Tryz.prog 98 #[.slice ca t.cols.length cc, .func (.func 99) #[] #[.pointer (some ⟨tb, 0, none⟩)]] w (Ret w (.bool (!t.cols.all (colB (rowsC t.cols))))) := by
 have HI := hid (index_colsB t ca cc tb B w hb hv hB hz hm hT)
 clear hb hv hz hm hT
 generalize t.cols.all (colB (rowsC t.cols)) = A at *
 generalize t.cols.length = n at *
 go_enter Tryz.func98, Tryz.ntmps98
 go_wp2_with fail
 with_reducible refine HI.out.mono ?_
 rintro e w1 ⟨r, rfl, hr, hb1⟩
 have HB1 := hid hb1
 clear hb1
 rcases hr with ⟨rfl, rfl⟩ | ⟨rfl, hr⟩
 ·go_wp2
  go_ret
  exact ⟨rfl, HB1.out⟩
 ·have hd : decide (0 ≤ r) = true := decide_eq_true hr
  go_wp2
  go_ret
  exact ⟨rfl, HB1.out⟩
set_option maxRecDepth 100000 in
set_option maxHeartbeats 2000000 in
theorem table_ValidB (t : Ta) (v : Value) (B : Nat) (w : World) (hz : SzT t) (hv : RdCo w (· < B) v t.cols) (hB : B ≤ w.heap.size) (hT : Tabs w) :
  Calls Tryz.prog 53 #[.agg #[.int .i64 t.id, .string t.name, v]] w (Ret w (.bool (tabB t))) := by
 obtain ⟨ca, cc, hcm, rfl⟩ : ∃ ca cc, t.cols.length ≤ maxLen ∧ v = .slice ca t.cols.length cc := by
  obtain ⟨cv, ⟨a, c, e, h1, h2, -⟩, -⟩ := hv
  exact ⟨a, c, Nat.le_trans h1 h2, e⟩
 unfold maxLen at hcm
 have hrm : rowsC t.cols ≤ 9223372036854775807 := by
  obtain ⟨cv, -, hcl⟩ := hv
  by_cases h : 0 < t.cols.length
  ·obtain ⟨a, c, -, h1, h2, -⟩ := hcl 0 h
   unfold maxLen at h2
   unfold rowsC
   omega
  ·rw [List.eq_nil_of_length_eq_zero (l := t.cols) (by omega)]
   decide
 have HF := hid (fun W (hW : Below w.heap.size w W) => table_fineB t.name W hz.2.1 (hT.below hW))
 have HR := hid (fun W (hW : Below w.heap.size w W) => table_Rows t.id t.name _ t.cols B W (hv.keep fun p (hp : p.block < B) => hW.cell (p := p) (by omega)) (by have := hW.size; omega))
 have HC := hid (fun (hm : rowsC t.cols ≤ 4096) tb W (hW : Below w.heap.size w W) (hbx : TabBox W tb t ca cc) => contains_colsB t ca cc tb B W hbx (hv.keep fun p (hp : p.block < B) => hW.cell (p := p) (by omega)) (by have := hW.size; omega) hz.2.2 hm (hT.below hW))
 have HTB : Hid (tabB t = (decide (0 ≤ t.id ∧ t.id ≤ 1073741824) && (fineB t.name && (decide (t.cols.length ≤ 64) && t.cols.all (colB (rowsC t.cols)))))) := hid rfl
 have HBIG : Hid (¬ rowsC t.cols ≤ 4096 → t.cols.all (colB (rowsC t.cols)) = false) := hid (fun h => by
  have h0 : 0 < t.cols.length := by
   rcases Nat.eq_zero_or_pos t.cols.length with e | e
   ·rw [List.eq_nil_of_length_eq_zero e] at h
    exact absurd (by decide) h
   ·exact e
  refine all_no (q := 0) (d := Co.z) h0 ?_
  unfold colB
  rw [decide_eq_false h, Bool.false_and, Bool.and_false])
 clear hv hT hz
 obtain ⟨id, nm, cols⟩ := t
 unfold TabBox at HC
 simp only at HF HR HC HTB HBIG hrm hcm ⊢
 generalize tabB ⟨id, nm, cols⟩ = R at *
 generalize cols.all (colB (rowsC cols)) = A at *
 generalize rowsC cols = m at *
 generalize cols.length = n at *
 generalize fineB nm = bf at *
 have HWA : Hid (Below w.heap.size w (w.alloc (.cells #[.int .i64 id, .string nm, .slice ca n cc] 24))) := hid ((Below.refl _ _).alloc (Nat.le_refl _) _)
 have HX := hid (BoxN.new w #[.int .i64 id, .string nm, .slice ca n cc] 24)
 have x0 := HX.out.cell 0 rfl
 have x1 := HX.out.cell 1 rfl
 have x2 := HX.out.cell 2 rfl
 by_cases hi0 : id < 0
 ·have hd : decide (id < 0) = true := decide_eq_true hi0
  have hR : R = false := by rw [HTB.out, decide_eq_false (by omega)]; rfl
  subst hR
  go_enter Tryz.func53, Tryz.ntmps53
  go_wp2
  go_ret
  exact ⟨rfl, HWA.out⟩
 have hd1 : decide (id < 0) = false := decide_eq_false hi0
 by_cases hi1 : 1073741824 < id
 ·have hd : decide (1073741824 < id) = true := decide_eq_true hi1
  have hR : R = false := by rw [HTB.out, decide_eq_false (by omega)]; rfl
  subst hR
  go_enter Tryz.func53, Tryz.ntmps53
  go_wp2
  go_ret
  exact ⟨rfl, HWA.out⟩
 have hd2 : decide (1073741824 < id) = false := decide_eq_false hi1
 rw [decide_eq_true (show 0 ≤ id ∧ id ≤ 1073741824 by omega), Bool.true_and] at HTB
 clear hi0 hi1
 go_enter Tryz.func53, Tryz.ntmps53
 go_wp2_with fail
 with_reducible refine (HF.out _ HWA.out).mono ?_
 generalize w.alloc (.cells #[.int .i64 id, .string nm, .slice ca n cc] 24) = W1 at *
 rintro e w2 ⟨rfl, hb2⟩
 have HB2 := hid (HWA.out.trans (hb2.mono HWA.out.size))
 have HX2 := hid (HX.out.below hb2 HX.out.lt)
 clear hb2 x0 x1 x2 HWA HX hd1 hd2
 have x0 := HX2.out.cell 0 rfl
 have x1 := HX2.out.cell 1 rfl
 have x2 := HX2.out.cell 2 rfl
 cases bf with
 | false =>
  have hR : R = false := by rw [HTB.out]; rfl
  subst hR
  go_wp2
  go_ret
  exact ⟨rfl, HB2.out⟩
 | true =>
  rw [Bool.true_and] at HTB
  by_cases hn : 64 < n
  ·have hd3 : decide ((64 : Int) < (n : Int)) = true := decide_eq_true (by omega)
   have hR : R = false := by rw [HTB.out, decide_eq_false (by omega)]; rfl
   subst hR
   go_wp2
   go_ret
   exact ⟨rfl, HB2.out⟩
  have hd3 : decide ((64 : Int) < (n : Int)) = false := decide_eq_false (by omega)
  rw [decide_eq_true (show n ≤ 64 by omega), Bool.true_and] at HTB
  go_wp2_with fail
  with_reducible refine (HR.out _ HB2.out).mono ?_
  rintro e w3 ⟨rfl, hb3⟩
  have HB3 := hid (HB2.out.trans (hb3.mono HB2.out.size))
  have HX3 := hid (HX2.out.below hb3 HX2.out.lt)
  clear hb3 x0 x1 x2 HB2 HX2
  have x0 := HX3.out.cell 0 rfl
  have x1 := HX3.out.cell 1 rfl
  have x2 := HX3.out.cell 2 rfl
  by_cases hm : m ≤ 4096
  ·have hd4 : decide ((4096 : Int) < (m : Int)) = false := decide_eq_false (by omega)
   have HC2 := hid (HC.out hm)
   go_wp2_with fail
   with_reducible refine (HC2.out _ _ HB3.out HX3.out).mono ?_
   rintro e w4 ⟨rfl, hb4⟩
   have HB4 := hid (HB3.out.trans (hb4.mono HB3.out.size))
   clear hb4 x0 x1 x2
   go_wp2
   go_ret
   exact ⟨ret_bool (by simp [HTB.out]), HB4.out⟩
  ·have hd4 : decide ((4096 : Int) < (m : Int)) = true := decide_eq_true (by omega)
   have hR : R = false := by rw [HTB.out, HBIG.out hm]
   subst hR
   go_wp2
   go_ret
   exact ⟨rfl, HB3.out⟩
end Go.Proofs.YthblaeleogdfpaaGreatDoor

namespace Go.Proofs.YthblaeleogdfpaaGreatDoor
open Go.RowKit
theorem tabV_ofB {t : Ta} (h : tabB t = true) : TabV t := by
 unfold tabB at h
 simp only [Bool.and_eq_true, decide_eq_true_eq] at h
 obtain ⟨⟨h0, h1⟩, hn, hl, hc⟩ := h
 have hcol : ∀ x ∈ t.cols, fineB x.name = true ∧ rowsC t.cols ≤ 4096 ∧ x.cells.length = rowsC t.cols ∧ ∀ c ∈ x.cells, CellOk c := fun x hx => by
  have h2 := List.all_eq_true.1 hc x hx
  unfold colB at h2
  simp only [Bool.and_eq_true, decide_eq_true_eq] at h2
  refine ⟨h2.1, h2.2.1, h2.2.2.1, fun c hc => ?_⟩
  have h3 := List.all_eq_true.1 h2.2.2.2 c hc
  unfold cellB at h3
  rw [Bool.and_eq_true, Bool.or_eq_true] at h3
  refine ⟨fun hnl => ?_, fineB_text h3.1⟩
  rcases h3.2 with h4 | h4
  ·rw [hnl] at h4; cases h4
  ·exact of_decide_eq_true h4
 refine ⟨h0, h1, fineB_text hn, hl, ?_⟩
 by_cases hz : t.cols = []
 ·exact ⟨0, by omega, fun x hx => by rw [hz] at hx; cases hx⟩
 ·obtain ⟨y, ys, hy⟩ := List.exists_cons_of_ne_nil hz
  exact ⟨rowsC t.cols, (hcol y (by rw [hy]; simp)).2.1, fun x hx => ⟨fineB_text (hcol x hx).1, (hcol x hx).2.2.1, (hcol x hx).2.2.2⟩⟩
theorem fineB_of {s : ByteArray} (h : TextOk 1024 s) : fineB s = true := by
 unfold fineB
 rw [Bool.and_eq_true, decide_eq_true_eq]
 exact h
theorem tabB_of {t : Ta} (h : TabV t) : tabB t = true := by
 obtain ⟨h0, h1, hn, hl, n, hn4, hc⟩ := h
 unfold tabB
 simp only [Bool.and_eq_true, decide_eq_true_eq]
 refine ⟨⟨h0, h1⟩, fineB_of hn, hl, List.all_eq_true.2 fun x hx => ?_⟩
 have hr : rowsC t.cols = n := by
  cases he : t.cols with
  | nil => rw [he] at hx; cases hx
  | cons y ys => exact (hc y (by rw [he]; simp)).2.1
 obtain ⟨h2, h3, h4⟩ := hc x hx
 unfold colB
 simp only [Bool.and_eq_true, decide_eq_true_eq]
 refine ⟨fineB_of h2, by rw [hr]; exact hn4, by rw [hr]; exact h3, List.all_eq_true.2 fun c hc => ?_⟩
 obtain ⟨h5, h6⟩ := h4 c hc
 unfold cellB
 rw [Bool.and_eq_true, Bool.or_eq_true]
 refine ⟨fineB_of h6, ?_⟩
 cases hnl : c.null with
 | false => exact .inl rfl
 | true => exact .inr (decide_eq_true (h5 hnl))
theorem cmpC_zero {a b : Cl} (ha : CellOk a) (hb : CellOk b) : cmpC a b = 0 ↔ a = b := by
 obtain ⟨an, s⟩ := a
 obtain ⟨bn, t⟩ := b
 have ha1 := ha.1
 have hb1 := hb.1
 simp only at ha1 hb1
 unfold cmpC
 cases an <;> cases bn
 ·simp only [Bool.false_eq_true, false_and, if_false, and_false]
  by_cases e : s = t
  ·subst e
   rw [if_neg (by rw [sl_irrefl]; simp), if_pos rfl]
   simp
  ·constructor
   ·intro h
    by_cases h2 : sl s t = true
    ·rw [if_pos h2] at h; omega
    ·rw [if_neg h2, if_neg e] at h; omega
   ·intro h
    injection h with _ h2
    exact absurd h2 e
 ·simp
 ·simp
 ·rw [ha1 rfl, hb1 rfl]
  simp
def eqAt (xs ys : List Co) (al : List Nat) (x y : Nat) : Bool := decide (rowAt xs (ownL xs) x = rowAt ys al y)
theorem ownR_at (xs : List Co) {x i : Nat} (hi : i < xs.length) : (rowAt xs (ownL xs) x).getD i Cl.z = cellAt xs i x := by
 simp [rowAt, ownL, List.getD, hi]
theorem row_at (ys : List Co) {al : List Nat} {y i : Nat} (hi : i < al.length) : (rowAt ys al y).getD i Cl.z = cellAt ys (al.getD i 0) y := by
 simp [rowAt, List.getD, hi]
theorem eqAt_no {xs ys : List Co} {al : List Nat} {x y i : Nat} (hl : al.length = xs.length) (hi : i < xs.length) (h : cellAt xs i x ≠ cellAt ys (al.getD i 0) y) : eqAt xs ys al x y = false := by
 refine decide_eq_false fun e => h ?_
 rw [← ownR_at xs hi, e, row_at ys (by omega)]
theorem eqAt_yes {xs ys : List Co} {al : List Nat} {x y : Nat} (hl : al.length = xs.length) (h : ∀ i, i < xs.length → cellAt xs i x = cellAt ys (al.getD i 0) y) : eqAt xs ys al x y = true := by
 refine decide_eq_true (row_ext (xs := ys) (al := al) (by rw [rowAt_len]; simp [ownL, hl]) (rowAt_len _ _ _) fun k hk => ?_)
 rw [ownR_at xs (by omega), row_at ys hk, h k (by omega)]
set_option maxRecDepth 100000 in
set_option maxHeartbeats 4000000 in
theorem ref36_equal (i1 i2 : Int) (n1 n2 : ByteArray) (v u lv : Value) (xs ys : List Co) (al : List Nat) (x y B : Nat) (w : World) (hv : RdCo w (· < B) v xs) (hu : RdCo w (· < B) u ys)
  (hl : InK 1 w (· < B) lv al.length (fun j _ => .int .i64 ((al.getD j 0 : Nat) : Int))) (hB : B ≤ w.heap.size) (hal : al.length = xs.length) (hk : ∀ i, i < xs.length → al.getD i 0 < ys.length)
  (hx : ∀ c ∈ xs, x < c.cells.length ∧ c.cells.length ≤ 1048576 ∧ ∀ d ∈ c.cells, CellOk d) (hy : ∀ c ∈ ys, y < c.cells.length ∧ c.cells.length ≤ 1048576 ∧ ∀ d ∈ c.cells, CellOk d)
  (hyl : ys.length ≤ 1048576) (hx2 : x < 1048576) (hy2 : y < 1048576) :
  Calls Tryz.prog 58 #[.agg #[.int .i64 i1, .string n1, v], .agg #[.int .i64 i2, .string n2, u], lv, .int .i64 (x : Int), .int .i64 (y : Int)] w (Ret w (.bool (eqAt xs ys al x y))) := by
 have HNO := hid (fun i (hi : i < xs.length) => @eqAt_no xs ys al x y i hal hi)
 have HYES := hid (fun h => @eqAt_yes xs ys al x y hal h)
 have HXC := hid (fun i (hi : i < xs.length) => hx _ (getD_mem hi Co.z))
 have HYC := hid (fun i (hi : i < ys.length) => hy _ (getD_mem hi Co.z))
 have HK := hid hk
 rw [hal] at hl
 obtain ⟨cv, ⟨a, c, rfl, hc, hm, hr⟩, hcl⟩ := hv
 obtain ⟨cu, ⟨a2, c2, rfl, hc2, hm2, hr2⟩, hcl2⟩ := hu
 obtain ⟨a3, c3, rfl, hc3, hm3, hr3⟩ := hl
 have HR := hid hr
 have HR2 := hid hr2
 have HR3 := hid hr3
 have HC := hid hcl
 have HC2 := hid hcl2
 generalize eqAt xs ys al x y = R at *
 clear hr hr2 hr3 hcl hcl2 hal hk hx hy
 generalize xs.length = n at *
 generalize ys.length = m at *
 unfold maxLen at hm hm2 hm3
 have HX1 := hid ((BoxN.new w #[.int .i64 i1, .string n1, .slice a n c] 24).alloc (.cells #[.int .i64 i2, .string n2, .slice a2 m c2] 24))
 have hx2' := BoxN.new (w.alloc (.cells #[.int .i64 i1, .string n1, .slice a n c] 24)) #[.int .i64 i2, .string n2, .slice a2 m c2] 24
 rw [World.size_alloc] at hx2'
 have HX2 := hid hx2'
 have HB0 : Hid (Below w.heap.size w ((w.alloc (.cells #[.int .i64 i1, .string n1, .slice a n c] 24)).alloc (.cells #[.int .i64 i2, .string n2, .slice a2 m c2] 24))) := hid (((Below.refl _ w).alloc (Nat.le_refl _) _).alloc (by simp) _)
 have hz0 : ((w.alloc (.cells #[.int .i64 i1, .string n1, .slice a n c] 24)).alloc (.cells #[.int .i64 i2, .string n2, .slice a2 m c2] 24)).heap.size = w.heap.size + 2 := by simp
 clear hx2'
 go_enter Tryz.func58, Tryz.ntmps58
 generalize hLA : Code.loop _ = LA
 go_wp2_with fail
 generalize (w.alloc (.cells #[.int .i64 i1, .string n1, .slice a n c] 24)).alloc (.cells #[.int .i64 i2, .string n2, .slice a2 m c2] 24) = W0 at *
 subst hLA
 go_loopg [15] n (fun N i wr => ∃ q : Nat, q + N = n ∧ i = .int .i64 (q : Int) ∧ Hid (Below W0.heap.size W0 wr) ∧ Hid (∀ j, j < q → cellAt xs j x = cellAt ys (al.getD j 0) y))
 case atStart => exact ⟨0, by omega, rfl, hid (Below.refl _ _), hid (fun j h => absurd h (by omega))⟩
 case round =>
  obtain ⟨q, hq, rfl, HB, HALL⟩ := hrel
  have hwz := HB.out.size
  by_cases hp : 0 < gk
  ·have hqn : q < n := by omega
   have HBW := hid (HB0.out.trans (HB.out.mono (by omega)))
   obtain ⟨b, o, rfl, hb, hcell⟩ := HR.out (by omega)
   obtain ⟨b3, o3, rfl, hb3, hcell3⟩ := HR3.out (by omega)
   have hkq := HK.out q hqn
   obtain ⟨b2, o2, rfl, hb2, hcell2⟩ := HR2.out (by omega)
   have hbw : b < B := hb
   have hbw2 : b2 < B := hb2
   have hbw3 : b3 < B := hb3
   have k0 : wr.cell? ⟨b, o + q * 2, none⟩ = some (.string (xs.getD q Co.z).name) := (HBW.out.cell (p := ⟨b, o + q * 2, none⟩) (by show b < w.heap.size; omega)).trans (hcell q (by omega) 0 (by omega))
   have k1 : wr.cell? ⟨b, o + q * 2 + 1, none⟩ = some (cv q) := (HBW.out.cell (p := ⟨b, o + q * 2 + 1, none⟩) (by show b < w.heap.size; omega)).trans (hcell q (by omega) 1 (by omega))
   have r0 : wr.cell? ⟨b3, o3 + q, none⟩ = some (.int .i64 ((al.getD q 0 : Nat) : Int)) := (HBW.out.cell (p := ⟨b3, o3 + q, none⟩) (by show b3 < w.heap.size; omega)).trans (by have := hcell3 q (by omega) 0 (by omega); simpa using this)
   have HEQ1 := hid (HNO.out q hqn)
   have HALL2 : Hid (cellAt xs q x = cellAt ys (al.getD q 0) y → ∀ j, j < q + 1 → cellAt xs j x = cellAt ys (al.getD j 0) y) := hid (fun h j hj => by
    rcases Nat.lt_or_ge j q with h3 | h3
    ·exact HALL.out j h3
    ·obtain rfl : j = q := by omega
     exact h)
   generalize al.getD q 0 = k at *
   have l1 : wr.cell? ⟨b2, o2 + k * 2 + 1, none⟩ = some (cu k) := (HBW.out.cell (p := ⟨b2, o2 + k * 2 + 1, none⟩) (by show b2 < w.heap.size; omega)).trans (hcell2 k hkq 1 (by omega))
   obtain ⟨ca, ck, hcq, hck1, hck2, hcc⟩ := HC.out q hqn
   obtain ⟨ca2, ck2, hcq2, hck3, hck4, hcc2⟩ := HC2.out k hkq
   have hxl := (HXC.out q hqn).1
   have hyl' := (HYC.out k hkq).1
   have hc1 := (HXC.out q hqn).2.2 _ (getD_mem hxl Cl.z)
   have hd1 := (HYC.out k hkq).2.2 _ (getD_mem hyl' Cl.z)
   obtain ⟨b4, o4, rfl, hb4, hcell4⟩ := hcc (by omega)
   obtain ⟨b5, o5, rfl, hb5, hcell5⟩ := hcc2 (by omega)
   have hbw4 : b4 < B := hb4
   have hbw5 : b5 < B := hb5
   have e0 : wr.cell? ⟨b4, o4 + x * 2, none⟩ = some (.bool (cellAt xs q x).null) := (HBW.out.cell (p := ⟨b4, o4 + x * 2, none⟩) (by show b4 < w.heap.size; omega)).trans (hcell4 x hxl 0 (by omega))
   have e1 : wr.cell? ⟨b4, o4 + x * 2 + 1, none⟩ = some (.string (cellAt xs q x).text) := (HBW.out.cell (p := ⟨b4, o4 + x * 2 + 1, none⟩) (by show b4 < w.heap.size; omega)).trans (hcell4 x hxl 1 (by omega))
   have e2 : wr.cell? ⟨b5, o5 + y * 2, none⟩ = some (.bool (cellAt ys k y).null) := (HBW.out.cell (p := ⟨b5, o5 + y * 2, none⟩) (by show b5 < w.heap.size; omega)).trans (hcell5 y hyl' 0 (by omega))
   have e3 : wr.cell? ⟨b5, o5 + y * 2 + 1, none⟩ = some (.string (cellAt ys k y).text) := (HBW.out.cell (p := ⟨b5, o5 + y * 2 + 1, none⟩) (by show b5 < w.heap.size; omega)).trans (hcell5 y hyl' 1 (by omega))
   have hz := cmpC_zero (a := cellAt xs q x) (b := cellAt ys k y) hc1 hd1
   rw [hcq] at k1
   rw [hcq2] at l1
   generalize cellAt xs q x = ce at *
   generalize cellAt ys k y = de at *
   have HZ := hid hz
   have hx10 : wr.cell? ⟨w.heap.size, 2, none⟩ = some (.slice (some ⟨b, o, none⟩) n c) := (HX1.out.below HB.out HX1.out.lt).cell 2 rfl
   have hx20 : wr.cell? ⟨w.heap.size + 1, 2, none⟩ = some (.slice (some ⟨b2, o2, none⟩) m c2) := (HX2.out.below HB.out HX2.out.lt).cell 2 rfl
   have HCALL := hid (fun p : LaterOf wr => later_call p (ref_CompareCells ce de p.W))
   generalize cmpC ce de = r at *
   have hl1 := (HXC.out q hqn).2.1
   have hl2 := (HYC.out k hkq).2.1
   generalize (xs.getD q Co.z).cells.length = l1 at *
   generalize (ys.getD k Co.z).cells.length = l2 at *
   clear hz hc1 hd1 hcell hcell2 hcell3 hcell4 hcell5 hcc hcc2 hcq hcq2 k0
   go_wp2_with fail
   have f1 := fun p : LaterOf wr => p.cell k1
   have f2 := fun p : LaterOf wr => p.cell l1
   have f3 := fun p : LaterOf wr => p.cell e0
   have f4 := fun p : LaterOf wr => p.cell e1
   have f5 := fun p : LaterOf wr => p.cell e2
   have f6 := fun p : LaterOf wr => p.cell e3
   have f7 := fun p : LaterOf wr => p.cell hx10
   have f8 := fun p : LaterOf wr => p.cell hx20
   clear k1 l1 e0 e1 e2 e3 hx10 hx20 r0
   by_cases hr0 : r = 0
   ·have HE := hid (HALL2.out (HZ.out.1 hr0))
    subst hr0
    refine wp_region_later (by kernel_rfl) (by kernel_rfl) ?_
    repeat (first | go_big_quiet_step ((go_at_call 106; exact HCALL.out _)) | quiet_step ((go_at_call 106; exact HCALL.out _)))
    refine wpQuiet_nil ?_
    intro _ hw'
    obtain ⟨p5, rfl⟩ := hw'
    have HB5 := hid (HB.out.trans (p5.hb.mono hwz))
    generalize p5.W = w5 at *
    clear f1 f2 f3 f4 f5 f6 f7 f8 HCALL
    go_wp2
    go_roundg (gk - 1)
    case rel => exact ⟨q + 1, by omega, by go_num, HB5, HE⟩
    case measure => omega
   ·have hR : R = false := HEQ1.out (fun h => hr0 (HZ.out.2 h))
    have hd : (r != 0) = true := by simpa using hr0
    subst hR
    clear hr0
    refine wp_region_later (by kernel_rfl) (by kernel_rfl) ?_
    repeat (first | go_big_quiet_step ((go_at_call 106; exact HCALL.out _)) | quiet_step ((go_at_call 106; exact HCALL.out _)))
    refine wpQuiet_nil ?_
    intro _ hw'
    obtain ⟨p5, rfl⟩ := hw'
    have HB5 := hid (HBW.out.trans (p5.hb.mono (Nat.le_trans HB0.out.size hwz)))
    generalize p5.W = w5 at *
    clear f1 f2 f3 f4 f5 f6 f7 f8 HCALL
    go_wp2
    go_ret
    exact ⟨rfl, HB5.out⟩
  ·obtain rfl : q = n := by omega
   have hR : R = true := HYES.out HALL.out
   subst hR
   have HBE := hid (HB0.out.trans (HB.out.mono (by omega)))
   go_wp2
   go_ret
   exact ⟨rfl, HBE.out⟩
end Go.Proofs.YthblaeleogdfpaaGreatDoor
