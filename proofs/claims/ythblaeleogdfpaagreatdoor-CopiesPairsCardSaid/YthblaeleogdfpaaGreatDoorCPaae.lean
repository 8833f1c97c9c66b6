/- Contracts of table.fine, ValidCell, every, Valid, ValidList, at any contents. DERIVED: THE SHELF's CONTRACTS AT THIS DUMP, IN PLAIN WORDS (tools/lay-plain.mjs out of 'YthblaeleogdfpaaGreatDoorShCL.lean', which tools/lay-shelf.mjs wrote): THE SAME DECLARATIONS UNDER THE SAME NAMES: 'import', 'namespace', 'open', 'def', 'theorem' AND NOTHING ELSE: no command of the shelf's: FOR A HAND-IN. Each laying: the table of numbers ('.._ren') and one theorem, a field a fact of the dump's own or the kernel's comparison; each contract: ONE APPLICATION. -/
import Derived.Test.YthblaeleogdfpaaGreatDoorCPaac
import Derived.Test.YthblaeleogdfpaaGreatDoorCPaad
import Derived.Shelf.SlicesG.Clone
import Derived.Shelf.SlicesG.CompactS
import Derived.Shelf.SlicesG.Equal
import Derived.Shelf.SortM.Plain
import Derived.Shelf.SortM.SortNone
import Derived.Shelf.Strconv.Itoa3
import Derived.Shelf.SlicesQ.IndexFunc
import Derived.Ground.SlgnProg
import Derived.Ground.SlgmProg
import Derived.Test.YthblaeleogdfpaaGreatDoorProg
set_option linter.unusedVariables false
set_option linter.unusedSimpArgs false
namespace Go.Proofs.YthblaeleogdfpaaGreatDoor
open Go.RowKit
theorem table_fineB (s : ByteArray) (w : World) (hs : s.size ≤ 9223372036854775807) (hT : Tabs w) : Calls Tryz.prog 97 #[.string s] w (Ret w (.bool (fineB s))) := by
  have HV := hid (text_Valid s w hs hT)
  have HF : Hid (fineB s = (decide (s.size ≤ 1024) && Lib.validD s.data.toList)) := hid rfl
  generalize Lib.validD s.data.toList = b at *
  generalize fineB s = r at *
  clear hT
  by_cases h : s.size ≤ 1024
  · have hd : decide ((s.size : Int) ≤ 1024) = true := decide_eq_true (by omega)
    rw [decide_eq_true h, Bool.true_and] at HF
    go_enter Tryz.func97, Tryz.ntmps97
    go_wp2_with fail
    with_reducible refine HV.out.mono ?_
    rintro e w1 ⟨rfl, hb⟩
    have HB := hid hb
    clear hb
    go_wp2
    go_ret
    exact ⟨by rw [HF.out]; rfl, HB.out⟩
  · have hd : decide ((s.size : Int) ≤ 1024) = false := decide_eq_false (by omega)
    rw [decide_eq_false h, Bool.false_and] at HF
    go_enter Tryz.func97, Tryz.ntmps97
    go_wp2
    go_ret
    exact ⟨by rw [HF.out]; rfl, Below.refl _ _⟩
set_option maxHeartbeats 400000 in
theorem table_ValidCellB (c : Cl) (w : World) (hc : c.text.size ≤ 9223372036854775807) (hT : Tabs w) : Calls Tryz.prog 101 #[.agg #[.bool c.null, .string c.text]] w (Ret w (.bool (cellB c))) := by
  obtain ⟨n, t⟩ := c
  simp only at hc
  have hb0 : Below w.heap.size w (w.alloc (.cells #[.bool n, .string t] 104)) := (Below.refl _ _).alloc (Nat.le_refl _) _
  have HV := hid (table_fineB t (w.alloc (.cells #[.bool n, .string t] 104)) hc (hT.below hb0))
  have HF : Hid (cellB ⟨n, t⟩ = (fineB t && (!n || decide (t = ⟨#[]⟩)))) := hid rfl
  generalize fineB t = b at *
  generalize cellB ⟨n, t⟩ = r at *
  have hx := BoxN.new w #[.bool n, .string t] 104
  have HB0 := hid hb0
  have HE := hid (empty_textB t)
  clear hT hb0
  cases b <;> cases n
  all_goals
    go_enter Tryz.func101, Tryz.ntmps101
    go_wp2_with fail
    with_reducible refine HV.out.mono ?_
    rintro e w1 ⟨rfl, hb⟩
    have hx1 := hx.below hb (by simp)
    have c0 := hx1.cell 0 rfl
    have c1 := hx1.cell 1 rfl
    have HB := hid (HB0.out.trans (hb.mono (by simp)))
    clear hb hx1 hx
    go_wp2
    go_ret
    refine ⟨?_, HB.out⟩
    rw [HF.out]
    first | (simp; done) | (simp [HE.out]; done)
set_option maxHeartbeats 1000000 in
theorem every_cellsB (v : Value) (cs : List Cl) (B : Nat) (w : World) (hv : RdCl w (· < B) v cs) (hB : B ≤ w.heap.size) (hc : ∀ c ∈ cs, c.text.size ≤ 9223372036854775807) (hT : Tabs w) :
    Calls Tryz.prog 100 #[v, .func (.func 101) #[] #[]] w (Ret w (.bool (cs.all cellB))) := by
  obtain ⟨a, c, rfl, hcc, hm, hr⟩ := hv
  have HR := hid hr
  have HT := hid hT
  have HC := hid (fun x (hx : x ∈ cs) W hW => table_ValidCellB x W (hc x hx) hW)
  have HANO := hid (fun q (hq : q < cs.length) (h : cellB (cs.getD q Cl.z) = false) => all_no hq h)
  have HAUP := hid (fun q (hq : q < cs.length) hp (h : cellB (cs.getD q Cl.z) = true) => all_up hq hp h)
  have HAEN := hid (fun h => all_end (p := cellB) (l := cs) (n := cs.length) rfl h)
  clear hr hT hc
  generalize hxl : cs.length = n at *
  have HXL := hid hxl
  clear hxl
  unfold maxLen at hm
  go_enter Tryz.func100, Tryz.ntmps100
  go_wp2_with fail
  go_loopg [9] n (fun N i wr => ∃ q : Nat, q + N = n ∧ i = .int .i64 (q : Int) ∧ Hid (Below w.heap.size w wr) ∧ Hid ((cs.take q).all cellB = true))
  case atStart => exact ⟨0, by omega, rfl, hid (Below.refl _ _), hid rfl⟩
  case round =>
    obtain ⟨q, hq, rfl, HB, HALL⟩ := hrel
    by_cases hp : 0 < gk
    · obtain ⟨b, o, rfl, hb, hcell⟩ := HR.out (by omega)
      have hbw : b < w.heap.size := by have : b < B := hb; omega
      have hwz := HB.out.size
      have k0 : wr.cell? ⟨b, o + q * 2, none⟩ = some (.bool (cs.getD q Cl.z).null) := (HB.out.cell (p := ⟨b, o + q * 2, none⟩) hbw).trans (hcell q (by omega) 0 (by omega))
      have k1 : wr.cell? ⟨b, o + q * 2 + 1, none⟩ = some (.string (cs.getD q Cl.z).text) := (HB.out.cell (p := ⟨b, o + q * 2 + 1, none⟩) hbw).trans (hcell q (by omega) 1 (by omega))
      have HCQ := hid (HC.out _ (getD_mem (l := cs) (i := q) (by have := HXL.out; omega) Cl.z))
      have HANQ := hid (HANO.out q (by omega))
      have HAUQ := hid (HAUP.out q (by omega) HALL.out)
      clear hcell
      generalize cs.getD q Cl.z = x at *
      generalize cellB x = bx at *
      obtain ⟨xn, xt⟩ := x
      have HB1 := hid (HB.out.alloc hwz (.cells #[.bool xn, .string xt] 104))
      go_wp2_with fail
      with_reducible refine (HCQ.out _ (HT.out.below HB1.out)).mono ?_
      clear k0 k1
      rintro e w6 ⟨rfl, hb6⟩
      have HB6 := hid (HB1.out.trans (hb6.mono HB1.out.size))
      clear hb6
      cases bx with
      | false =>
        go_wp2
        go_ret
        exact ⟨by rw [HANQ.out (by simp)]; rfl, HB6.out⟩
      | true =>
        go_wp2_with fail
        go_roundg (gk - 1)
        case rel => exact ⟨q + 1, by omega, by go_num, hid HB6.out, hid (HAUQ.out (by simp))⟩
        case measure => omega
    · obtain rfl : q = n := by omega
      go_wp2
      go_ret
      exact ⟨by rw [HAEN.out HALL.out]; rfl, HB.out⟩
set_option maxRecDepth 100000 in
set_option maxHeartbeats 1000000 in
theorem table_Valid1B (t : Ta) (ca : Option Addr) (cc : Nat) (x : Co) (v : Value) (tb B : Nat) (w : World) (hb : TabBox w tb t ca cc) (hv : RdCo w (· < B) (.slice ca t.cols.length cc) t.cols) (hx : RdCl w (· < B) v x.cells) (hB : B ≤ w.heap.size)
  (hn : x.name.size ≤ 9223372036854775807) (hc : ∀ c ∈ x.cells, c.text.size ≤ 9223372036854775807) (hT : Tabs w) (hm : rowsC t.cols ≤ 4096) :
  Calls Tryz.prog 99 #[.agg #[.string x.name, v], .pointer (some ⟨tb, 0, none⟩)] w (Ret w (.bool (!colB (rowsC t.cols) x))) := by
 have HE := hid (fun W (hW : Below w.heap.size w W) => every_cellsB v x.cells B W (hx.keep fun p (hp : p.block < B) => hW.cell (p := p) (by omega)) (by have := hW.size; omega) hc (hT.below hW))
 have HF := hid (fun W (hW : Below w.heap.size w W) => table_fineB x.name W hn (hT.below hW))
 have HR := hid (fun W (hW : Below w.heap.size w W) => table_Rows t.id t.name (.slice ca t.cols.length cc) t.cols B W (hv.keep fun p (hp : p.block < B) => hW.cell (p := p) (by omega)) (by have := hW.size; omega))
 have HCB : Hid (colB (rowsC t.cols) x = (fineB x.name && (decide (x.cells.length = rowsC t.cols) && x.cells.all cellB))) := hid (by unfold colB; rw [decide_eq_true hm, Bool.true_and])
 obtain ⟨xa, xc, rfl, hxc, hxm, -⟩ := hx
 have HBX := hid hb
 have hbl := hb.lt
 clear hb hv hn hc hT
 obtain ⟨xn, xs⟩ := x
 obtain ⟨id, nm, cols⟩ := t
 have hbx := HBX.out
 unfold TabBox at hbx
 unfold maxLen at hxm
 simp only at HE HF HR hbx hm HCB hxc ⊢
 generalize colB (rowsC cols) ⟨xn, xs⟩ = r at *
 generalize rowsC cols = m at *
 generalize cols.length = n at *
 generalize xs.length = l at *
 generalize xs.all cellB = be at *
 generalize fineB xn = bf at *
 have HWA : Hid (Below w.heap.size w (w.alloc (.cells #[.string xn, .slice xa l xc] 30))) := hid ((Below.refl _ _).alloc (Nat.le_refl _) _)
 have hbc := BoxN.new w #[.string xn, .slice xa l xc] 30
 have hbt := hbx.alloc (.cells #[.string xn, .slice xa l xc] 30)
 clear hbx HBX
 go_enter Tryz.func99, Tryz.ntmps99
 go_upto_region 1 with fail
 generalize w.alloc (.cells #[.string xn, .slice xa l xc] 30) = W8 at *
 have hwz8 := HWA.out.size
 have f0 := fun p : LaterOf W8 => p.cell (v := .string xn) (hbc.cell 0 rfl)
 have f1 := fun p : LaterOf W8 => p.cell (v := .slice xa l xc) (hbc.cell 1 rfl)
 have f2 := fun p : LaterOf W8 => p.cell (v := .int .i64 id) (hbt.cell 0 rfl)
 have f3 := fun p : LaterOf W8 => p.cell (v := .string nm) (hbt.cell 1 rfl)
 have f4 := fun p : LaterOf W8 => p.cell (v := .slice ca n cc) (hbt.cell 2 rfl)
 have HC1 := hid (fun p : LaterOf W8 => later_call p (HF.out p.W (HWA.out.trans (p.hb.mono hwz8))))
 have HC2 := hid (fun p : LaterOf W8 => later_call p (HR.out p.W (HWA.out.trans (p.hb.mono hwz8))))
 have HC3 := hid (fun p : LaterOf W8 => later_call p (HE.out p.W (HWA.out.trans (p.hb.mono hwz8))))
 clear hbc hbt HE HF HR
 cases bf with
 | false =>
  rw [Bool.false_and] at HCB
  refine wp_region_later (by kernel_rfl) (by kernel_rfl) ?_
  repeat (first | go_big_quiet_step ((first | (go_at_call 97; with_reducible exact HC1.out _) | (go_at_call 54; with_reducible exact HC2.out _) | (go_at_call 100; with_reducible exact HC3.out _))) | quiet_step ((first | (go_at_call 97; with_reducible exact HC1.out _) | (go_at_call 54; with_reducible exact HC2.out _) | (go_at_call 100; with_reducible exact HC3.out _))))
  refine wpQuiet_nil ?_
  intro _ hw'
  obtain ⟨p5, hw''⟩ := hw'
  subst hw''
  have HB5 := hid (HWA.out.trans (p5.hb.mono hwz8))
  generalize p5.W = w5 at *
  clear f0 f1 f2 f3 f4 HC1 HC2 HC3
  go_wp2
  go_ret
  exact ⟨by rw [HCB.out]; rfl, HB5.out⟩
 | true =>
  rw [Bool.true_and] at HCB
  by_cases hl : l = m
  ·subst hl
   rw [decide_eq_true rfl, Bool.true_and] at HCB
   have hd : ((l : Int) != (l : Int)) = false := by simp
   refine wp_region_later (by kernel_rfl) (by kernel_rfl) ?_
   repeat (first | go_big_quiet_step ((first | (go_at_call 97; with_reducible exact HC1.out _) | (go_at_call 54; with_reducible exact HC2.out _) | (go_at_call 100; with_reducible exact HC3.out _))) | quiet_step ((first | (go_at_call 97; with_reducible exact HC1.out _) | (go_at_call 54; with_reducible exact HC2.out _) | (go_at_call 100; with_reducible exact HC3.out _))))
   refine wpQuiet_nil ?_
   intro _ hw'
   obtain ⟨p5, hw''⟩ := hw'
   subst hw''
   have HB5 := hid (HWA.out.trans (p5.hb.mono hwz8))
   generalize p5.W = w5 at *
   clear f0 f1 f2 f3 f4 HC1 HC2 HC3
   go_wp2
   go_ret
   exact ⟨by rw [HCB.out]; rfl, HB5.out⟩
  ·rw [decide_eq_false hl, Bool.false_and] at HCB
   have hd : ((l : Int) != (m : Int)) = true := by simp; omega
   refine wp_region_later (by kernel_rfl) (by kernel_rfl) ?_
   repeat (first | go_big_quiet_step ((first | (go_at_call 97; with_reducible exact HC1.out _) | (go_at_call 54; with_reducible exact HC2.out _) | (go_at_call 100; with_reducible exact HC3.out _))) | quiet_step ((first | (go_at_call 97; with_reducible exact HC1.out _) | (go_at_call 54; with_reducible exact HC2.out _) | (go_at_call 100; with_reducible exact HC3.out _))))
   refine wpQuiet_nil ?_
   intro _ hw'
   obtain ⟨p5, hw''⟩ := hw'
   subst hw''
   have HB5 := hid (HWA.out.trans (p5.hb.mono hwz8))
   generalize p5.W = w5 at *
   clear f0 f1 f2 f3 f4 HC1 HC2 HC3
   go_wp2
   go_ret
   exact ⟨by rw [HCB.out]; rfl, HB5.out⟩
def FoundP (w : World) (all : Bool) (e : Ending) (w' : World) : Prop := ∃ r : Int, e = .returned (.int .i64 r) ∧ ((all = true ∧ r = -1) ∨ (all = false ∧ 0 ≤ r)) ∧ Below w.heap.size w w'
set_option maxRecDepth 100000 in
set_option maxHeartbeats 2000000 in
theorem index_colsB (t : Ta) (ca : Option Addr) (cc : Nat) (tb B : Nat) (w : World) (hb : TabBox w tb t ca cc) (hv : RdCo w (· < B) (.slice ca t.cols.length cc) t.cols) (hB : B ≤ w.heap.size) (hz : SzC t.cols) (hm : rowsC t.cols ≤ 4096) (hT : Tabs w) :
  Calls Tryz.prog 51 #[.slice ca t.cols.length cc, .func (.func 99) #[] #[.pointer (some ⟨tb, 0, none⟩)]] w (FoundP w (t.cols.all (colB (rowsC t.cols)))) := by
 have hbl := hb.lt
 obtain ⟨cv, hcv, hcl⟩ := id hv
 have HCL := hid hcl
 have HV1 := hid (fun q (hq : q < t.cols.length) W (hW : Below w.heap.size w W) => (by
  have h1 := hz _ (getD_mem (l := t.cols) (i := q) hq Co.z)
  exact table_Valid1B t ca cc (t.cols.getD q Co.z) (cv q) tb B W (BoxN.below hb hW hbl) (hv.keep fun p (hp : p.block < B) => hW.cell (p := p) (by omega)) ((hcl q hq).keep fun p (hp : p.block < B) => hW.cell (p := p) (by omega)) (by have := hW.size; omega) h1.1 h1.2 (hT.below hW) hm :
   Calls Tryz.prog 99 #[.agg #[.string (t.cols.getD q Co.z).name, cv q], .pointer (some ⟨tb, 0, none⟩)] W (Ret W (.bool (!colB (rowsC t.cols) (t.cols.getD q Co.z))))))
 have HANO := hid (fun q (hq : q < t.cols.length) (h : colB (rowsC t.cols) (t.cols.getD q Co.z) = false) => all_no hq h)
 have HAUP := hid (fun q (hq : q < t.cols.length) hp (h : colB (rowsC t.cols) (t.cols.getD q Co.z) = true) => all_up hq hp h)
 have HAEN := hid (fun h => all_end (p := colB (rowsC t.cols)) (l := t.cols) (n := t.cols.length) rfl h)
 generalize colB (rowsC t.cols) = cb at *
 obtain ⟨a, k, ea, hk, hmx, hrd⟩ := hcv
 obtain ⟨rfl, -, rfl⟩ := Value.slice.inj ea
 have HRD := hid hrd
 clear hb hv hcl ea hT hrd hz hm
 generalize t.cols = xs at *
 generalize hxl : xs.length = L at *
 have HXL := hid hxl
 clear hxl
 unfold maxLen at hmx
 go_enter Tryz.func51, Tryz.ntmps51
 go_wp2_with fail
 go_loopg [8] L (fun N i wr => ∃ q : Nat, q + N = L ∧ i = .int .i64 (q : Int) ∧ Hid (Below w.heap.size w wr) ∧ Hid ((xs.take q).all cb = true))
 case atStart => exact ⟨0, by omega, rfl, hid (Below.refl _ _), hid rfl⟩
 case round =>
  obtain ⟨q, hq, rfl, HB, HALL⟩ := hrel
  by_cases hp : 0 < gk
  ·obtain ⟨b, o, rfl, hb, hcell⟩ := HRD.out (by omega)
   have hbw : b < w.heap.size := by have : b < B := hb; omega
   obtain ⟨qa, qc, hcq, -, -, -⟩ := HCL.out q (by omega)
   have k0 : wr.cell? ⟨b, o + q * 2, none⟩ = some (.string (xs.getD q Co.z).name) := (HB.out.cell (p := ⟨b, o + q * 2, none⟩) hbw).trans (hcell q (by omega) 0 (by omega))
   have k1 : wr.cell? ⟨b, o + q * 2 + 1, none⟩ = some (cv q) := (HB.out.cell (p := ⟨b, o + q * 2 + 1, none⟩) hbw).trans (hcell q (by omega) 1 (by omega))
   have HVQ := hid (HV1.out q (by omega) wr HB.out)
   have HANQ := hid (HANO.out q (by omega))
   have HAUQ := hid (HAUP.out q (by omega) HALL.out)
   rw [hcq] at k1 HVQ
   clear hcell hcq
   generalize cb (xs.getD q Co.z) = bx at *
   generalize (xs.getD q Co.z).cells.length = l at *
   generalize (xs.getD q Co.z).name = nm at *
   go_wp2_with fail
   with_reducible refine HVQ.out.mono ?_
   rintro e w6 ⟨rfl, hb6⟩
   have HB6 := hid (HB.out.trans (hb6.mono HB.out.size))
   clear hb6 k0 k1
   cases bx with
   | false =>
    go_wp2
    go_ret
    exact ⟨_, rfl, .inr ⟨HANQ.out (by simp), by omega⟩, HB6.out⟩
   | true =>
    go_wp2_with fail
    go_roundg (gk - 1)
    case rel => exact ⟨q + 1, by omega, by go_num, hid HB6.out, hid (HAUQ.out (by simp))⟩
    case measure => omega
  ·obtain rfl : q = L := by omega
   go_wp2
   go_ret
   exact ⟨_, rfl, .inl ⟨HAEN.out HALL.out, rfl⟩, HB.out⟩
theorem contains_colsB (t : Ta) (ca : Option Addr) (cc : Nat) (tb B : Nat) (w : World) (hb : TabBox w tb t ca cc) (hv : RdCo w (· < B) (.slice ca t.cols.length cc) t.cols) (hB : B ≤ w.heap.size) (hz : SzC t.cols) (hm : rowsC t.cols ≤ 4096) (hT : Tabs w) :
    Calls Tryz.prog 98 #[.slice ca t.cols.length cc, .func (.func 99) #[] #[.pointer (some ⟨tb, 0, none⟩)]] w (Ret w (.bool (!t.cols.all (colB (rowsC t.cols))))) := by
  have HI := hid (index_colsB t ca cc tb B w hb hv hB hz hm hT)
  clear hb hv hz hm hT
  generalize t.cols.all (colB (rowsC t.cols)) = A at *
  generalize t.cols.length = n at *
  go_enter Tryz.func98, Tryz.ntmps98
  go_wp2_with fail
  with_reducible refine HI.out.mono ?_
  rintro e w1 ⟨r, rfl, hr, hb1⟩
  have HB1 := hid hb1
  clear hb1
  rcases hr with ⟨rfl, rfl⟩ | ⟨rfl, hr⟩
  · go_wp2
    go_ret
    exact ⟨rfl, HB1.out⟩
  · have hd : decide (0 ≤ r) = true := decide_eq_true hr
    go_wp2
    go_ret
    exact ⟨rfl, HB1.out⟩
set_option maxRecDepth 100000 in
set_option maxHeartbeats 2000000 in
theorem table_ValidB (t : Ta) (v : Value) (B : Nat) (w : World) (hz : SzT t) (hv : RdCo w (· < B) v t.cols) (hB : B ≤ w.heap.size) (hT : Tabs w) :
  Calls Tryz.prog 53 #[.agg #[.int .i64 t.id, .string t.name, v]] w (Ret w (.bool (tabB t))) := by
 obtain ⟨ca, cc, hcm, rfl⟩ : ∃ ca cc, t.cols.length ≤ maxLen ∧ v = .slice ca t.cols.length cc := by
  obtain ⟨cv, ⟨a, c, e, h1, h2, -⟩, -⟩ := hv
  exact ⟨a, c, Nat.le_trans h1 h2, e⟩
 unfold maxLen at hcm
 have hrm : rowsC t.cols ≤ 9223372036854775807 := by
  obtain ⟨cv, -, hcl⟩ := hv
  by_cases h : 0 < t.cols.length
  ·obtain ⟨a, c, -, h1, h2, -⟩ := hcl 0 h
   unfold maxLen at h2
   unfold rowsC
   omega
  ·rw [List.eq_nil_of_length_eq_zero (l := t.cols) (by omega)]
   decide
 have HF := hid (fun W (hW : Below w.heap.size w W) => table_fineB t.name W hz.2.1 (hT.below hW))
 have HR := hid (fun W (hW : Below w.heap.size w W) => table_Rows t.id t.name _ t.cols B W (hv.keep fun p (hp : p.block < B) => hW.cell (p := p) (by omega)) (by have := hW.size; omega))
 have HC := hid (fun (hm : rowsC t.cols ≤ 4096) tb W (hW : Below w.heap.size w W) (hbx : TabBox W tb t ca cc) => contains_colsB t ca cc tb B W hbx (hv.keep fun p (hp : p.block < B) => hW.cell (p := p) (by omega)) (by have := hW.size; omega) hz.2.2 hm (hT.below hW))
 have HTB : Hid (tabB t = (decide (0 ≤ t.id ∧ t.id ≤ 1073741824) && (fineB t.name && (decide (t.cols.length ≤ 64) && t.cols.all (colB (rowsC t.cols)))))) := hid rfl
 have HBIG : Hid (¬ rowsC t.cols ≤ 4096 → t.cols.all (colB (rowsC t.cols)) = false) := hid (fun h => by
  have h0 : 0 < t.cols.length := by
   rcases Nat.eq_zero_or_pos t.cols.length with e | e
   ·rw [List.eq_nil_of_length_eq_zero e] at h
    exact absurd (by decide) h
   ·exact e
  refine all_no (q := 0) (d := Co.z) h0 ?_
  unfold colB
  rw [decide_eq_false h, Bool.false_and, Bool.and_false])
 clear hv hT hz
 obtain ⟨id, nm, cols⟩ := t
 unfold TabBox at HC
 simp only at HF HR HC HTB HBIG hrm hcm ⊢
 generalize tabB ⟨id, nm, cols⟩ = R at *
 generalize cols.all (colB (rowsC cols)) = A at *
 generalize rowsC cols = m at *
 generalize cols.length = n at *
 generalize fineB nm = bf at *
 have HWA : Hid (Below w.heap.size w (w.alloc (.cells #[.int .i64 id, .string nm, .slice ca n cc] 24))) := hid ((Below.refl _ _).alloc (Nat.le_refl _) _)
 have HX := hid (BoxN.new w #[.int .i64 id, .string nm, .slice ca n cc] 24)
 have x0 := HX.out.cell 0 rfl
 have x1 := HX.out.cell 1 rfl
 have x2 := HX.out.cell 2 rfl
 by_cases hi0 : id < 0
 ·have hd : decide (id < 0) = true := decide_eq_true hi0
  have hR : R = false := by rw [HTB.out, decide_eq_false (by omega)]; rfl
  subst hR
  go_enter Tryz.func53, Tryz.ntmps53
  go_wp2
  go_ret
  exact ⟨rfl, HWA.out⟩
 have hd1 : decide (id < 0) = false := decide_eq_false hi0
 by_cases hi1 : 1073741824 < id
 ·have hd : decide (1073741824 < id) = true := decide_eq_true hi1
  have hR : R = false := by rw [HTB.out, decide_eq_false (by omega)]; rfl
  subst hR
  go_enter Tryz.func53, Tryz.ntmps53
  go_wp2
  go_ret
  exact ⟨rfl, HWA.out⟩
 have hd2 : decide (1073741824 < id) = false := decide_eq_false hi1
 rw [decide_eq_true (show 0 ≤ id ∧ id ≤ 1073741824 by omega), Bool.true_and] at HTB
 clear hi0 hi1
 go_enter Tryz.func53, Tryz.ntmps53
 go_wp2_with fail
 with_reducible refine (HF.out _ HWA.out).mono ?_
 generalize w.alloc (.cells #[.int .i64 id, .string nm, .slice ca n cc] 24) = W1 at *
 rintro e w2 ⟨rfl, hb2⟩
 have HB2 := hid (HWA.out.trans (hb2.mono HWA.out.size))
 have HX2 := hid (HX.out.below hb2 HX.out.lt)
 clear hb2 x0 x1 x2 HWA HX hd1 hd2
 have x0 := HX2.out.cell 0 rfl
 have x1 := HX2.out.cell 1 rfl
 have x2 := HX2.out.cell 2 rfl
 cases bf with
 | false =>
  have hR : R = false := by rw [HTB.out]; rfl
  subst hR
  go_wp2
  go_ret
  exact ⟨rfl, HB2.out⟩
 | true =>
  rw [Bool.true_and] at HTB
  by_cases hn : 64 < n
  ·have hd3 : decide ((64 : Int) < (n : Int)) = true := decide_eq_true (by omega)
   have hR : R = false := by rw [HTB.out, decide_eq_false (by omega)]; rfl
   subst hR
   go_wp2
   go_ret
   exact ⟨rfl, HB2.out⟩
  have hd3 : decide ((64 : Int) < (n : Int)) = false := decide_eq_false (by omega)
  rw [decide_eq_true (show n ≤ 64 by omega), Bool.true_and] at HTB
  go_wp2_with fail
  with_reducible refine (HR.out _ HB2.out).mono ?_
  rintro e w3 ⟨rfl, hb3⟩
  have HB3 := hid (HB2.out.trans (hb3.mono HB2.out.size))
  have HX3 := hid (HX2.out.below hb3 HX2.out.lt)
  clear hb3 x0 x1 x2 HB2 HX2
  have x0 := HX3.out.cell 0 rfl
  have x1 := HX3.out.cell 1 rfl
  have x2 := HX3.out.cell 2 rfl
  by_cases hm : m ≤ 4096
  ·have hd4 : decide ((4096 : Int) < (m : Int)) = false := decide_eq_false (by omega)
   have HC2 := hid (HC.out hm)
   go_wp2_with fail
   with_reducible refine (HC2.out _ _ HB3.out HX3.out).mono ?_
   rintro e w4 ⟨rfl, hb4⟩
   have HB4 := hid (HB3.out.trans (hb4.mono HB3.out.size))
   clear hb4 x0 x1 x2
   go_wp2
   go_ret
   exact ⟨ret_bool (by simp [HTB.out]), HB4.out⟩
  ·have hd4 : decide ((4096 : Int) < (m : Int)) = true := decide_eq_true (by omega)
   have hR : R = false := by rw [HTB.out, HBIG.out hm]
   subst hR
   go_wp2
   go_ret
   exact ⟨rfl, HB3.out⟩
end Go.Proofs.YthblaeleogdfpaaGreatDoor

namespace Go.Proofs
open Go.Shelf
def Tryz.sortC_ren : Go.Shelf.Ren := ⟨fun | 6 => 47 | 8 => 96 | 9 => 95 | 19 => 150 | 20 => 151 | 21 => 141 | 22 => 142 | 23 => 143 | 24 => 144 | 25 => 145 | 26 => 146 | 27 => 147 | 28 => 148 | 29 => 149 | 36 => 199 | 31 => 200 | 32 => 201 | 37 => 202 | 38 => 203 | 39 => 204 | 41 => 262 | n => n, fun | 27 => 37 | 29 => 9 | 3 => 3 | 32 => 143 | 26 => 37 | 0 => 0 | 44 => 157 | 46 => 194 | 4 => 4 | 36 => 186 | 35 => 185 | 41 => 172 | 5 => 5 | 9 => 9 | 53 => 221 | 57 => 225 | 63 => 270 | 64 => 271 | n => n, fun | n => n⟩
theorem Tryz.sortC : Go.Proofs.SlLaysM.n6 Tryz.prog Tryz.sortC_ren := {
 mixed := by kernel_rfl
 f6 := ⟨Tryz.f47.name, by decide, Tryz.func47.trans (congrArg some (by kernel_rfl))⟩
 f8 := Tryz.func96.trans (congrArg some (by kernel_rfl))
 f9 := ⟨Tryz.f95.name, by decide, Tryz.func95.trans (congrArg some (by kernel_rfl))⟩
 f19 := Tryz.func150.trans (congrArg some (by kernel_rfl))
 f20 := Tryz.func151.trans (congrArg some (by kernel_rfl))
 f21 := ⟨Tryz.f141.name, by decide, Tryz.func141.trans (congrArg some (by kernel_rfl))⟩
 f22 := ⟨Tryz.f142.name, by decide, Tryz.func142.trans (congrArg some (by kernel_rfl))⟩
 f23 := ⟨Tryz.f143.name, by decide, Tryz.func143.trans (congrArg some (by kernel_rfl))⟩
 f24 := ⟨Tryz.f144.name, by decide, Tryz.func144.trans (congrArg some (by kernel_rfl))⟩
 f25 := ⟨Tryz.f145.name, by decide, Tryz.func145.trans (congrArg some (by kernel_rfl))⟩
 f26 := ⟨Tryz.f146.name, by decide, Tryz.func146.trans (congrArg some (by kernel_rfl))⟩
 f27 := ⟨Tryz.f147.name, by decide, Tryz.func147.trans (congrArg some (by kernel_rfl))⟩
 f28 := ⟨Tryz.f148.name, by decide, Tryz.func148.trans (congrArg some (by kernel_rfl))⟩
 f29 := ⟨Tryz.f149.name, by decide, Tryz.func149.trans (congrArg some (by kernel_rfl))⟩
 f31 := Tryz.func200.trans (congrArg some (by kernel_rfl))
 f32 := Tryz.func201.trans (congrArg some (by kernel_rfl))
 f36 := ⟨Tryz.f199.name, by decide, Tryz.func199.trans (congrArg some (by kernel_rfl))⟩
 f37 := ⟨Tryz.f202.name, by decide, Tryz.func202.trans (congrArg some (by kernel_rfl))⟩
 f38 := ⟨Tryz.f203.name, by decide, Tryz.func203.trans (congrArg some (by kernel_rfl))⟩
 f39 := ⟨Tryz.f204.name, by decide, Tryz.func204.trans (congrArg some (by kernel_rfl))⟩
 f41 := ⟨Tryz.f262.name, by decide, Tryz.func262.trans (congrArg some (by kernel_rfl))⟩
 t0 := Tryz.underlying0
 a0 := Tryz.isAgg0
 z0 := Tryz.sizeOf0
 v0 := Tryz.zeroValue0
 t3 := Tryz.underlying3
 a3 := Tryz.isAgg3
 z3 := Tryz.sizeOf3
 v3 := Tryz.zeroValue3
 t4 := Tryz.underlying4
 a4 := Tryz.isAgg4
 z4 := Tryz.sizeOf4
 v4 := Tryz.zeroValue4
 t5 := Tryz.underlying5
 a5 := Tryz.isAgg5
 z5 := Tryz.sizeOf5
 v5 := Tryz.zeroValue5
 t9 := Tryz.underlying9
 a9 := Tryz.isAgg9
 z9 := Tryz.sizeOf9
 v9 := Tryz.zeroValue9
 t26 := Tryz.underlying37
 a26 := Tryz.isAgg37
 z26 := Tryz.sizeOf37
 v26 := Tryz.zeroValue37
 t27 := Tryz.underlying37
 a27 := Tryz.isAgg37
 z27 := Tryz.sizeOf37
 v27 := Tryz.zeroValue37
 t29 := Tryz.underlying9
 a29 := Tryz.isAgg9
 z29 := Tryz.sizeOf9
 v29 := Tryz.zeroValue9
 t32 := Tryz.underlying143
 a32 := Tryz.isAgg143
 z32 := Tryz.sizeOf143
 v32 := Tryz.zeroValue143
 t35 := Tryz.underlying185
 a35 := Tryz.isAgg185
 z35 := Tryz.sizeOf185
 v35 := Tryz.zeroValue185
 t36 := Tryz.underlying186
 a36 := Tryz.isAgg186
 z36 := Tryz.sizeOf186
 v36 := Tryz.zeroValue186
 t41 := Tryz.underlying172
 a41 := Tryz.isAgg172
 z41 := Tryz.sizeOf172
 v41 := Tryz.zeroValue172
 t44 := Tryz.underlying157
 a44 := Tryz.isAgg157
 z44 := Tryz.sizeOf157
 v44 := Tryz.zeroValue157
 t46 := Tryz.underlying194
 a46 := Tryz.isAgg194
 z46 := Tryz.sizeOf194
 v46 := Tryz.zeroValue194
 t53 := Tryz.underlying221
 a53 := Tryz.isAgg221
 z53 := Tryz.sizeOf221
 v53 := Tryz.zeroValue221
 t57 := Tryz.underlying225
 a57 := Tryz.isAgg225
 z57 := Tryz.sizeOf225
 v57 := Tryz.zeroValue225
 t63 := Tryz.underlying270
 a63 := Tryz.isAgg270
 z63 := Tryz.sizeOf270
 v63 := Tryz.zeroValue270
 t64 := Tryz.underlying271
 a64 := Tryz.isAgg271
 z64 := Tryz.sizeOf271
 v64 := Tryz.zeroValue271 }
def Tryz.cloneC_ren : Go.Shelf.Ren := ⟨fun | 42 => 49 | n => n, fun | 25 => 37 | 26 => 9 | 4 => 4 | n => n, fun | n => n⟩
theorem Tryz.cloneC : Go.Proofs.SlLaysN.n42 Tryz.prog Tryz.cloneC_ren := {
  mixed := by kernel_rfl
  f42 := ⟨Tryz.f49.name, by decide, Tryz.func49.trans (congrArg some (by kernel_rfl))⟩
  t4 := Tryz.underlying4
  a4 := Tryz.isAgg4
  z4 := Tryz.sizeOf4
  v4 := Tryz.zeroValue4
  t25 := Tryz.underlying37
  a25 := Tryz.isAgg37
  z25 := Tryz.sizeOf37
  v25 := Tryz.zeroValue37
  t26 := Tryz.underlying9
  a26 := Tryz.isAgg9
  z26 := Tryz.sizeOf9
  v26 := Tryz.zeroValue9
  i26 := by kernel_rfl }
def Tryz.compactC_ren : Go.Shelf.Ren := ⟨fun | 44 => 48 | n => n, fun | 25 => 37 | 26 => 9 | 3 => 3 | 4 => 4 | 0 => 0 | n => n, fun | n => n⟩
theorem Tryz.compactC : Go.Proofs.SlLaysN.n44 Tryz.prog Tryz.compactC_ren := {
  mixed := by kernel_rfl
  f44 := ⟨Tryz.f48.name, by decide, Tryz.func48.trans (congrArg some (by kernel_rfl))⟩
  t0 := Tryz.underlying0
  a0 := Tryz.isAgg0
  z0 := Tryz.sizeOf0
  v0 := Tryz.zeroValue0
  t3 := Tryz.underlying3
  a3 := Tryz.isAgg3
  z3 := Tryz.sizeOf3
  v3 := Tryz.zeroValue3
  t4 := Tryz.underlying4
  a4 := Tryz.isAgg4
  z4 := Tryz.sizeOf4
  v4 := Tryz.zeroValue4
  t25 := Tryz.underlying37
  a25 := Tryz.isAgg37
  z25 := Tryz.sizeOf37
  v25 := Tryz.zeroValue37
  t26 := Tryz.underlying9
  a26 := Tryz.isAgg9
  z26 := Tryz.sizeOf9
  v26 := Tryz.zeroValue9
  i26 := by kernel_rfl }
def Tryz.equalC_ren : Go.Shelf.Ren := ⟨fun | 34 => 50 | n => n, fun | 25 => 37 | 26 => 9 | 4 => 4 | 3 => 3 | 0 => 0 | n => n, fun | n => n⟩
theorem Tryz.equalC : Go.Proofs.SlLaysN.n34 Tryz.prog Tryz.equalC_ren := {
  mixed := by kernel_rfl
  f34 := ⟨Tryz.f50.name, by decide, Tryz.func50.trans (congrArg some (by kernel_rfl))⟩
  t0 := Tryz.underlying0
  a0 := Tryz.isAgg0
  z0 := Tryz.sizeOf0
  v0 := Tryz.zeroValue0
  t3 := Tryz.underlying3
  a3 := Tryz.isAgg3
  z3 := Tryz.sizeOf3
  v3 := Tryz.zeroValue3
  t4 := Tryz.underlying4
  a4 := Tryz.isAgg4
  z4 := Tryz.sizeOf4
  v4 := Tryz.zeroValue4
  t25 := Tryz.underlying37
  a25 := Tryz.isAgg37
  z25 := Tryz.sizeOf37
  v25 := Tryz.zeroValue37
  t26 := Tryz.underlying9
  a26 := Tryz.isAgg9
  z26 := Tryz.sizeOf9
  v26 := Tryz.zeroValue9 }
end Go.Proofs
