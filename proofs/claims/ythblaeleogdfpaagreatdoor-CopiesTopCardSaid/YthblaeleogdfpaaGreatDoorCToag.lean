/- A region that draws its order, whose operations only read and whose callees may lay blocks: walked once. No program in sight. Contract of the reference's check of a list of tables, at valid ones. Contracts of table.fine, Rows, ValidCell and of 'every' at cells. Contracts of table.Valid and ValidList, at valid tables. -/
import Derived.Test.YthblaeleogdfpaaGreatDoorCToaa
import Derived.Test.YthblaeleogdfpaaGreatDoorCToaf
set_option linter.unusedVariables false
set_option linter.unusedSimpArgs false
namespace Go.Proofs.YthblaeleogdfpaaGreatDoor
open Go.RowKit
structure LaterOf (w : World) where
  W : World
  hb : Below w.heap.size w W
instance later_inhabited (w : World) : Inhabited (LaterOf w) := ⟨⟨w, Below.refl _ _⟩⟩
theorem wp_region_later {P : Program} {id : Nat} {Q : Exit → Act → World → Prop} {a : Act} {w : World} {l : List Oper} (hm : P.follows .mixedOrders = true) (hB : Region.lexB .any l.toArray = true)
  (h : wpQuiet P l.toArray (fun w' => ∃ p : LaterOf w, w' = p.W) (fun a' => ∀ w', (∃ p : LaterOf w, w' = p.W) → Q .normal a' w') l a) : (Code.region id l.toArray true).wp P Q a w :=
 wp_region_quiet (C := fun w' => ∃ p : LaterOf w, w' = p.W) hm hB ⟨⟨w.drewN 1, below_drewN (Below.refl _ _)⟩, rfl⟩ (by simpa using h)
theorem later_call {P : Program} {f : FuncId} {args : Array Value} {w : World} {v : Value} (p : LaterOf w) (h : Calls P f args p.W (Ret p.W v)) :
  Calls P f args p.W fun e w'' => e = .returned v ∧ ∃ q : LaterOf w, w'' = q.W :=
 h.mono fun _ w' ⟨he, hb⟩ => ⟨he, ⟨w', p.hb.trans (hb.mono p.hb.size)⟩, rfl⟩
theorem LaterOf.cell {w : World} (p : LaterOf w) {a : Addr} {v : Value} (h : w.cell? a = some v) : p.W.cell? a = some v := (p.hb.cell (World.block_lt_of_cell? _ _ h)).trans h
end Go.Proofs.YthblaeleogdfpaaGreatDoor
namespace Go.Proofs.YthblaeleogdfpaaGreatDoor
open Go.RowKit
end Go.Proofs.YthblaeleogdfpaaGreatDoor

namespace Go.Proofs.YthblaeleogdfpaaGreatDoor
open Go.RowKit
theorem table_fine (s : ByteArray) (w : World) (h : TextOk 1024 s) (hT : Tabs w) : Calls Tryz.prog 97 #[.string s] w (Ret w (.bool true)) := by
 have HV := hid (text_Valid s w (by have := h.1; omega) hT)
 rw [h.2] at HV
 have hs := h.1
 clear h hT
 have hd : decide ((s.size : Int) ≤ 1024) = true := decide_eq_true (by omega)
 go_enter Tryz.func97, Tryz.ntmps97
 go_wp2_with fail
 with_reducible refine HV.out.mono ?_
 rintro e w1 ⟨rfl, hb⟩
 have HB := hid hb
 clear hb
 go_wp2
 go_ret
 exact ⟨rfl, HB.out⟩
theorem table_Rows (id : Int) (nm : ByteArray) (v : Value) (xs : List Co) (B : Nat) (w : World) (hv : RdCo w (· < B) v xs) (hB : B ≤ w.heap.size) :
  Calls Tryz.prog 54 #[.agg #[.int .i64 id, .string nm, v]] w (Ret w (.int .i64 (rowsC xs : Int))) := by
 obtain ⟨cv, ⟨a, c, rfl, hc, hm, hr⟩, hcl⟩ := hv
 have HR := hid hr
 have HC := hid hcl
 have hb0 : Below w.heap.size w (w.alloc (.cells #[.int .i64 id, .string nm, .slice a xs.length c] 24)) := (Below.refl _ _).alloc (Nat.le_refl _) _
 have HB0 := hid hb0
 have HZ : Hid (xs.length = 0 → rowsC xs = 0) := hid (fun h => by rw [List.eq_nil_of_length_eq_zero h]; rfl)
 have HL : Hid ((xs.getD 0 Co.z).cells.length = rowsC xs) := hid rfl
 clear hr hcl hb0
 generalize hxl : xs.length = n at *
 have HXL := hid hxl
 clear hxl
 unfold maxLen at hm
 by_cases h0 : n = 0
 ·subst h0
  rw [HZ.out rfl]
  go_enter Tryz.func54, Tryz.ntmps54
  go_wp2
  go_ret
  exact ⟨rfl, HB0.out⟩
 ·obtain ⟨b, o, rfl, hb, hcell⟩ := HR.out (by omega)
  have hbw : b < w.heap.size := by have : b < B := hb; omega
  have HQ := hid (HC.out 0 (by omega))
  obtain ⟨ca, cc, hcq, -, -, -⟩ := HC.out 0 (by omega)
  rw [HL.out] at hcq
  have k1 : w.cell? ⟨b, o + 1, none⟩ = some (cv 0) := by have := hcell 0 (by omega) 1 (by omega); simpa [coF, two] using this
  rw [hcq] at k1
  have k2 : (w.alloc (.cells #[.int .i64 id, .string nm, .slice (some ⟨b, o, none⟩) n c] 24)).cell? ⟨b, o + 1, none⟩ = some (.slice ca (rowsC xs) cc) := (World.cell?_alloc_lt _ _ _ (by exact hbw)).trans k1
  clear hcell hcq k1
  generalize rowsC xs = m at *
  have hn1 : (0 : Int) < (n : Int) := by omega
  have hn2 : 0 < n := by omega
  go_enter Tryz.func54, Tryz.ntmps54
  go_wp2
  go_ret
  exact ⟨rfl, HB0.out⟩
set_option maxHeartbeats 400000 in
theorem table_ValidCell (c : Cl) (w : World) (hc : CellOk c) (hT : Tabs w) : Calls Tryz.prog 101 #[.agg #[.bool c.null, .string c.text]] w (Ret w (.bool true)) := by
 obtain ⟨n, t⟩ := c
 obtain ⟨hn, ht⟩ := hc
 simp only at hn ht
 have hb0 : Below w.heap.size w (w.alloc (.cells #[.bool n, .string t] 104)) := (Below.refl _ _).alloc (Nat.le_refl _) _
 have HV := hid (table_fine t (w.alloc (.cells #[.bool n, .string t] 104)) (ht.more (by decide)) (hT.below hb0))
 have hx := BoxN.new w #[.bool n, .string t] 104
 have HB0 := hid hb0
 clear hT hb0 ht
 cases n
 ·clear hn
  go_enter Tryz.func101, Tryz.ntmps101
  go_wp2_with fail
  with_reducible refine HV.out.mono ?_
  rintro e w1 ⟨rfl, hb⟩
  have hx1 := hx.below hb (by simp)
  have c0 := hx1.cell 0 rfl
  have c1 := hx1.cell 1 rfl
  have HB := hid (HB0.out.trans (hb.mono (by simp)))
  clear hb hx1 hx
  go_wp2
  go_ret
  exact ⟨rfl, HB.out⟩
 ·obtain rfl := hn rfl
  go_enter Tryz.func101, Tryz.ntmps101
  go_wp2_with fail
  with_reducible refine HV.out.mono ?_
  rintro e w1 ⟨rfl, hb⟩
  have hx1 := hx.below hb (by simp)
  have c0 := hx1.cell 0 rfl
  have c1 := hx1.cell 1 rfl
  have HB := hid (HB0.out.trans (hb.mono (by simp)))
  clear hb hx1 hx hn
  go_wp2
  go_ret
  exact ⟨rfl, HB.out⟩
set_option maxHeartbeats 1000000 in
theorem every_cells (v : Value) (cs : List Cl) (B : Nat) (w : World) (hv : RdCl w (· < B) v cs) (hB : B ≤ w.heap.size) (hc : ∀ c ∈ cs, CellOk c) (hT : Tabs w) :
  Calls Tryz.prog 100 #[v, .func (.func 101) #[] #[]] w (Ret w (.bool true)) := by
 obtain ⟨a, c, rfl, hcc, hm, hr⟩ := hv
 have HR := hid hr
 have HT := hid hT
 have HC := hid (fun x (hx : x ∈ cs) W hW => table_ValidCell x W (hc x hx) hW)
 clear hr hT hc
 generalize hxl : cs.length = n at *
 have HXL := hid hxl
 clear hxl
 unfold maxLen at hm
 go_enter Tryz.func100, Tryz.ntmps100
 go_wp2_with fail
 go_loopg [9] n (fun N i wr => ∃ q : Nat, q + N = n ∧ i = .int .i64 (q : Int) ∧ Hid (Below w.heap.size w wr))
 case atStart => exact ⟨0, by omega, rfl, hid (Below.refl _ _)⟩
 case round =>
  obtain ⟨q, hq, rfl, HB⟩ := hrel
  by_cases hp : 0 < gk
  ·obtain ⟨b, o, rfl, hb, hcell⟩ := HR.out (by omega)
   have hbw : b < w.heap.size := by have : b < B := hb; omega
   have hwz := HB.out.size
   have k0 : wr.cell? ⟨b, o + q * 2, none⟩ = some (.bool (cs.getD q Cl.z).null) := (HB.out.cell (p := ⟨b, o + q * 2, none⟩) hbw).trans (hcell q (by omega) 0 (by omega))
   have k1 : wr.cell? ⟨b, o + q * 2 + 1, none⟩ = some (.string (cs.getD q Cl.z).text) := (HB.out.cell (p := ⟨b, o + q * 2 + 1, none⟩) hbw).trans (hcell q (by omega) 1 (by omega))
   have HCQ := hid (HC.out _ (getD_mem (l := cs) (i := q) (by have := HXL.out; omega) Cl.z))
   clear hcell
   generalize cs.getD q Cl.z = x at *
   obtain ⟨xn, xt⟩ := x
   have HB1 := hid (HB.out.alloc hwz (.cells #[.bool xn, .string xt] 104))
   go_wp2_with fail
   with_reducible refine (HCQ.out _ (HT.out.below HB1.out)).mono ?_
   clear k0 k1
   rintro e w6 ⟨rfl, hb6⟩
   have HB6 := hid (HB1.out.trans (hb6.mono HB1.out.size))
   clear hb6
   go_wp2_with fail
   go_roundg (gk - 1)
   case rel => exact ⟨q + 1, by omega, by go_num, hid HB6.out⟩
   case measure => omega
  ·obtain rfl : q = n := by omega
   go_wp2
   go_ret
   exact ⟨rfl, HB.out⟩
end Go.Proofs.YthblaeleogdfpaaGreatDoor
namespace Go.Proofs.YthblaeleogdfpaaGreatDoor
open Go.RowKit
def TabBox (w : World) (tb : Nat) (t : Ta) (ca : Option Addr) (cc : Nat) : Prop := BoxN w tb 24 #[.int .i64 t.id, .string t.name, .slice ca t.cols.length cc]
set_option maxRecDepth 100000 in
set_option maxHeartbeats 400000 in
theorem table_Valid1 (t : Ta) (ca : Option Addr) (cc : Nat) (x : Co) (v : Value) (tb B : Nat) (w : World) (hb : TabBox w tb t ca cc) (hv : RdCo w (· < B) (.slice ca t.cols.length cc) t.cols) (hx : RdCl w (· < B) v x.cells) (hB : B ≤ w.heap.size)
  (hn : TextOk 1024 x.name) (hl : x.cells.length = rowsC t.cols) (hc : ∀ c ∈ x.cells, CellOk c) (hT : Tabs w) (hm : rowsC t.cols ≤ 4096) :
  Calls Tryz.prog 99 #[.agg #[.string x.name, v], .pointer (some ⟨tb, 0, none⟩)] w (Ret w (.bool false)) := by
 have HE := hid (fun W (hW : Below w.heap.size w W) => every_cells v x.cells B W (hx.keep fun p (hp : p.block < B) => hW.cell (p := p) (by omega)) (by have := hW.size; omega) hc (hT.below hW))
 have HF := hid (fun W (hW : Below w.heap.size w W) => table_fine x.name W hn (hT.below hW))
 have HR := hid (fun W (hW : Below w.heap.size w W) => table_Rows t.id t.name (.slice ca t.cols.length cc) t.cols B W (hv.keep fun p (hp : p.block < B) => hW.cell (p := p) (by omega)) (by have := hW.size; omega))
 obtain ⟨xa, xc, rfl, -⟩ := hx
 have HBX := hid hb
 have hbl := hb.lt
 clear hb hv hn hc hT
 rw [hl] at HE ⊢
 clear hl
 obtain ⟨xn, xs⟩ := x
 obtain ⟨id, nm, cols⟩ := t
 have hbx := HBX.out
 unfold TabBox at hbx
 simp only at HE HF HR hbx hm ⊢
 generalize rowsC cols = m at *
 generalize cols.length = n at *
 have HWA : Hid (Below w.heap.size w (w.alloc (.cells #[.string xn, .slice xa m xc] 30))) := hid ((Below.refl _ _).alloc (Nat.le_refl _) _)
 have hbc := BoxN.new w #[.string xn, .slice xa m xc] 30
 have hbt := hbx.alloc (.cells #[.string xn, .slice xa m xc] 30)
 clear hbx HBX
 go_enter Tryz.func99, Tryz.ntmps99
 go_upto_region 1 with fail
 generalize w.alloc (.cells #[.string xn, .slice xa m xc] 30) = W8 at *
 have hwz8 := HWA.out.size
 have f0 := fun p : LaterOf W8 => p.cell (v := .string xn) (hbc.cell 0 rfl)
 have f1 := fun p : LaterOf W8 => p.cell (v := .slice xa m xc) (hbc.cell 1 rfl)
 have f2 := fun p : LaterOf W8 => p.cell (v := .int .i64 id) (hbt.cell 0 rfl)
 have f3 := fun p : LaterOf W8 => p.cell (v := .string nm) (hbt.cell 1 rfl)
 have f4 := fun p : LaterOf W8 => p.cell (v := .slice ca n cc) (hbt.cell 2 rfl)
 have HC1 := hid (fun p : LaterOf W8 => later_call p (HF.out p.W (HWA.out.trans (p.hb.mono hwz8))))
 have HC2 := hid (fun p : LaterOf W8 => later_call p (HR.out p.W (HWA.out.trans (p.hb.mono hwz8))))
 have HC3 := hid (fun p : LaterOf W8 => later_call p (HE.out p.W (HWA.out.trans (p.hb.mono hwz8))))
 clear hbc hbt HE HF HR
 have hd : ((m : Int) != (m : Int)) = false := by simp
 refine wp_region_later (by kernel_rfl) (by kernel_rfl) ?_
 repeat (first | go_big_quiet_step ((first | (go_at_call 97; with_reducible exact HC1.out _) | (go_at_call 54; with_reducible exact HC2.out _) | (go_at_call 100; with_reducible exact HC3.out _))) | quiet_step ((first | (go_at_call 97; with_reducible exact HC1.out _) | (go_at_call 54; with_reducible exact HC2.out _) | (go_at_call 100; with_reducible exact HC3.out _))))
 refine wpQuiet_nil ?_
 intro _ hw'
 obtain ⟨p5, hw''⟩ := hw'
 subst hw''
 have hb5 := p5.hb
 generalize p5.W = w5 at *
 have HB5 := hid (HWA.out.trans (hb5.mono hwz8))
 clear f0 f1 f2 f3 f4 HC1 HC2 HC3 hb5
 go_wp2
 go_ret
 exact ⟨rfl, HB5.out⟩
set_option maxRecDepth 100000 in
set_option maxHeartbeats 2000000 in
theorem index_cols (t : Ta) (ca : Option Addr) (cc : Nat) (tb B : Nat) (w : World) (hb : TabBox w tb t ca cc) (hv : RdCo w (· < B) (.slice ca t.cols.length cc) t.cols) (hB : B ≤ w.heap.size) (ht : TabV t) (hT : Tabs w) :
  Calls Tryz.prog 51 #[.slice ca t.cols.length cc, .func (.func 99) #[] #[.pointer (some ⟨tb, 0, none⟩)]] w (Ret w (.int .i64 (-1))) := by
 obtain ⟨h0, h1, hnm, hxs, m, hm, hcs⟩ := ht
 have hbl := hb.lt
 obtain ⟨cv, hcv, hcl⟩ := id hv
 have HCL := hid hcl
 have HV1 := hid (fun q (hq : q < t.cols.length) W (hW : Below w.heap.size w W) => (by
  have hm0 : rowsC t.cols = m := (hcs _ (getD_mem (l := t.cols) (i := 0) (by omega) Co.z)).2.1
  obtain ⟨e1, e2, e3⟩ := hcs _ (getD_mem (l := t.cols) (i := q) hq Co.z)
  exact table_Valid1 t ca cc (t.cols.getD q Co.z) (cv q) tb B W (BoxN.below hb hW hbl) (hv.keep fun p (hp : p.block < B) => hW.cell (p := p) (by omega)) ((hcl q hq).keep fun p (hp : p.block < B) => hW.cell (p := p) (by omega)) (by have := hW.size; omega) e1 (by rw [e2, hm0]) e3 (hT.below hW) (by rw [hm0]; exact hm) :
   Calls Tryz.prog 99 #[.agg #[.string (t.cols.getD q Co.z).name, cv q], .pointer (some ⟨tb, 0, none⟩)] W (Ret W (.bool false))))
 obtain ⟨a, k, ea, hk, hmx, hrd⟩ := hcv
 obtain ⟨rfl, -, rfl⟩ := Value.slice.inj ea
 have HRD := hid hrd
 clear hb hv hcl hcs ea hnm hT hrd
 generalize t.cols = xs at *
 generalize hxl : xs.length = L at *
 have HXL := hid hxl
 clear hxl
 unfold maxLen at hmx
 go_enter Tryz.func51, Tryz.ntmps51
 go_wp2_with fail
 go_loopg [8] L (fun N i wr => ∃ q : Nat, q + N = L ∧ i = .int .i64 (q : Int) ∧ Hid (Below w.heap.size w wr))
 case atStart => exact ⟨0, by omega, rfl, hid (Below.refl _ _)⟩
 case round =>
  obtain ⟨q, hq, rfl, HB⟩ := hrel
  by_cases hp : 0 < gk
  ·obtain ⟨b, o, rfl, hb, hcell⟩ := HRD.out (by omega)
   have hbw : b < w.heap.size := by have : b < B := hb; omega
   obtain ⟨qa, qc, hcq, -, -, -⟩ := HCL.out q (by omega)
   have k0 : wr.cell? ⟨b, o + q * 2, none⟩ = some (.string (xs.getD q Co.z).name) := (HB.out.cell (p := ⟨b, o + q * 2, none⟩) hbw).trans (hcell q (by omega) 0 (by omega))
   have k1 : wr.cell? ⟨b, o + q * 2 + 1, none⟩ = some (cv q) := (HB.out.cell (p := ⟨b, o + q * 2 + 1, none⟩) hbw).trans (hcell q (by omega) 1 (by omega))
   have HVQ := hid (HV1.out q (by omega) wr HB.out)
   rw [hcq] at k1 HVQ
   clear hcell hcq
   generalize (xs.getD q Co.z).cells.length = l at *
   generalize (xs.getD q Co.z).name = nm at *
   go_wp2_with fail
   with_reducible refine HVQ.out.mono ?_
   rintro e w6 ⟨rfl, hb6⟩
   have HB6 := hid (HB.out.trans (hb6.mono HB.out.size))
   clear hb6 k0 k1
   go_wp2_with fail
   go_roundg (gk - 1)
   case rel => exact ⟨q + 1, by omega, by go_num, hid HB6.out⟩
   case measure => omega
  ·obtain rfl : q = L := by omega
   go_wp2
   go_ret
   exact ⟨rfl, HB.out⟩
theorem contains_cols (t : Ta) (ca : Option Addr) (cc : Nat) (tb B : Nat) (w : World) (hb : TabBox w tb t ca cc) (hv : RdCo w (· < B) (.slice ca t.cols.length cc) t.cols) (hB : B ≤ w.heap.size) (ht : TabV t) (hT : Tabs w) :
  Calls Tryz.prog 98 #[.slice ca t.cols.length cc, .func (.func 99) #[] #[.pointer (some ⟨tb, 0, none⟩)]] w (Ret w (.bool false)) := by
 have HI := hid (index_cols t ca cc tb B w hb hv hB ht hT)
 clear hb hv ht hT
 generalize t.cols.length = n at *
 go_enter Tryz.func98, Tryz.ntmps98
 go_wp2_with fail
 with_reducible refine HI.out.mono ?_
 rintro e w1 ⟨rfl, hb1⟩
 have HB1 := hid hb1
 clear hb1
 go_wp2
 go_ret
 exact ⟨rfl, HB1.out⟩
set_option maxRecDepth 100000 in
set_option maxHeartbeats 2000000 in
theorem table_Valid (t : Ta) (v : Value) (B : Nat) (w : World) (ht : TabV t) (hv : RdCo w (· < B) v t.cols) (hB : B ≤ w.heap.size) (hT : Tabs w) :
  Calls Tryz.prog 53 #[.agg #[.int .i64 t.id, .string t.name, v]] w (Ret w (.bool true)) := by
 obtain ⟨ca, cc, rfl⟩ : ∃ ca cc, v = .slice ca t.cols.length cc := by
  obtain ⟨cv, ⟨a, c, e, -⟩, -⟩ := hv
  exact ⟨a, c, e⟩
 have HF := hid (fun W (hW : Below w.heap.size w W) => table_fine t.name W ht.2.2.1 (hT.below hW))
 have HR := hid (fun W (hW : Below w.heap.size w W) => table_Rows t.id t.name _ t.cols B W (hv.keep fun p (hp : p.block < B) => hW.cell (p := p) (by omega)) (by have := hW.size; omega))
 have HC := hid (fun tb W (hW : Below w.heap.size w W) (hbx : TabBox W tb t ca cc) => contains_cols t ca cc tb B W hbx (hv.keep fun p (hp : p.block < B) => hW.cell (p := p) (by omega)) (by have := hW.size; omega) ht (hT.below hW))
 have hm : rowsC t.cols ≤ 4096 := by
  obtain ⟨h0, h1, hnm, hxs, m, hm, hcs⟩ := ht
  by_cases h : 0 < t.cols.length
  ·have := (hcs _ (getD_mem (l := t.cols) (i := 0) h Co.z)).2.1
   unfold rowsC
   omega
  ·rw [List.eq_nil_of_length_eq_zero (l := t.cols) (by omega)]
   decide
 have h0 := ht.1
 have h1 := ht.2.1
 have hl := ht.2.2.2.1
 clear hv hT ht
 obtain ⟨id, nm, cols⟩ := t
 unfold TabBox at HC
 simp only at HF HR HC hm h0 h1 hl ⊢
 generalize rowsC cols = m at *
 generalize cols.length = n at *
 have HWA : Hid (Below w.heap.size w (w.alloc (.cells #[.int .i64 id, .string nm, .slice ca n cc] 24))) := hid ((Below.refl _ _).alloc (Nat.le_refl _) _)
 have HX := hid (BoxN.new w #[.int .i64 id, .string nm, .slice ca n cc] 24)
 have x0 := HX.out.cell 0 rfl
 have x1 := HX.out.cell 1 rfl
 have x2 := HX.out.cell 2 rfl
 have hd1 : decide (id < 0) = false := decide_eq_false (by omega)
 have hd2 : decide ((1073741824 : Int) < id) = false := decide_eq_false (by omega)
 have hd3 : decide ((64 : Int) < (n : Int)) = false := decide_eq_false (by omega)
 have hd4 : decide ((4096 : Int) < (m : Int)) = false := decide_eq_false (by omega)
 go_enter Tryz.func53, Tryz.ntmps53
 go_wp2_with fail
 with_reducible refine (HF.out _ HWA.out).mono ?_
 generalize w.alloc (.cells #[.int .i64 id, .string nm, .slice ca n cc] 24) = W1 at *
 rintro e w2 ⟨rfl, hb2⟩
 have HB2 := hid (HWA.out.trans (hb2.mono HWA.out.size))
 have HX2 := hid (HX.out.below hb2 HX.out.lt)
 clear hb2 x0 x1 x2 HWA HX
 have x0 := HX2.out.cell 0 rfl
 have x1 := HX2.out.cell 1 rfl
 have x2 := HX2.out.cell 2 rfl
 go_wp2_with fail
 with_reducible refine (HR.out _ HB2.out).mono ?_
 rintro e w3 ⟨rfl, hb3⟩
 have HB3 := hid (HB2.out.trans (hb3.mono HB2.out.size))
 have HX3 := hid (HX2.out.below hb3 HX2.out.lt)
 clear hb3 x0 x1 x2 HB2 HX2
 have x0 := HX3.out.cell 0 rfl
 have x1 := HX3.out.cell 1 rfl
 have x2 := HX3.out.cell 2 rfl
 go_wp2_with fail
 with_reducible refine (HC.out _ _ HB3.out HX3.out).mono ?_
 rintro e w4 ⟨rfl, hb4⟩
 have HB4 := hid (HB3.out.trans (hb4.mono HB3.out.size))
 clear hb4 x0 x1 x2
 go_wp2
 go_ret
 exact ⟨rfl, HB4.out⟩
end Go.Proofs.YthblaeleogdfpaaGreatDoor
