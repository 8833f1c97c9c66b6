/- Contracts of the reference's checks of tables, at valid ones. A region that draws its order, whose operations only read and whose callees may lay blocks: walked once. No program in sight. Contract of the reference's check of a list of tables, at valid ones. Contracts of the reference's checks of cells, tables and lists of tables, at any contents. -/
import Derived.Test.YthblaeleogdfpaaGreatDoorProg
import Derived.Test.YthblaeleogdfpaaGreatDoorCPaab
import Derived.Test.YthblaeleogdfpaaGreatDoorCPaaa
set_option linter.unusedVariables false
set_option linter.unusedSimpArgs false
namespace Go.Proofs.YthblaeleogdfpaaGreatDoor
open Go.RowKit
theorem ref_name (s : ByteArray) (w : World) (h : TextOk 1024 s) (hT : Tabs w) : Calls Tryz.prog 104 #[.string s] w (Ret w (.bool true)) := by
  have HV := hid (ref_Valid s w (by have := h.1; omega) hT)
  rw [h.2] at HV
  have hs := h.1
  clear h hT
  go_enter Tryz.func104, Tryz.ntmps104
  go_wp2_with fail
  with_reducible refine HV.out.mono ?_
  rintro e w1 ⟨rfl, hb⟩
  have HB := hid hb
  clear hb
  go_wp2
  go_ret
  exact ⟨ret_bool (decide_eq_true (by omega)), HB.out⟩
set_option maxHeartbeats 400000 in
theorem ref_ValidCell (c : Cl) (w : World) (hc : CellOk c) (hT : Tabs w) : Calls Tryz.prog 105 #[.agg #[.bool c.null, .string c.text]] w (Ret w (.bool true)) := by
  obtain ⟨n, t⟩ := c
  obtain ⟨hn, ht, hv⟩ := hc
  have hb0 : Below w.heap.size w (w.alloc (.cells #[.bool n, .string t] 104)) := (Below.refl _ _).alloc (Nat.le_refl _) _
  have HV := hid (ref_Valid t (w.alloc (.cells #[.bool n, .string t] 104)) (by simp at ht; omega) (hT.below hb0))
  simp only at hv ht hn
  rw [hv] at HV
  have hx := BoxN.new w #[.bool n, .string t] 104
  have HB0 := hid hb0
  clear hT hb0 hv
  cases n
  · clear hn
    go_enter Tryz.func105, Tryz.ntmps105
    go_wp2_with fail
    with_reducible refine HV.out.mono ?_
    rintro e w1 ⟨rfl, hb⟩
    have hx1 := hx.below hb (by simp)
    have c0 := hx1.cell 0 rfl
    have c1 := hx1.cell 1 rfl
    have HB := hid (HB0.out.trans (hb.mono (by simp)))
    clear hb hx1 hx
    go_wp2
    go_ret
    exact ⟨rfl, HB.out⟩
  · obtain rfl := hn rfl
    go_enter Tryz.func105, Tryz.ntmps105
    go_wp2_with fail
    with_reducible refine HV.out.mono ?_
    rintro e w1 ⟨rfl, hb⟩
    have hx1 := hx.below hb (by simp)
    have c0 := hx1.cell 0 rfl
    have c1 := hx1.cell 1 rfl
    have HB := hid (HB0.out.trans (hb.mono (by simp)))
    clear hb hx1 hx hn
    go_wp2
    go_ret
    exact ⟨rfl, HB.out⟩
set_option maxRecDepth 100000 in
set_option maxHeartbeats 2000000 in
theorem ref_ValidTab (t : Ta) (v : Value) (B : Nat) (w : World) (ht : TabV t) (hv : RdCo w (· < B) v t.cols) (hB : B ≤ w.heap.size) (hT : Tabs w) :
  Calls Tryz.prog 56 #[.agg #[.int .i64 t.id, .string t.name, v]] w (Ret w (.bool true)) := by
 obtain ⟨id, nm, xs⟩ := t
 obtain ⟨h0, h1, hnm, hxs, n, hn, hcs⟩ := ht
 simp only at h0 h1 hnm hxs hcs hv
 obtain ⟨cv, hcv, hcl⟩ := hv
 obtain ⟨a, k, rfl, hk, hm, hrd⟩ := hcv
 have hb0 : Below w.heap.size w (w.alloc (.cells #[.int .i64 id, .string nm, .slice a xs.length k] 24)) := (Below.refl _ _).alloc (Nat.le_refl _) _
 have HN := hid (ref_name nm (w.alloc (.cells #[.int .i64 id, .string nm, .slice a xs.length k] 24)) hnm (hT.below hb0))
 have hx := BoxN.new w #[.int .i64 id, .string nm, .slice a xs.length k] 24
 have HB0 := hid hb0
 have HT := hid hT
 have HRD := hid hrd
 have HCL := hid hcl
 have HCS := hid hcs
 clear hb0 hT hrd hcl hcs hnm
 generalize hxl : xs.length = L at *
 have HXL := hid hxl
 clear hxl
 unfold maxLen at hm
 go_enter Tryz.func56, Tryz.ntmps56
 generalize hLA : Code.loop _ = LA
 go_wp2_with fail
 with_reducible refine HN.out.mono ?_
 rintro e w1 ⟨rfl, hb⟩
 have hx1 := hx.below hb (by simp)
 have c0 := hx1.cell 0 rfl
 have c1 := hx1.cell 1 rfl
 have c2 := hx1.cell 2 rfl
 have HX1 := hid hx1
 have HB1 := hid (HB0.out.trans (hb.mono (by simp)))
 have hz1 := hx1.lt
 clear hb hx1 hx HN
 go_wp2_with fail
 clear c0 c1 c2
 subst hLA
 go_loopg [30] L (fun N i wr => ∃ q : Nat, q + N = L ∧ i = .int .i64 (q : Int) ∧ Hid (Below w1.heap.size w1 wr))
 case atStart => exact ⟨0, by omega, rfl, hid (Below.refl _ _)⟩
 case round =>
  obtain ⟨q, hq, rfl, HB⟩ := hrel
  by_cases hp : 0 < gk
  ·obtain ⟨b, o, rfl, hb, hcell⟩ := HRD.out (by omega)
   have hbw : b < w.heap.size := by omega
   have HBW := hid (HB1.out.trans (HB.out.mono HB1.out.size))
   have hwz := HBW.out.size
   have hwz1 := HB.out.size
   obtain ⟨hxn, hxl, hxc⟩ := HCS.out _ (getD_mem (l := xs) (i := q) (by have := HXL.out; omega) Co.z)
   obtain ⟨-, hxl0, -⟩ := HCS.out _ (getD_mem (l := xs) (i := 0) (by have := HXL.out; omega) Co.z)
   have HRQ := hid (HCL.out q (by omega))
   obtain ⟨ca, ck, hcq, -, -, -⟩ := HCL.out q (by omega)
   obtain ⟨ca0, ck0, hc0, -, -, -⟩ := HCL.out 0 (by omega)
   rw [hxl] at hcq
   rw [hxl0] at hc0
   have k0 : wr.cell? ⟨b, o + q * 2, none⟩ = some (.string (xs.getD q Co.z).name) := (HBW.out.cell (p := ⟨b, o + q * 2, none⟩) hbw).trans (hcell q (by omega) 0 (by omega))
   have k1 : wr.cell? ⟨b, o + q * 2 + 1, none⟩ = some (cv q) := (HBW.out.cell (p := ⟨b, o + q * 2 + 1, none⟩) hbw).trans (hcell q (by omega) 1 (by omega))
   have k2 : wr.cell? ⟨b, o + 1, none⟩ = some (cv 0) := (HBW.out.cell (p := ⟨b, o + 1, none⟩) hbw).trans (by have := hcell 0 (by omega) 1 (by omega); simp only [Nat.zero_mul, Nat.add_zero] at this; exact this)
   have k3 := (HX1.out.below HB.out hz1).cell 2 rfl
   rw [hcq] at k1
   rw [hc0] at k2
   rw [hcq] at HRQ
   have HXN := hid hxn
   have HXC := hid hxc
   have HXL2 := hid hxl
   clear hcell hcq hc0 hxl0 hxn hxc hxl
   generalize xs.getD q Co.z = x at *
   obtain ⟨xn, xc⟩ := x
   have HNM := hid (fun W h => ref_name xn W HXN.out h)
   have HCC := hid (fun c h W hW => ref_ValidCell c W (HXC.out c h) hW)
   have n0 : ∀ O : Obj, (wr.alloc O).cell? ⟨b, o + 1, none⟩ = some (.slice ca0 n ck0) := fun O => (World.cell?_alloc_lt _ _ _ (by show b < _; omega)).trans k2
   have n1 : ∀ O : Obj, (wr.alloc O).cell? ⟨w.heap.size, 2, none⟩ = some (.slice (some ⟨b, o, none⟩) L k) := fun O => (World.cell?_alloc_lt _ _ _ (by show w.heap.size < _; omega)).trans k3
   have n2 := n0 (.cells #[.string xn, .slice ca n ck] 30)
   have n3 := n1 (.cells #[.string xn, .slice ca n ck] 30)
   clear n0 n1
   have hd : decide ((4096 : Int) < (n : Int)) = false := by simp; omega
   have hL0 : 0 < L := by omega
   have hL1 : (0 : Int) < (L : Int) := by omega
   have hL2 : L ≠ 0 := by omega
   go_wp2_with fail
   go_region_held3 (fun w' => w'.cell? ⟨wr.heap.size, 0, none⟩ = some (.string xn) ∧ w'.cell? ⟨wr.heap.size, 1, none⟩ = some (.slice ca n ck) ∧ w'.cell? ⟨b, o + 1, none⟩ = some (.slice ca0 n ck0) ∧ w'.cell? ⟨w.heap.size, 2, none⟩ = some (.slice (some ⟨b, o, none⟩) L k))
    (first | exact ⟨o0, o1, o2, o3⟩ | go_keep)
    (first
     | (go_at_call 104; go_must (((with_reducible refine (HNM.out _ (HT.out.below (by have := HBW.out; repeat' (first | (with_reducible exact Below.refl _ _) | (with_reducible assumption) | (with_reducible refine below_drewN ?_) | (with_reducible refine Below.alloc ?_ ?_ _) | (with_reducible refine Below.drew ?_) | (with_reducible refine Below.setCell ?_ ?_ _) | (with_reducible refine Below.trans ?_ (Below.mono (by with_reducible assumption) ?_)) | go_size)))).mono ?_); rintro e w5 ⟨rfl, hb5⟩; have o0 := cell_later hb5 (a := ⟨wr.heap.size, 0, none⟩) (v := .string xn) (by go_cell); have o1 := cell_later hb5 (a := ⟨wr.heap.size, 1, none⟩) (v := .slice ca n ck) (by go_cell); have o2 := cell_later hb5 (a := ⟨b, o + 1, none⟩) (v := .slice ca0 n ck0) (by go_cell); have o3 := cell_later hb5 (a := ⟨w.heap.size, 2, none⟩) (v := .slice (some ⟨b, o, none⟩) L k) (by go_cell)))))
   have HB5 : Hid (Below wr.heap.size wr w5) := hid (by repeat' (first | (with_reducible exact Below.refl _ _) | (with_reducible assumption) | (with_reducible refine below_drewN ?_) | (with_reducible refine Below.alloc ?_ ?_ _) | (with_reducible refine Below.drew ?_) | (with_reducible refine Below.setCell ?_ ?_ _) | (with_reducible refine Below.trans ?_ (Below.mono (by with_reducible assumption) ?_)) | go_size))
   have HBW5 := hid (HBW.out.trans (HB5.out.mono hwz))
   have HBI := hid (HB.out.trans (HB5.out.mono hwz1))
   have hz5 := HB5.out.size
   clear hb5 o0 o2 o3 n2 n3 k0 k1 k2 k3 hd
   obtain ⟨wo, rfl⟩ : ∃ wo, wo = wr := ⟨wr, rfl⟩
   obtain ⟨ko, rfl⟩ : ∃ ko, ko = gk := ⟨gk, rfl⟩
   obtain ⟨ca', ck', hce, -, -, hrc⟩ := HRQ.out
   simp only at hrc hce
   rw [HXL2.out] at hrc hce
   obtain ⟨rfl, -, rfl⟩ := Value.slice.inj hce
   have HRC := hid hrc
   clear hrc hce HRQ
   go_wp2_with fail
   go_loopg [59] n (fun N i W => ∃ j : Nat, j + N = n ∧ i = .int .i64 (j : Int) ∧ Hid (Below w5.heap.size w5 W))
   case atStart => exact ⟨0, by omega, rfl, hid (by have := Below.refl w5.heap.size w5; repeat' (first | (with_reducible exact Below.refl _ _) | (with_reducible assumption) | (with_reducible refine below_drewN ?_) | (with_reducible refine Below.alloc ?_ ?_ _) | (with_reducible refine Below.drew ?_) | (with_reducible refine Below.setCell ?_ ?_ _) | (with_reducible refine Below.trans ?_ (Below.mono (by with_reducible assumption) ?_)) | go_size))⟩
   case round =>
    obtain ⟨j, hj, rfl, HBJ⟩ := hrel
    by_cases hpj : 0 < gk
    ·obtain ⟨b2, o2, rfl, hb2, hcell2⟩ := HRC.out (by omega)
     have hbw2 : b2 < w.heap.size := by omega
     have hjz := HBJ.out.size
     have HBWJ := hid (HBW5.out.trans (HBJ.out.mono HBW5.out.size))
     have k0 : wr.cell? ⟨b2, o2 + j * 2, none⟩ = some (.bool (xc.getD j Cl.z).null) := (HBWJ.out.cell (p := ⟨b2, o2 + j * 2, none⟩) hbw2).trans (hcell2 j (by omega) 0 (by omega))
     have k1 : wr.cell? ⟨b2, o2 + j * 2 + 1, none⟩ = some (.string (xc.getD j Cl.z).text) := (HBWJ.out.cell (p := ⟨b2, o2 + j * 2 + 1, none⟩) hbw2).trans (hcell2 j (by omega) 1 (by omega))
     have HCJ := hid (HCC.out _ (getD_mem (l := xc) (i := j) (by have h : xc.length = n := HXL2.out; omega) Cl.z))
     clear hcell2
     generalize xc.getD j Cl.z = c at *
     obtain ⟨cn, ct⟩ := c
     go_wp2_with fail
     with_reducible refine (HCJ.out _ (HT.out.below (by have := HBWJ.out; repeat' (first | (with_reducible exact Below.refl _ _) | (with_reducible assumption) | (with_reducible refine below_drewN ?_) | (with_reducible refine Below.alloc ?_ ?_ _) | (with_reducible refine Below.drew ?_) | (with_reducible refine Below.setCell ?_ ?_ _) | (with_reducible refine Below.trans ?_ (Below.mono (by with_reducible assumption) ?_)) | go_size)))).mono ?_
     rintro e w6 ⟨rfl, hb6⟩
     have HB6 : Hid (Below wr.heap.size wr w6) := hid (by repeat' (first | (with_reducible exact Below.refl _ _) | (with_reducible assumption) | (with_reducible refine below_drewN ?_) | (with_reducible refine Below.alloc ?_ ?_ _) | (with_reducible refine Below.drew ?_) | (with_reducible refine Below.setCell ?_ ?_ _) | (with_reducible refine Below.trans ?_ (Below.mono (by with_reducible assumption) ?_)) | go_size))
     clear hb6 k0 k1
     go_wp2_with fail
     go_roundg (gk - 1)
     case rel => exact ⟨j + 1, by omega, by go_num, hid (HBJ.out.trans (HB6.out.mono hjz))⟩
     case measure => omega
    ·obtain rfl : j = n := by omega
     go_wp2_with fail
     go_roundg (ko - 1)
     case rel => exact ⟨q + 1, by omega, by go_num, hid (HBI.out.trans (HBJ.out.mono (by omega)))⟩
     case measure => omega
  ·obtain rfl : q = L := by omega
   go_wp2
   go_ret
   exact ⟨rfl, HB1.out.trans (HB.out.mono HB1.out.size)⟩
end Go.Proofs.YthblaeleogdfpaaGreatDoor

namespace Go.Proofs.YthblaeleogdfpaaGreatDoor
open Go.RowKit
structure LaterOf (w : World) where
  W : World
  hb : Below w.heap.size w W
instance later_inhabited (w : World) : Inhabited (LaterOf w) := ⟨⟨w, Below.refl _ _⟩⟩
theorem wp_region_later {P : Program} {id : Nat} {Q : Exit → Act → World → Prop} {a : Act} {w : World} {l : List Oper} (hm : P.follows .mixedOrders = true) (hB : Region.lexB .any l.toArray = true)
    (h : wpQuiet P l.toArray (fun w' => ∃ p : LaterOf w, w' = p.W) (fun a' => ∀ w', (∃ p : LaterOf w, w' = p.W) → Q .normal a' w') l a) : (Code.region id l.toArray true).wp P Q a w :=
  wp_region_quiet (C := fun w' => ∃ p : LaterOf w, w' = p.W) hm hB ⟨⟨w.drewN 1, below_drewN (Below.refl _ _)⟩, rfl⟩ (by simpa using h)
theorem later_call {P : Program} {f : FuncId} {args : Array Value} {w : World} {v : Value} (p : LaterOf w) (h : Calls P f args p.W (Ret p.W v)) :
    Calls P f args p.W fun e w'' => e = .returned v ∧ ∃ q : LaterOf w, w'' = q.W :=
  h.mono fun _ w' ⟨he, hb⟩ => ⟨he, ⟨w', p.hb.trans (hb.mono p.hb.size)⟩, rfl⟩
theorem LaterOf.cell {w : World} (p : LaterOf w) {a : Addr} {v : Value} (h : w.cell? a = some v) : p.W.cell? a = some v := (p.hb.cell (World.block_lt_of_cell? _ _ h)).trans h
end Go.Proofs.YthblaeleogdfpaaGreatDoor
namespace Go.Proofs.YthblaeleogdfpaaGreatDoor
open Go.RowKit
end Go.Proofs.YthblaeleogdfpaaGreatDoor

namespace Go.Proofs.YthblaeleogdfpaaGreatDoor
open Go.RowKit
def fineB (s : ByteArray) : Bool := decide (s.size ≤ 1024) && Lib.validD s.data.toList
def cellB (c : Cl) : Bool := fineB c.text && (!c.null || decide (c.text = ⟨#[]⟩))
def colB (n : Nat) (x : Co) : Bool := fineB x.name && (decide (n ≤ 4096) && (decide (x.cells.length = n) && x.cells.all cellB))
def tabB (t : Ta) : Bool := decide (0 ≤ t.id ∧ t.id ≤ 1073741824) && (fineB t.name && (decide (t.cols.length ≤ 64) && t.cols.all (colB (rowsC t.cols))))
def SzC (xs : List Co) : Prop := ∀ c ∈ xs, c.name.size ≤ 9223372036854775807 ∧ ∀ d ∈ c.cells, d.text.size ≤ 9223372036854775807
def SzT (t : Ta) : Prop := (Lit.int .i64 t.id).wf = true ∧ t.name.size ≤ 9223372036854775807 ∧ SzC t.cols
theorem all_no {α : Type} {p : α → Bool} {l : List α} {q : Nat} {d : α} (hq : q < l.length) (h : p (l.getD q d) = false) : l.all p = false := by
  cases e : l.all p with
  | false => rfl
  | true => rw [List.all_eq_true.1 e _ (getD_mem hq d)] at h; cases h
theorem all_up {α : Type} {p : α → Bool} {l : List α} {q : Nat} {d : α} (hq : q < l.length) (hp : (l.take q).all p = true) (h : p (l.getD q d) = true) : (l.take (q + 1)).all p = true := by
  have e : l.getD q d = l[q] := by simp [List.getD, hq]
  rw [List.take_succ_eq_append_getElem hq, List.all_append, hp, ← e, Bool.true_and, List.all_cons, h]
  rfl
theorem all_end {α : Type} {p : α → Bool} {l : List α} {n : Nat} (hn : l.length = n) (h : (l.take n).all p = true) : l.all p = true := by rw [← hn, List.take_length] at h; exact h
theorem empty_textB (t : ByteArray) : t.toList.isEmpty = decide (t = ⟨#[]⟩) := by
  rw [Lib.toList_data]
  by_cases h : t = ⟨#[]⟩
  · subst h
    rfl
  · rw [decide_eq_false h]
    cases hl : t.data.toList with
    | nil =>
      refine absurd ?_ h
      obtain ⟨⟨d⟩⟩ := t
      have : d = [] := hl
      subst this
      rfl
    | cons => rfl
theorem fineB_text {s : ByteArray} (h : fineB s = true) : TextOk 1024 s := by
  unfold fineB at h
  rw [Bool.and_eq_true, decide_eq_true_eq] at h
  exact h
theorem ref_nameB (s : ByteArray) (w : World) (hs : s.size ≤ 9223372036854775807) (hT : Tabs w) : Calls Tryz.prog 104 #[.string s] w (Ret w (.bool (fineB s))) := by
  have HV := hid (ref_Valid s w hs hT)
  have HF : Hid (fineB s = (decide (s.size ≤ 1024) && Lib.validD s.data.toList)) := hid rfl
  generalize Lib.validD s.data.toList = b at *
  generalize fineB s = r at *
  clear hT
  cases b with
  | false =>
    go_enter Tryz.func104, Tryz.ntmps104
    go_wp2_with fail
    with_reducible refine HV.out.mono ?_
    rintro e w1 ⟨rfl, hb⟩
    have HB := hid hb
    clear hb
    go_wp2
    go_ret
    exact ⟨by rw [HF.out, Bool.and_false]; rfl, HB.out⟩
  | true =>
    go_enter Tryz.func104, Tryz.ntmps104
    go_wp2_with fail
    with_reducible refine HV.out.mono ?_
    rintro e w1 ⟨rfl, hb⟩
    have HB := hid hb
    clear hb
    go_wp2
    go_ret
    refine ⟨ret_bool ?_, HB.out⟩
    rw [HF.out, Bool.and_true]
    apply decide_eq_decide.2
    omega
set_option maxHeartbeats 400000 in
theorem ref_ValidCellB (c : Cl) (w : World) (hc : c.text.size ≤ 9223372036854775807) (hT : Tabs w) : Calls Tryz.prog 105 #[.agg #[.bool c.null, .string c.text]] w (Ret w (.bool (cellB c))) := by
  obtain ⟨n, t⟩ := c
  simp only at hc
  have hb0 : Below w.heap.size w (w.alloc (.cells #[.bool n, .string t] 104)) := (Below.refl _ _).alloc (Nat.le_refl _) _
  have HV := hid (ref_Valid t (w.alloc (.cells #[.bool n, .string t] 104)) hc (hT.below hb0))
  have HF : Hid (cellB ⟨n, t⟩ = ((decide (t.size ≤ 1024) && Lib.validD t.data.toList) && (!n || decide (t = ⟨#[]⟩)))) := hid rfl
  generalize Lib.validD t.data.toList = b at *
  generalize cellB ⟨n, t⟩ = r at *
  have hx := BoxN.new w #[.bool n, .string t] 104
  have HB0 := hid hb0
  clear hT hb0 
  by_cases hsz : t.size ≤ 1024
  · have hd : decide ((t.size : Int) ≤ 1024) = true := decide_eq_true (by omega)
    have hd2 : decide (t.size ≤ 1024) = true := decide_eq_true hsz
    rw [hd2] at HF
    clear hd2
    cases b <;> cases n
    all_goals
      go_enter Tryz.func105, Tryz.ntmps105
      go_wp2_with fail
      with_reducible refine HV.out.mono ?_
      rintro e w1 ⟨rfl, hb⟩
      have hx1 := hx.below hb (by simp)
      have c0 := hx1.cell 0 rfl
      have c1 := hx1.cell 1 rfl
      have HB := hid (HB0.out.trans (hb.mono (by simp)))
      clear hb hx1 hx
      go_wp2
      go_ret
      refine ⟨?_, HB.out⟩
      rw [HF.out]
      first | (simp; done) | (simp; exact empty_textB t)
  · have hd : decide ((t.size : Int) ≤ 1024) = false := decide_eq_false (by omega)
    have hd2 : decide (t.size ≤ 1024) = false := decide_eq_false hsz
    rw [hd2] at HF
    clear hd2
    cases b
    all_goals
      go_enter Tryz.func105, Tryz.ntmps105
      go_wp2_with fail
      with_reducible refine HV.out.mono ?_
      rintro e w1 ⟨rfl, hb⟩
      have hx1 := hx.below hb (by simp)
      have c0 := hx1.cell 0 rfl
      have c1 := hx1.cell 1 rfl
      have HB := hid (HB0.out.trans (hb.mono (by simp)))
      clear hb hx1 hx
      go_wp2
      go_ret
      refine ⟨?_, HB.out⟩
      rw [HF.out]
      simp
set_option maxRecDepth 100000 in
set_option maxHeartbeats 4000000 in
theorem ref_ValidB (t : Ta) (v : Value) (B : Nat) (w : World) (hz : SzT t) (hv : RdCo w (· < B) v t.cols) (hB : B ≤ w.heap.size) (hT : Tabs w) :
  Calls Tryz.prog 56 #[.agg #[.int .i64 t.id, .string t.name, v]] w (Ret w (.bool (tabB t))) := by
 obtain ⟨id, nm, xs⟩ := t
 obtain ⟨-, hnm, hsz⟩ := hz
 simp only at hnm hsz hv
 obtain ⟨cv, ⟨a, k, rfl, hk, hm, hrd⟩, hcl⟩ := hv
 have HTB : Hid (tabB ⟨id, nm, xs⟩ = (decide (0 ≤ id ∧ id ≤ 1073741824) && (fineB nm && (decide (xs.length ≤ 64) && xs.all (colB (rowsC xs)))))) := hid rfl
 have hb0 : Below w.heap.size w (w.alloc (.cells #[.int .i64 id, .string nm, .slice a xs.length k] 24)) := (Below.refl _ _).alloc (Nat.le_refl _) _
 have HN := hid (ref_nameB nm (w.alloc (.cells #[.int .i64 id, .string nm, .slice a xs.length k] 24)) hnm (hT.below hb0))
 have HX := hid (BoxN.new w #[.int .i64 id, .string nm, .slice a xs.length k] 24)
 have HB0 := hid hb0
 have HT := hid hT
 have HRD := hid hrd
 have HCL := hid hcl
 have HSZ := hid hsz
 have HANO := hid (fun q (hq : q < xs.length) (h : colB (rowsC xs) (xs.getD q Co.z) = false) => all_no hq h)
 have HAUP := hid (fun q (hq : q < xs.length) hp (h : colB (rowsC xs) (xs.getD q Co.z) = true) => all_up hq hp h)
 have HAEN := hid (fun h => all_end (p := colB (rowsC xs)) (l := xs) (n := xs.length) rfl h)
 have HRC : Hid ((xs.getD 0 Co.z).cells.length = rowsC xs) := hid rfl
 have HCB : Hid (∀ x : Co, colB (rowsC xs) x = (fineB x.name && (decide (rowsC xs ≤ 4096) && (decide (x.cells.length = rowsC xs) && x.cells.all cellB)))) := hid fun _ => rfl
 clear hb0 hT hrd hcl hsz hnm
 generalize tabB ⟨id, nm, xs⟩ = R at *
 generalize fineB nm = bn at *
 generalize colB (rowsC xs) = cb at *
 generalize rowsC xs = rc at *
 generalize hxl : xs.length = L at *
 have HXL := hid hxl
 clear hxl
 unfold maxLen at hm
 have c0 := HX.out.cell 0 rfl
 have c1 := HX.out.cell 1 rfl
 have c2 := HX.out.cell 2 rfl
 by_cases hi0 : id < 0
 ·have hd : decide (id < 0) = true := decide_eq_true hi0
  have hR : R = false := by rw [HTB.out, decide_eq_false (by omega)]; rfl
  subst hR
  go_enter Tryz.func56, Tryz.ntmps56
  generalize hLA : Code.loop _ = LA
  go_wp2
  go_ret
  exact ⟨rfl, HB0.out⟩
 have hd0 : decide (id < 0) = false := decide_eq_false hi0
 by_cases hi1 : 1073741824 < id
 ·have hd : decide (1073741824 < id) = true := decide_eq_true hi1
  have hR : R = false := by rw [HTB.out, decide_eq_false (by omega)]; rfl
  subst hR
  go_enter Tryz.func56, Tryz.ntmps56
  generalize hLA : Code.loop _ = LA
  go_wp2
  go_ret
  exact ⟨rfl, HB0.out⟩
 have hd1 : decide (1073741824 < id) = false := decide_eq_false hi1
 rw [decide_eq_true (show 0 ≤ id ∧ id ≤ 1073741824 by omega), Bool.true_and] at HTB
 clear hi0 hi1
 cases bn with
 | false =>
  have hR : R = false := by rw [HTB.out]; rfl
  subst hR
  go_enter Tryz.func56, Tryz.ntmps56
  generalize hLA : Code.loop _ = LA
  go_wp2_with fail
  with_reducible refine HN.out.mono ?_
  rintro e w1 ⟨rfl, hb⟩
  have HB1 := hid (HB0.out.trans (hb.mono (by simp)))
  clear hb c0 c1 c2
  go_wp2
  go_ret
  exact ⟨rfl, HB1.out⟩
 | true =>
  rw [Bool.true_and] at HTB
  by_cases hL64 : 64 < L
  ·have hd64 : decide ((64 : Int) < (L : Int)) = true := decide_eq_true (by omega)
   have hR : R = false := by rw [HTB.out, decide_eq_false (by omega)]; rfl
   subst hR
   go_enter Tryz.func56, Tryz.ntmps56
   generalize hLA : Code.loop _ = LA
   go_wp2_with fail
   with_reducible refine HN.out.mono ?_
   rintro e w1 ⟨rfl, hb⟩
   have HB1 := hid (HB0.out.trans (hb.mono (by simp)))
   have HX1 := hid (HX.out.below hb HX.out.lt)
   clear hb c0 c1 c2
   have c2 := HX1.out.cell 2 rfl
   go_wp2
   go_ret
   exact ⟨rfl, HB1.out⟩
  have hd64 : decide ((64 : Int) < (L : Int)) = false := decide_eq_false (by omega)
  rw [decide_eq_true (show L ≤ 64 by omega), Bool.true_and] at HTB
  go_enter Tryz.func56, Tryz.ntmps56
  generalize hLA : Code.loop _ = LA
  go_wp2_with fail
  with_reducible refine HN.out.mono ?_
  rintro e w1 ⟨rfl, hb⟩
  have HX1 := hid (HX.out.below hb HX.out.lt)
  have HB1 := hid (HB0.out.trans (hb.mono (by simp)))
  have hz1 := HX1.out.lt
  clear hb c0 c1 c2
  have c2 := HX1.out.cell 2 rfl
  go_wp2_with fail
  clear c2 HN HX hd0 hd1
  subst hLA
  go_loopg [30] L (fun N i wr => ∃ q : Nat, q + N = L ∧ i = .int .i64 (q : Int) ∧ Hid (Below w1.heap.size w1 wr) ∧ Hid ((xs.take q).all cb = true))
  case atStart => exact ⟨0, by omega, rfl, hid (Below.refl _ _), hid rfl⟩
  case round =>
   obtain ⟨q, hq, rfl, HB, HALL⟩ := hrel
   by_cases hp : 0 < gk
   ·obtain ⟨b, o, rfl, hb, hcell⟩ := HRD.out (by omega)
    have hbw : b < w.heap.size := by have : b < B := hb; omega
    have HBW := hid (HB1.out.trans (HB.out.mono HB1.out.size))
    have hwz := HBW.out.size
    have hwz1 := HB.out.size
    have HSQ := hid (HSZ.out _ (getD_mem (l := xs) (i := q) (by have := HXL.out; omega) Co.z))
    have HRQ := hid (HCL.out q (by omega))
    obtain ⟨ca, ck, hcq, -, hcm, -⟩ := HCL.out q (by omega)
    obtain ⟨ca0, ck0, hc0, -, -, -⟩ := HCL.out 0 (by omega)
    rw [HRC.out] at hc0
    have k0 : wr.cell? ⟨b, o + q * 2, none⟩ = some (.string (xs.getD q Co.z).name) := (HBW.out.cell (p := ⟨b, o + q * 2, none⟩) hbw).trans (hcell q (by omega) 0 (by omega))
    have k1 : wr.cell? ⟨b, o + q * 2 + 1, none⟩ = some (cv q) := (HBW.out.cell (p := ⟨b, o + q * 2 + 1, none⟩) hbw).trans (hcell q (by omega) 1 (by omega))
    have k2 : wr.cell? ⟨b, o + 1, none⟩ = some (cv 0) := (HBW.out.cell (p := ⟨b, o + 1, none⟩) hbw).trans (by have := hcell 0 (by omega) 1 (by omega); simp only [Nat.zero_mul, Nat.add_zero] at this; exact this)
    have HCBQ := hid (HCB.out (xs.getD q Co.z))
    have HANQ := hid (HANO.out q (by omega))
    have HAUQ := hid (HAUP.out q (by omega) HALL.out)
    rw [hcq] at k1 HRQ
    rw [hc0] at k2
    clear hcell hcq hc0
    generalize xs.getD q Co.z = x at *
    obtain ⟨xn, xc⟩ := x
    simp only at HCBQ HSQ
    have HNM := hid (fun W h => ref_nameB xn W HSQ.out.1 h)
    have HCC := hid (fun c h W hW => ref_ValidCellB c W (HSQ.out.2 c h) hW)
    generalize hxcl : xc.length = m at *
    have HXCL := hid hxcl
    clear hxcl
    unfold maxLen at hcm
    generalize fineB xn = bx at *
    have hL0 : 0 < L := by omega
    have hL1 : (0 : Int) < (L : Int) := by omega
    have hL2 : L ≠ 0 := by omega
    go_wp2_with fail
    have HWA : Hid (Below wr.heap.size wr (wr.alloc (.cells #[.string xn, .slice ca m ck] 30))) := hid (by repeat' (first | (with_reducible exact Below.refl _ _) | (with_reducible assumption) | (with_reducible refine below_drewN ?_) | (with_reducible refine Below.alloc ?_ ?_ _) | (with_reducible refine Below.drew ?_) | (with_reducible refine Below.setCell ?_ ?_ _) | (with_reducible refine Below.trans ?_ (Below.mono (by with_reducible assumption) ?_)) | go_size))
    have hbx := BoxN.new wr #[.string xn, .slice ca m ck] 30
    have n2 : (wr.alloc (.cells #[.string xn, .slice ca m ck] 30)).cell? ⟨b, o + 1, none⟩ = some (.slice ca0 rc ck0) := (World.cell?_alloc_lt _ _ _ (by show b < _; omega)).trans k2
    have n3 : (wr.alloc (.cells #[.string xn, .slice ca m ck] 30)).cell? ⟨w.heap.size, 2, none⟩ = some (.slice (some ⟨b, o, none⟩) L k) := (World.cell?_alloc_lt _ _ _ (by show w.heap.size < _; omega)).trans ((HX1.out.below HB.out hz1).cell 2 rfl)
    generalize wr.alloc (.cells #[.string xn, .slice ca m ck] 30) = W8 at *
    have hwz8 := HWA.out.size
    have f0 := fun p : LaterOf W8 => p.cell (v := .string xn) (hbx.cell 0 rfl)
    have f1 := fun p : LaterOf W8 => p.cell (v := .slice ca m ck) (hbx.cell 1 rfl)
    have f2 := fun p : LaterOf W8 => p.cell n2
    have f3 := fun p : LaterOf W8 => p.cell n3
    have HCALL := hid (fun p : LaterOf W8 => later_call p (HNM.out p.W (HT.out.below (HBW.out.trans ((HWA.out.trans (p.hb.mono hwz8)).mono hwz)))))
    have HBX := hid hbx
    clear hbx n2 n3
    cases bx with
    | false =>
     refine wp_region_later (by kernel_rfl) (by kernel_rfl) ?_
     repeat (first | go_big_quiet_step ((go_at_call 104; exact HCALL.out _)) | quiet_step ((go_at_call 104; exact HCALL.out _)))
     refine wpQuiet_nil ?_
     intro _ hw'
     obtain ⟨p5, rfl⟩ := hw'
     have HBI := hid (HBW.out.trans ((HWA.out.trans (p5.hb.mono hwz8)).mono hwz))
     generalize p5.W = w5 at *
     clear f0 f1 f2 f3 HCALL
     have hR : R = false := by rw [HTB.out]; exact HANQ.out (by rw [HCBQ.out]; rfl)
     subst hR
     go_wp2
     go_ret
     exact ⟨rfl, HBI.out⟩
    | true =>
     rw [Bool.true_and] at HCBQ
     by_cases hm4 : 4096 < m
     ·have hd5 : decide ((4096 : Int) < (m : Int)) = true := decide_eq_true (by omega)
      refine wp_region_later (by kernel_rfl) (by kernel_rfl) ?_
      repeat (first | go_big_quiet_step ((go_at_call 104; exact HCALL.out _)) | quiet_step ((go_at_call 104; exact HCALL.out _)))
      refine wpQuiet_nil ?_
      intro _ hw'
      obtain ⟨p5, rfl⟩ := hw'
      have HBI := hid (HBW.out.trans ((HWA.out.trans (p5.hb.mono hwz8)).mono hwz))
      generalize p5.W = w5 at *
      clear f0 f1 f2 f3 HCALL
      have hR : R = false := by
       rw [HTB.out]
       refine HANQ.out ?_
       rw [HCBQ.out]
       by_cases e : m = rc
       ·rw [decide_eq_false (show ¬ rc ≤ 4096 by omega)]; rfl
       ·rw [decide_eq_false e, Bool.false_and, Bool.and_false]
      subst hR
      go_wp2
      go_ret
      exact ⟨rfl, HBI.out⟩
     have hd5 : decide ((4096 : Int) < (m : Int)) = false := decide_eq_false (by omega)
     by_cases hmr : m = rc
     ·subst hmr
      rw [decide_eq_true (show m ≤ 4096 by omega), Bool.true_and, decide_eq_true rfl, Bool.true_and] at HCBQ
      have hd6 : ((m : Int) != (m : Int)) = false := by simp
      refine wp_region_later (by kernel_rfl) (by kernel_rfl) ?_
      repeat (first | go_big_quiet_step ((go_at_call 104; exact HCALL.out _)) | quiet_step ((go_at_call 104; exact HCALL.out _)))
      refine wpQuiet_nil ?_
      intro _ hw'
      obtain ⟨p5, rfl⟩ := hw'
      have HB5 := hid (HWA.out.trans (p5.hb.mono hwz8))
      have HBX5 := hid (HBX.out.below p5.hb HBX.out.lt)
      generalize p5.W = w5 at *
      clear f0 f1 f2 f3 HCALL
      have HBI := hid (HB.out.trans (HB5.out.mono hwz1))
      have HBW5 := hid (HBW.out.trans (HB5.out.mono hwz))
      have o1 := HBX5.out.cell 1 rfl
      have HCNO := hid (fun q (hq : q < xc.length) (h : cellB (xc.getD q Cl.z) = false) => all_no hq h)
      have HCUP := hid (fun q (hq : q < xc.length) hp (h : cellB (xc.getD q Cl.z) = true) => all_up hq hp h)
      have HCEN := hid (fun h => all_end (p := cellB) (l := xc) (n := xc.length) rfl h)
      rw [HXCL.out] at HCNO HCUP HCEN
      obtain ⟨ca', ck', hce, -, -, hrc⟩ := HRQ.out
      simp only at hrc hce
      rw [HXCL.out] at hrc hce
      obtain ⟨rfl, -, rfl⟩ := Value.slice.inj hce
      have HRC2 := hid hrc
      clear hrc hce HRQ k0 k1 k2
      obtain ⟨wo, rfl⟩ : ∃ wo, wo = wr := ⟨wr, rfl⟩
      obtain ⟨ko, rfl⟩ : ∃ ko, ko = gk := ⟨gk, rfl⟩
      go_wp2_with fail
      clear o1
      go_loopg [59] m (fun N i W => ∃ j : Nat, j + N = m ∧ i = .int .i64 (j : Int) ∧ Hid (Below w5.heap.size w5 W) ∧ Hid ((xc.take j).all cellB = true))
      case atStart => exact ⟨0, by omega, rfl, hid (by have := Below.refl w5.heap.size w5; repeat' (first | (with_reducible exact Below.refl _ _) | (with_reducible assumption) | (with_reducible refine below_drewN ?_) | (with_reducible refine Below.alloc ?_ ?_ _) | (with_reducible refine Below.drew ?_) | (with_reducible refine Below.setCell ?_ ?_ _) | (with_reducible refine Below.trans ?_ (Below.mono (by with_reducible assumption) ?_)) | go_size)), hid rfl⟩
      case round =>
       obtain ⟨j, hj, rfl, HBJ, HALJ⟩ := hrel
       have hjz := HBJ.out.size
       have HBWJ := hid (HBW5.out.trans (HBJ.out.mono HBW5.out.size))
       by_cases hpj : 0 < gk
       ·obtain ⟨b2, o2, rfl, hb2, hcell2⟩ := HRC2.out (by omega)
        have hbw2 : b2 < w.heap.size := by have : b2 < B := hb2; omega
        have k0 : wr.cell? ⟨b2, o2 + j * 2, none⟩ = some (.bool (xc.getD j Cl.z).null) := (HBWJ.out.cell (p := ⟨b2, o2 + j * 2, none⟩) hbw2).trans (hcell2 j (by omega) 0 (by omega))
        have k1 : wr.cell? ⟨b2, o2 + j * 2 + 1, none⟩ = some (.string (xc.getD j Cl.z).text) := (HBWJ.out.cell (p := ⟨b2, o2 + j * 2 + 1, none⟩) hbw2).trans (hcell2 j (by omega) 1 (by omega))
        have HCJ := hid (HCC.out _ (getD_mem (l := xc) (i := j) (by have h : xc.length = m := HXCL.out; omega) Cl.z))
        have HCNJ := hid (HCNO.out j (by omega))
        have HCUJ := hid (HCUP.out j (by omega) HALJ.out)
        clear hcell2
        generalize xc.getD j Cl.z = c at *
        generalize cellB c = bc at *
        obtain ⟨cn, ct⟩ := c
        go_wp2_with fail
        with_reducible refine (HCJ.out _ (HT.out.below (by have := HBWJ.out; have h9 := HBWJ.out.size; repeat' (first | (with_reducible exact Below.refl _ _) | (with_reducible assumption) | (with_reducible refine below_drewN ?_) | (with_reducible refine Below.alloc ?_ ?_ _) | (with_reducible refine Below.drew ?_) | (with_reducible refine Below.setCell ?_ ?_ _) | (with_reducible refine Below.trans ?_ (Below.mono (by with_reducible assumption) ?_)) | go_size)))).mono ?_
        rintro e w6 ⟨rfl, hb6⟩
        have HB6 : Hid (Below wr.heap.size wr w6) := hid (by repeat' (first | (with_reducible exact Below.refl _ _) | (with_reducible assumption) | (with_reducible refine below_drewN ?_) | (with_reducible refine Below.alloc ?_ ?_ _) | (with_reducible refine Below.drew ?_) | (with_reducible refine Below.setCell ?_ ?_ _) | (with_reducible refine Below.trans ?_ (Below.mono (by with_reducible assumption) ?_)) | go_size))
        clear hb6 k0 k1
        cases bc with
        | false =>
         have hR : R = false := by rw [HTB.out]; exact HANQ.out (by rw [HCBQ.out]; exact HCNJ.out rfl)
         subst hR
         go_wp2
         go_ret
         exact ⟨rfl, HBWJ.out.trans (HB6.out.mono HBWJ.out.size)⟩
        | true =>
         go_wp2_with fail
         go_roundg (gk - 1)
         case rel => exact ⟨j + 1, by omega, by go_num, hid (HBJ.out.trans (HB6.out.mono hjz)), hid (HCUJ.out (by simp))⟩
         case measure => omega
       ·obtain rfl : j = m := by omega
        go_wp2_with fail
        go_roundg (ko - 1)
        case rel => exact ⟨q + 1, by omega, by go_num, hid (HBI.out.trans (HBJ.out.mono HBI.out.size)), hid (HAUQ.out (by rw [HCBQ.out]; exact HCEN.out HALJ.out))⟩
        case measure => omega
     ·have hd6 : ((m : Int) != (rc : Int)) = true := by simp; omega
      refine wp_region_later (by kernel_rfl) (by kernel_rfl) ?_
      repeat (first | go_big_quiet_step ((go_at_call 104; exact HCALL.out _)) | quiet_step ((go_at_call 104; exact HCALL.out _)))
      refine wpQuiet_nil ?_
      intro _ hw'
      obtain ⟨p5, rfl⟩ := hw'
      have HBI := hid (HBW.out.trans ((HWA.out.trans (p5.hb.mono hwz8)).mono hwz))
      generalize p5.W = w5 at *
      clear f0 f1 f2 f3 HCALL
      have hR : R = false := by
       rw [HTB.out]
       refine HANQ.out ?_
       rw [HCBQ.out, decide_eq_false hmr, Bool.false_and, Bool.and_false]
      subst hR
      go_wp2
      go_ret
      exact ⟨rfl, HBI.out⟩
   ·obtain rfl : q = L := by omega
    have hR : R = true := by rw [HTB.out]; exact HAEN.out HALL.out
    subst hR
    go_wp2
    go_ret
    exact ⟨rfl, HB1.out.trans (HB.out.mono HB1.out.size)⟩
def upB : List Ta → Bool
  | a :: b :: l => decide (a.id < b.id) && upB (b :: l)
  | _ => true
def listB (ts : List Ta) : Bool := decide (ts.length ≤ 1024) && (ts.all tabB && upB ts)
def SzL (ts : List Ta) : Prop := ∀ t ∈ ts, SzT t
end Go.Proofs.YthblaeleogdfpaaGreatDoor
