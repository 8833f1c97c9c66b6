/- Contracts of the reference's checks of tables, at valid ones. A region that draws its order, whose operations only read and whose callees may lay blocks: walked once. No program in sight. Contract of the reference's check of a list of tables, at valid ones. Contracts of the reference's CompareCells, can, equal. -/
import Derived.Test.YtfmlpaplnkohpaaGreatDoorProg
import Derived.Test.YtfmlpaplnkohpaaGreatDoorLnBab
import Derived.Test.YtfmlpaplnkohpaaGreatDoorLnBad
import Derived.Test.YtfmlpaplnkohpaaGreatDoorLnBaa
import Derived.Test.YtfmlpaplnkohpaaGreatDoorLnBac
set_option linter.unusedVariables false
set_option linter.unusedSimpArgs false
namespace Go.Proofs.YtfmlpaplnkohpaaGreatDoor
open Go.RowKit
theorem ref_name (s : ByteArray) (w : World) (h : TextOk 1024 s) (hT : Tabs w) : Calls Tryz.prog 100 #[.string s] w (Ret w (.bool true)) := by
  have HV := hid (ref_Valid s w (by have := h.1; omega) hT)
  rw [h.2] at HV
  have hs := h.1
  clear h hT
  go_enter Tryz.func100, Tryz.ntmps100
  go_wp2_with fail
  with_reducible refine HV.out.mono ?_
  rintro e w1 ⟨rfl, hb⟩
  have HB := hid hb
  clear hb
  go_wp2
  go_ret
  exact ⟨ret_bool (decide_eq_true (by omega)), HB.out⟩
set_option maxHeartbeats 400000 in
theorem ref_ValidCell (c : Cl) (w : World) (hc : CellOk c) (hT : Tabs w) : Calls Tryz.prog 101 #[.agg #[.bool c.null, .string c.text]] w (Ret w (.bool true)) := by
  obtain ⟨n, t⟩ := c
  obtain ⟨hn, ht, hv⟩ := hc
  have hb0 : Below w.heap.size w (w.alloc (.cells #[.bool n, .string t] 42)) := (Below.refl _ _).alloc (Nat.le_refl _) _
  have HV := hid (ref_Valid t (w.alloc (.cells #[.bool n, .string t] 42)) (by simp at ht; omega) (hT.below hb0))
  simp only at hv ht hn
  rw [hv] at HV
  have hx := BoxN.new w #[.bool n, .string t] 42
  have HB0 := hid hb0
  clear hT hb0 hv
  cases n
  · clear hn
    go_enter Tryz.func101, Tryz.ntmps101
    go_wp2_with fail
    with_reducible refine HV.out.mono ?_
    rintro e w1 ⟨rfl, hb⟩
    have hx1 := hx.below hb (by simp)
    have c0 := hx1.cell 0 rfl
    have c1 := hx1.cell 1 rfl
    have HB := hid (HB0.out.trans (hb.mono (by simp)))
    clear hb hx1 hx
    go_wp2
    go_ret
    exact ⟨rfl, HB.out⟩
  · obtain rfl := hn rfl
    go_enter Tryz.func101, Tryz.ntmps101
    go_wp2_with fail
    with_reducible refine HV.out.mono ?_
    rintro e w1 ⟨rfl, hb⟩
    have hx1 := hx.below hb (by simp)
    have c0 := hx1.cell 0 rfl
    have c1 := hx1.cell 1 rfl
    have HB := hid (HB0.out.trans (hb.mono (by simp)))
    clear hb hx1 hx hn
    go_wp2
    go_ret
    exact ⟨rfl, HB.out⟩
set_option maxRecDepth 100000 in
set_option maxHeartbeats 2000000 in
theorem ref_ValidTab (t : Ta) (v : Value) (B : Nat) (w : World) (ht : TabV t) (hv : RdCo w (· < B) v t.cols) (hB : B ≤ w.heap.size) (hT : Tabs w) :
    Calls Tryz.prog 61 #[.agg #[.int .i64 t.id, .string t.name, v]] w (Ret w (.bool true)) := by
  obtain ⟨id, nm, xs⟩ := t
  obtain ⟨h0, h1, hnm, hxs, n, hn, hcs⟩ := ht
  simp only at h0 h1 hnm hxs hcs hv
  obtain ⟨cv, hcv, hcl⟩ := hv
  obtain ⟨a, k, rfl, hk, hm, hrd⟩ := hcv
  have hb0 : Below w.heap.size w (w.alloc (.cells #[.int .i64 id, .string nm, .slice a xs.length k] 29)) := (Below.refl _ _).alloc (Nat.le_refl _) _
  have HN := hid (ref_name nm (w.alloc (.cells #[.int .i64 id, .string nm, .slice a xs.length k] 29)) hnm (hT.below hb0))
  have hx := BoxN.new w #[.int .i64 id, .string nm, .slice a xs.length k] 29
  have HB0 := hid hb0
  have HT := hid hT
  have HRD := hid hrd
  have HCL := hid hcl
  have HCS := hid hcs
  clear hb0 hT hrd hcl hcs hnm
  generalize hxl : xs.length = L at *
  have HXL := hid hxl
  clear hxl
  unfold maxLen at hm
  go_enter Tryz.func61, Tryz.ntmps61
  generalize hLA : Code.loop _ = LA
  go_wp2_with fail
  with_reducible refine HN.out.mono ?_
  rintro e w1 ⟨rfl, hb⟩
  have hx1 := hx.below hb (by simp)
  have c0 := hx1.cell 0 rfl
  have c1 := hx1.cell 1 rfl
  have c2 := hx1.cell 2 rfl
  have HX1 := hid hx1
  have HB1 := hid (HB0.out.trans (hb.mono (by simp)))
  have hz1 := hx1.lt
  clear hb hx1 hx HN
  go_wp2_with fail
  clear c0 c1 c2
  subst hLA
  go_loopg [30] L (fun N i wr => ∃ q : Nat, q + N = L ∧ i = .int .i64 (q : Int) ∧ Hid (Below w1.heap.size w1 wr))
  case atStart => exact ⟨0, by omega, rfl, hid (Below.refl _ _)⟩
  case round =>
    obtain ⟨q, hq, rfl, HB⟩ := hrel
    by_cases hp : 0 < gk
    · obtain ⟨b, o, rfl, hb, hcell⟩ := HRD.out (by omega)
      have hbw : b < w.heap.size := by omega
      have HBW := hid (HB1.out.trans (HB.out.mono HB1.out.size))
      have hwz := HBW.out.size
      have hwz1 := HB.out.size
      obtain ⟨hxn, hxl, hxc⟩ := HCS.out _ (getD_mem (l := xs) (i := q) (by have := HXL.out; omega) Co.z)
      obtain ⟨-, hxl0, -⟩ := HCS.out _ (getD_mem (l := xs) (i := 0) (by have := HXL.out; omega) Co.z)
      have HRQ := hid (HCL.out q (by omega))
      obtain ⟨ca, ck, hcq, -, -, -⟩ := HCL.out q (by omega)
      obtain ⟨ca0, ck0, hc0, -, -, -⟩ := HCL.out 0 (by omega)
      rw [hxl] at hcq
      rw [hxl0] at hc0
      have k0 : wr.cell? ⟨b, o + q * 2, none⟩ = some (.string (xs.getD q Co.z).name) := (HBW.out.cell (p := ⟨b, o + q * 2, none⟩) hbw).trans (hcell q (by omega) 0 (by omega))
      have k1 : wr.cell? ⟨b, o + q * 2 + 1, none⟩ = some (cv q) := (HBW.out.cell (p := ⟨b, o + q * 2 + 1, none⟩) hbw).trans (hcell q (by omega) 1 (by omega))
      have k2 : wr.cell? ⟨b, o + 1, none⟩ = some (cv 0) := (HBW.out.cell (p := ⟨b, o + 1, none⟩) hbw).trans (by have := hcell 0 (by omega) 1 (by omega); simp only [Nat.zero_mul, Nat.add_zero] at this; exact this)
      have k3 := (HX1.out.below HB.out hz1).cell 2 rfl
      rw [hcq] at k1
      rw [hc0] at k2
      rw [hcq] at HRQ
      have HXN := hid hxn
      have HXC := hid hxc
      have HXL2 := hid hxl
      clear hcell hcq hc0 hxl0 hxn hxc hxl
      generalize xs.getD q Co.z = x at *
      obtain ⟨xn, xc⟩ := x
      have HNM := hid (fun W h => ref_name xn W HXN.out h)
      have HCC := hid (fun c h W hW => ref_ValidCell c W (HXC.out c h) hW)
      have n0 : ∀ O : Obj, (wr.alloc O).cell? ⟨b, o + 1, none⟩ = some (.slice ca0 n ck0) := fun O => (World.cell?_alloc_lt _ _ _ (by show b < _; omega)).trans k2
      have n1 : ∀ O : Obj, (wr.alloc O).cell? ⟨w.heap.size, 2, none⟩ = some (.slice (some ⟨b, o, none⟩) L k) := fun O => (World.cell?_alloc_lt _ _ _ (by show w.heap.size < _; omega)).trans k3
      have n2 := n0 (.cells #[.string xn, .slice ca n ck] 39)
      have n3 := n1 (.cells #[.string xn, .slice ca n ck] 39)
      clear n0 n1
      have hd : decide ((4096 : Int) < (n : Int)) = false := by simp; omega
      have hL0 : 0 < L := by omega
      have hL1 : (0 : Int) < (L : Int) := by omega
      have hL2 : L ≠ 0 := by omega
      go_wp2_with fail
      go_region_held3 (fun w' => w'.cell? ⟨wr.heap.size, 0, none⟩ = some (.string xn) ∧ w'.cell? ⟨wr.heap.size, 1, none⟩ = some (.slice ca n ck) ∧ w'.cell? ⟨b, o + 1, none⟩ = some (.slice ca0 n ck0) ∧ w'.cell? ⟨w.heap.size, 2, none⟩ = some (.slice (some ⟨b, o, none⟩) L k))
        (first | exact ⟨o0, o1, o2, o3⟩ | go_keep)
        (first
          | (go_at_call 100; go_must (((with_reducible refine (HNM.out _ (HT.out.below (by have := HBW.out; repeat' (first | (with_reducible exact Below.refl _ _) | (with_reducible assumption) | (with_reducible refine below_drewN ?_) | (with_reducible refine Below.alloc ?_ ?_ _) | (with_reducible refine Below.drew ?_) | (with_reducible refine Below.setCell ?_ ?_ _) | (with_reducible refine Below.trans ?_ (Below.mono (by with_reducible assumption) ?_)) | go_size)))).mono ?_); rintro e w5 ⟨rfl, hb5⟩; have o0 := cell_later hb5 (a := ⟨wr.heap.size, 0, none⟩) (v := .string xn) (by go_cell); have o1 := cell_later hb5 (a := ⟨wr.heap.size, 1, none⟩) (v := .slice ca n ck) (by go_cell); have o2 := cell_later hb5 (a := ⟨b, o + 1, none⟩) (v := .slice ca0 n ck0) (by go_cell); have o3 := cell_later hb5 (a := ⟨w.heap.size, 2, none⟩) (v := .slice (some ⟨b, o, none⟩) L k) (by go_cell)))))
      have HB5 : Hid (Below wr.heap.size wr w5) := hid (by repeat' (first | (with_reducible exact Below.refl _ _) | (with_reducible assumption) | (with_reducible refine below_drewN ?_) | (with_reducible refine Below.alloc ?_ ?_ _) | (with_reducible refine Below.drew ?_) | (with_reducible refine Below.setCell ?_ ?_ _) | (with_reducible refine Below.trans ?_ (Below.mono (by with_reducible assumption) ?_)) | go_size))
      have HBW5 := hid (HBW.out.trans (HB5.out.mono hwz))
      have HBI := hid (HB.out.trans (HB5.out.mono hwz1))
      have hz5 := HB5.out.size
      clear hb5 o0 o2 o3 n2 n3 k0 k1 k2 k3 hd
      obtain ⟨wo, rfl⟩ : ∃ wo, wo = wr := ⟨wr, rfl⟩
      obtain ⟨ko, rfl⟩ : ∃ ko, ko = gk := ⟨gk, rfl⟩
      obtain ⟨ca', ck', hce, -, -, hrc⟩ := HRQ.out
      simp only at hrc hce
      rw [HXL2.out] at hrc hce
      obtain ⟨rfl, -, rfl⟩ := Value.slice.inj hce
      have HRC := hid hrc
      clear hrc hce HRQ
      go_wp2_with fail
      go_loopg [59] n (fun N i W => ∃ j : Nat, j + N = n ∧ i = .int .i64 (j : Int) ∧ Hid (Below w5.heap.size w5 W))
      case atStart => exact ⟨0, by omega, rfl, hid (by have := Below.refl w5.heap.size w5; repeat' (first | (with_reducible exact Below.refl _ _) | (with_reducible assumption) | (with_reducible refine below_drewN ?_) | (with_reducible refine Below.alloc ?_ ?_ _) | (with_reducible refine Below.drew ?_) | (with_reducible refine Below.setCell ?_ ?_ _) | (with_reducible refine Below.trans ?_ (Below.mono (by with_reducible assumption) ?_)) | go_size))⟩
      case round =>
        obtain ⟨j, hj, rfl, HBJ⟩ := hrel
        by_cases hpj : 0 < gk
        · obtain ⟨b2, o2, rfl, hb2, hcell2⟩ := HRC.out (by omega)
          have hbw2 : b2 < w.heap.size := by omega
          have hjz := HBJ.out.size
          have HBWJ := hid (HBW5.out.trans (HBJ.out.mono HBW5.out.size))
          have k0 : wr.cell? ⟨b2, o2 + j * 2, none⟩ = some (.bool (xc.getD j Cl.z).null) := (HBWJ.out.cell (p := ⟨b2, o2 + j * 2, none⟩) hbw2).trans (hcell2 j (by omega) 0 (by omega))
          have k1 : wr.cell? ⟨b2, o2 + j * 2 + 1, none⟩ = some (.string (xc.getD j Cl.z).text) := (HBWJ.out.cell (p := ⟨b2, o2 + j * 2 + 1, none⟩) hbw2).trans (hcell2 j (by omega) 1 (by omega))
          have HCJ := hid (HCC.out _ (getD_mem (l := xc) (i := j) (by have h : xc.length = n := HXL2.out; omega) Cl.z))
          clear hcell2
          generalize xc.getD j Cl.z = c at *
          obtain ⟨cn, ct⟩ := c
          go_wp2_with fail
          with_reducible refine (HCJ.out _ (HT.out.below (by have := HBWJ.out; repeat' (first | (with_reducible exact Below.refl _ _) | (with_reducible assumption) | (with_reducible refine below_drewN ?_) | (with_reducible refine Below.alloc ?_ ?_ _) | (with_reducible refine Below.drew ?_) | (with_reducible refine Below.setCell ?_ ?_ _) | (with_reducible refine Below.trans ?_ (Below.mono (by with_reducible assumption) ?_)) | go_size)))).mono ?_
          rintro e w6 ⟨rfl, hb6⟩
          have HB6 : Hid (Below wr.heap.size wr w6) := hid (by repeat' (first | (with_reducible exact Below.refl _ _) | (with_reducible assumption) | (with_reducible refine below_drewN ?_) | (with_reducible refine Below.alloc ?_ ?_ _) | (with_reducible refine Below.drew ?_) | (with_reducible refine Below.setCell ?_ ?_ _) | (with_reducible refine Below.trans ?_ (Below.mono (by with_reducible assumption) ?_)) | go_size))
          clear hb6 k0 k1
          go_wp2_with fail
          go_roundg (gk - 1)
          case rel => exact ⟨j + 1, by omega, by go_num, hid (HBJ.out.trans (HB6.out.mono hjz))⟩
          case measure => omega
        · obtain rfl : j = n := by omega
          go_wp2_with fail
          go_roundg (ko - 1)
          case rel => exact ⟨q + 1, by omega, by go_num, hid (HBI.out.trans (HBJ.out.mono (by omega)))⟩
          case measure => omega
    · obtain rfl : q = L := by omega
      go_wp2
      go_ret
      exact ⟨rfl, HB1.out.trans (HB.out.mono HB1.out.size)⟩
end Go.Proofs.YtfmlpaplnkohpaaGreatDoor

namespace Go.Proofs.YtfmlpaplnkohpaaGreatDoor
open Go.RowKit
structure LaterOf (w : World) where
  W : World
  hb : Below w.heap.size w W
instance later_inhabited (w : World) : Inhabited (LaterOf w) := ⟨⟨w, Below.refl _ _⟩⟩
theorem wp_region_later {P : Program} {id : Nat} {Q : Exit → Act → World → Prop} {a : Act} {w : World} {l : List Oper} (hm : P.follows .mixedOrders = true) (hB : Region.lexB .any l.toArray = true)
    (h : wpQuiet P l.toArray (fun w' => ∃ p : LaterOf w, w' = p.W) (fun a' => ∀ w', (∃ p : LaterOf w, w' = p.W) → Q .normal a' w') l a) : (Code.region id l.toArray true).wp P Q a w :=
  wp_region_quiet (C := fun w' => ∃ p : LaterOf w, w' = p.W) hm hB ⟨⟨w.drewN 1, below_drewN (Below.refl _ _)⟩, rfl⟩ (by simpa using h)
theorem later_call {P : Program} {f : FuncId} {args : Array Value} {w : World} {v : Value} (p : LaterOf w) (h : Calls P f args p.W (Ret p.W v)) :
    Calls P f args p.W fun e w'' => e = .returned v ∧ ∃ q : LaterOf w, w'' = q.W :=
  h.mono fun _ w' ⟨he, hb⟩ => ⟨he, ⟨w', p.hb.trans (hb.mono p.hb.size)⟩, rfl⟩
theorem LaterOf.cell {w : World} (p : LaterOf w) {a : Addr} {v : Value} (h : w.cell? a = some v) : p.W.cell? a = some v := (p.hb.cell (World.block_lt_of_cell? _ _ h)).trans h
end Go.Proofs.YtfmlpaplnkohpaaGreatDoor
namespace Go.Proofs.YtfmlpaplnkohpaaGreatDoor
open Go.RowKit
end Go.Proofs.YtfmlpaplnkohpaaGreatDoor

namespace Go.Proofs.YtfmlpaplnkohpaaGreatDoor
open Go.RowKit
set_option maxHeartbeats 1000000 in
theorem ref_CompareCells (a b : Cl) (w : World) :
    Calls Tryz.prog 25 #[.agg #[.bool a.null, .string a.text], .agg #[.bool b.null, .string b.text]] w (Ret w (.int .i64 (cmpC a b))) := by
  have HC := hid (show cmpC a b = if a.null = true ∧ b.null = true then 0 else if a.null = true then -1 else if b.null = true then 1 else if sl a.text b.text = true then -1 else if a.text = b.text then 0 else 1 from rfl)
  have HB : Hid (Below w.heap.size w ((w.alloc (.cells #[.bool a.null, .string a.text] 42)).alloc (.cells #[.bool b.null, .string b.text] 42))) := hid (((Below.refl _ _).alloc (Nat.le_refl _) _).alloc (by simp) _)
  generalize cmpC a b = R at *
  obtain ⟨an, s⟩ := a
  obtain ⟨bn, t⟩ := b
  simp only at HC HB
  cases an
  · cases bn
    · have hc := HC.out
      by_cases h1 : Op.bytesLess s.toList t.toList = true
      · have hc2 : R = -1 := by rw [hc, if_neg (by simp), if_neg (by simp), if_neg (by simp), if_pos (show sl s t = true from h1)]
        subst hc2
        clear HC hc
        go_enter Tryz.func25, Tryz.ntmps25
        go_wp2
        go_ret
        exact ⟨rfl, HB.out⟩
      · by_cases h2 : s = t
        · have hc2 : R = 0 := by rw [hc, if_neg (by simp), if_neg (by simp), if_neg (by simp), if_neg (show ¬ sl s t = true from h1), if_pos h2]
          subst hc2 h2
          have h3 : Op.bytesLess s.toList s.toList = false := by simpa using h1
          have h4 : (s.toList == s.toList) = true := by simp
          clear HC hc h1
          go_enter Tryz.func25, Tryz.ntmps25
          go_wp2
          go_ret
          exact ⟨rfl, HB.out⟩
        · have hc2 : R = 1 := by rw [hc, if_neg (by simp), if_neg (by simp), if_neg (by simp), if_neg (show ¬ sl s t = true from h1), if_neg h2]
          subst hc2
          have h3 : Op.bytesLess s.toList t.toList = false := by simpa using h1
          have h4 : (s.toList == t.toList) = false := by
            cases h5 : (s.toList == t.toList) with
            | false => rfl
            | true => exact absurd (bytes_ext (eq_of_beq h5)) h2
          clear HC hc h1 h2
          go_enter Tryz.func25, Tryz.ntmps25
          go_wp2
          go_ret
          exact ⟨rfl, HB.out⟩
    · obtain rfl : R = 1 := by simpa using HC.out
      clear HC
      go_enter Tryz.func25, Tryz.ntmps25
      go_wp2
      go_ret
      exact ⟨rfl, HB.out⟩
  · cases bn
    · obtain rfl : R = -1 := by simpa using HC.out
      clear HC
      go_enter Tryz.func25, Tryz.ntmps25
      go_wp2
      go_ret
      exact ⟨rfl, HB.out⟩
    · obtain rfl : R = 0 := by simpa using HC.out
      clear HC
      go_enter Tryz.func25, Tryz.ntmps25
      go_wp2
      go_ret
      exact ⟨rfl, HB.out⟩
theorem size_toList (s : ByteArray) : s.size = s.toList.length := by rw [Lib.toList_data]; rfl
theorem empty_text {s : ByteArray} (h : s.size = 0) : s = ⟨#[]⟩ := bytes_ext (by
  have h1 : s.toList.length = 0 := by rw [← size_toList]; exact h
  rw [List.eq_nil_of_length_eq_zero h1, Lib.toList_data])
def RdOp (w : World) (B : Nat) (v : Value) (o : Po) : Prop := Rd w B v o.cols.length (intF o.cols)
theorem canL_1 {n : Nat} {o : Po} (h : o.kind = 1) : canL n o = (thereL n o.col && decide (o.cols.length = 0) && decide (o.text.size ≤ 1024)) := if_pos h
theorem canL_2 {n : Nat} {o : Po} (h : o.kind = 2 ∨ o.kind = 5) : canL n o = (thereL n o.col && decide (o.cols.length = 0) && decide (o.text.size = 0)) := by
  unfold canL
  rw [if_neg (by omega), if_pos h]
theorem canL_3 {n : Nat} {o : Po} (h : o.kind = 3) : canL n o = (o.cols.all (thereL n) && (decide (o.col = 0) && decide (o.text.size = 0) && decide (o.cols.length ≤ 64))) := by
  unfold canL
  rw [if_neg (by omega), if_neg (by omega), if_pos h]
theorem canL_4 {n : Nat} {o : Po} (h1 : o.kind ≠ 1) (h2 : o.kind ≠ 2) (h3 : o.kind ≠ 3) (h5 : o.kind ≠ 5) : canL n o = (decide (o.kind = 4) && decide (o.col = 0) && decide (o.text.size = 0) && decide (o.cols.length = 0)) := by
  unfold canL
  rw [if_neg h1, if_neg (by omega), if_neg h3]
set_option maxRecDepth 100000 in
set_option maxHeartbeats 4000000 in
theorem ref38_can (id : Int) (nm : ByteArray) (v u : Value) (xs : List Co) (o : Po) (B : Nat) (w : World) (hv : RdCo w (· < B) v xs) (hu : RdOp w B u o) (hB : B ≤ w.heap.size) (hl : xs.length ≤ 1048576) (hm : o.cols.length ≤ 1048576) (ht : o.text.size ≤ 1099511627776) :
    Calls Tryz.prog 68 #[.agg #[.int .i64 id, .string nm, v], o.val u] w (Ret w (.bool (canL xs.length o))) := by
  obtain ⟨cv, ⟨va, vc, rfl, hvc, hvm, hvr⟩, -⟩ := hv
  obtain ⟨ua, uc, rfl, huc, hum, hur⟩ := hu
  have H1 := hid (@canL_1 xs.length o)
  have H2 := hid (@canL_2 xs.length o)
  have H3 := hid (@canL_3 xs.length o)
  have H4 := hid (@canL_4 xs.length o)
  have HU := hid hur
  have HAL : Hid (∀ q, (o.cols.take q).all (thereL xs.length) = true → q < o.cols.length → (o.cols.take (q + 1)).all (thereL xs.length) = thereL xs.length (o.cols.getD q 0)) := hid (fun q h hq => by
    rw [List.take_succ_eq_append_getElem hq, List.all_append, h]
    simp [List.getD, hq])
  have HAN : Hid (∀ q, q < o.cols.length → thereL xs.length (o.cols.getD q 0) = false → o.cols.all (thereL xs.length) = false) := hid (fun q hq h => by
    rw [Bool.eq_false_iff]
    intro h2
    have := List.all_eq_true.1 h2 (o.cols.getD q 0) (getD_mem hq 0)
    rw [h] at this
    cases this)
  have HTL := hid (List.take_length (l := o.cols))
  generalize canL xs.length o = R at *
  clear hvr hur
  obtain ⟨kind, col, text, cols⟩ := o
  simp only [Po.val] at *
  generalize hxl : xs.length = n at *
  clear hxl
  generalize hcl : cols.length = m at *
  have HCL := hid hcl
  clear hcl
  have HB : Hid (Below w.heap.size w ((w.alloc (.cells #[.int .i64 id, .string nm, .slice va n vc] 29)).alloc (.cells #[.int .i64 kind, .int .i64 col, .string text, .slice ua m uc] 47))) := hid (((Below.refl _ _).alloc (Nat.le_refl _) _).alloc (by simp) _)
  have hth : ∀ k : Int, thereL n k = (decide (0 ≤ k) && decide (k < (n : Int))) := fun k => rfl
  go_enter Tryz.func68, Tryz.ntmps68
  generalize hLA : Code.loop _ = LA
  go_upto_region 1 with fail
  go_cut [5] (fun s5 wx => s5 = .bool (thereL n col) ∧ wx = ((w.alloc (.cells #[.int .i64 id, .string nm, .slice va n vc] 29)).alloc (.cells #[.int .i64 kind, .int .i64 col, .string text, .slice ua m uc] 47)))
  case first =>
    by_cases c1 : 0 ≤ col
    · have d1 : decide (0 ≤ col) = true := decide_eq_true c1
      by_cases c2 : col < n
      · have d2 : decide (col < (n : Int)) = true := decide_eq_true c2
        have HT : Hid (thereL n col = true) := hid (by unfold thereL; rw [d1, d2]; rfl)
        go_wp2_with fail
        go_meet
        exact ⟨congrArg Value.bool HT.out.symm, rfl⟩
      · have d2 : decide (col < (n : Int)) = false := decide_eq_false c2
        have HT : Hid (thereL n col = false) := hid (by unfold thereL; rw [d1, d2]; rfl)
        go_wp2_with fail
        go_meet
        exact ⟨congrArg Value.bool HT.out.symm, rfl⟩
    · have d1 : decide (0 ≤ col) = false := decide_eq_false c1
      have HT : Hid (thereL n col = false) := hid (by unfold thereL; rw [d1]; rfl)
      go_wp2_with fail
      go_meet
      exact ⟨congrArg Value.bool HT.out.symm, rfl⟩
  case rest =>
    obtain ⟨rfl, rfl⟩ := hcut
    have HX1 := hid ((BoxN.new w #[.int .i64 id, .string nm, .slice va n vc] 29).alloc (.cells #[.int .i64 kind, .int .i64 col, .string text, .slice ua m uc] 47))
    have hx2 := BoxN.new (w.alloc (.cells #[.int .i64 id, .string nm, .slice va n vc] 29)) #[.int .i64 kind, .int .i64 col, .string text, .slice ua m uc] 47
    rw [World.size_alloc] at hx2
    have HX2 := hid hx2
    have t2 := HX1.out.cell 2 rfl
    have o0 := HX2.out.cell 0 rfl
    have o1 := HX2.out.cell 1 rfl
    have o2 := HX2.out.cell 2 rfl
    have o3 := HX2.out.cell 3 rfl
    have HUW : Hid (0 < m → ∃ b o, ua = some ⟨b, o, none⟩ ∧ ∀ i, i < m → ((w.alloc (.cells #[.int .i64 id, .string nm, .slice va n vc] 29)).alloc (.cells #[.int .i64 kind, .int .i64 col, .string text, .slice ua m uc] 47)).cell? ⟨b, o + i, none⟩ = some (intF cols i)) := hid (fun h => by
      obtain ⟨b, o, e, hb, hc⟩ := HU.out h
      exact ⟨b, o, e, fun i hi => (HB.out.cell (p := ⟨b, o + i, none⟩) (by show b < w.heap.size; omega)).trans (hc i hi)⟩)
    clear hx2
    generalize ((w.alloc (.cells #[.int .i64 id, .string nm, .slice va n vc] 29)).alloc (.cells #[.int .i64 kind, .int .i64 col, .string text, .slice ua m uc] 47)) = W at *
    clear hth
    by_cases k1 : kind = 1
    · subst k1
      have HR := hid (H1.out rfl)
      clear H1 H2 H3 H4
      cases htb : thereL n col
      · have HTT := hid htb
        clear htb
        skip
        go_wp2_with fail
        go_ret
        exact ⟨ret_bool (by rw [HR.out]; simp [HTT.out] <;> rfl), HB.out⟩
      · have HTT := hid htb
        clear htb
        by_cases hm0 : m = 0
        · subst hm0
          by_cases he : text.size ≤ 1024
          · have e1 : decide ((text.size : Int) ≤ 1024) = true := decide_eq_true (by omega)
            have e2 : decide (text.size ≤ 1024) = true := decide_eq_true he
            skip
            go_wp2_with fail
            go_ret
            exact ⟨ret_bool (by rw [HR.out]; simp [HTT.out, he, HCL.out] <;> rfl), HB.out⟩
          · have e1 : decide ((text.size : Int) ≤ 1024) = false := decide_eq_false (by omega)
            have e2 : decide (text.size ≤ 1024) = false := decide_eq_false he
            skip
            go_wp2_with fail
            go_ret
            exact ⟨ret_bool (by rw [HR.out]; simp [HTT.out, he, HCL.out] <;> rfl), HB.out⟩
        · have hm1 : ((m : Int) == 0) = false := by simpa using hm0
          have hm2 : ¬ (m : Int) = 0 := by omega
          skip
          go_wp2_with fail
          go_ret
          exact ⟨ret_bool (by rw [HR.out]; simp [HTT.out, hm0, HCL.out] <;> rfl), HB.out⟩
    · have n1 : (kind == 1) = false := by simpa using k1
      by_cases k2 : kind = 2
      · subst k2
        have HR := hid (H2.out (.inl rfl))
        clear H1 H2 H3 H4
        cases htb : thereL n col
        · have HTT := hid htb
          clear htb
          skip
          go_wp2_with fail
          go_ret
          exact ⟨ret_bool (by rw [HR.out]; simp [HTT.out] <;> rfl), HB.out⟩
        · have HTT := hid htb
          clear htb
          by_cases hm0 : m = 0
          · subst hm0
            by_cases he : text.size = 0
            · obtain rfl : text = ⟨#[]⟩ := empty_text he
              clear he
              skip
              go_wp2_with fail
              go_ret
              exact ⟨ret_bool (by rw [HR.out]; simp [HTT.out, HCL.out] <;> rfl), HB.out⟩
            · have he1 : ¬ text.toList = [] := fun h => he (by rw [size_toList, h]; rfl)
              have he2 : (!text.toList.isEmpty) = true := by cases h : text.toList with | nil => exact absurd h he1 | cons _ _ => rfl
              have he3 : (text.toList == []) = false := by cases h : text.toList with | nil => exact absurd h he1 | cons _ _ => rfl
              skip
              go_wp2_with fail
              go_ret
              exact ⟨ret_bool (by rw [HR.out]; simp [HTT.out, he] <;> rfl), HB.out⟩
          · have hm1 : ((m : Int) == 0) = false := by simpa using hm0
            have hm2 : ¬ (m : Int) = 0 := by omega
            skip
            go_wp2_with fail
            go_ret
            exact ⟨ret_bool (by rw [HR.out]; simp [HTT.out, hm0, HCL.out] <;> rfl), HB.out⟩
      · have n2 : (kind == 2) = false := by simpa using k2
        by_cases k5 : kind = 5
        · subst k5
          have HR := hid (H2.out (.inr rfl))
          clear H1 H2 H3 H4
          cases htb : thereL n col
          · have HTT := hid htb
            clear htb
            skip
            go_wp2_with fail
            go_ret
            exact ⟨ret_bool (by rw [HR.out]; simp [HTT.out] <;> rfl), HB.out⟩
          · have HTT := hid htb
            clear htb
            by_cases hm0 : m = 0
            · subst hm0
              by_cases he : text.size = 0
              · obtain rfl : text = ⟨#[]⟩ := empty_text he
                clear he
                skip
                go_wp2_with fail
                go_ret
                exact ⟨ret_bool (by rw [HR.out]; simp [HTT.out, HCL.out] <;> rfl), HB.out⟩
              · have he1 : ¬ text.toList = [] := fun h => he (by rw [size_toList, h]; rfl)
                have he2 : (!text.toList.isEmpty) = true := by cases h : text.toList with | nil => exact absurd h he1 | cons _ _ => rfl
                have he3 : (text.toList == []) = false := by cases h : text.toList with | nil => exact absurd h he1 | cons _ _ => rfl
                skip
                go_wp2_with fail
                go_ret
                exact ⟨ret_bool (by rw [HR.out]; simp [HTT.out, he] <;> rfl), HB.out⟩
            · have hm1 : ((m : Int) == 0) = false := by simpa using hm0
              have hm2 : ¬ (m : Int) = 0 := by omega
              skip
              go_wp2_with fail
              go_ret
              exact ⟨ret_bool (by rw [HR.out]; simp [HTT.out, hm0, HCL.out] <;> rfl), HB.out⟩
        · have n5 : (kind == 5) = false := by simpa using k5
          have HTT : Hid True := hid trivial
          by_cases k3 : kind = 3
          · subst k3
            have HR := hid (H3.out rfl)
            clear H1 H2 H3 H4 HU
            go_wp2_with fail
            subst hLA
            go_loopg [56] m (fun N i wr => ∃ q : Nat, i = .int .i64 (q : Int) ∧ q + N = m ∧ Hid ((cols.take q).all (thereL n) = true) ∧ wr = W)
            case atStart => exact ⟨0, rfl, by omega, hid rfl, rfl⟩
            case round =>
              obtain ⟨q, rfl, hq, HAQ, rfl⟩ := hrel
              by_cases hp : 0 < gk
              · obtain ⟨b, o, rfl, hc⟩ := HUW.out (by omega)
                have k0 := hc q (by omega)
                have HSU := hid (HAL.out q HAQ.out (by omega))
                have HNO := hid (HAN.out q (by omega))
                clear hc
                unfold intF at k0
                generalize hz : cols.getD q 0 = z at *
                clear hz
                have HTH : Hid (thereL n z = (decide (0 ≤ z) && decide (z < (n : Int)))) := hid rfl
                by_cases z0 : z < 0
                · have e1 : decide (z < 0) = true := decide_eq_true z0
                  have HTT : Hid (cols.all (thereL n) = false) := hid (HNO.out (by rw [HTH.out, decide_eq_false (by omega)]; rfl))
                  skip
                  go_wp2_with fail
                  go_ret
                  exact ⟨ret_bool (by rw [HR.out]; simp [HTT.out] <;> rfl), HB.out⟩
                · have e1 : decide (z < 0) = false := decide_eq_false z0
                  by_cases z1 : (n : Int) ≤ z
                  · have e2 : decide ((n : Int) ≤ z) = true := decide_eq_true z1
                    have HTT : Hid (cols.all (thereL n) = false) := hid (HNO.out (by rw [HTH.out, decide_eq_false (show ¬ z < (n : Int) by omega), Bool.and_false]))
                    skip
                    go_wp2_with fail
                    go_ret
                    exact ⟨ret_bool (by rw [HR.out]; simp [HTT.out] <;> rfl), HB.out⟩
                  · have e2 : decide ((n : Int) ≤ z) = false := decide_eq_false z1
                    go_wp2_with fail
                    go_roundg (gk - 1)
                    case rel => exact ⟨q + 1, by go_num, by omega, hid (by rw [HSU.out, HTH.out, decide_eq_true (show 0 ≤ z by omega), decide_eq_true (show z < (n : Int) by omega)]; rfl), rfl⟩
                    case measure => omega
              · obtain rfl : gk = 0 := by omega
                obtain rfl : q = m := by omega
                have HTT : Hid (cols.all (thereL n) = true) := hid (by have h := HAQ.out; rw [List.take_of_length_le (by have := HCL.out; omega)] at h; exact h)
                by_cases hc0 : col = 0
                · subst hc0
                  by_cases he : text.size = 0
                  · obtain rfl : text = ⟨#[]⟩ := empty_text he
                    clear he
                    by_cases hm0 : q ≤ 64
                    · have e1 : decide ((q : Int) ≤ 64) = true := decide_eq_true (by omega)
                      have e2 : decide (q ≤ 64) = true := decide_eq_true hm0
                      skip
                      go_wp2_with fail
                      go_ret
                      exact ⟨ret_bool (by rw [HR.out]; simp [HTT.out, HCL.out, hm0] <;> rfl), HB.out⟩
                    · have e1 : decide ((q : Int) ≤ 64) = false := decide_eq_false (by omega)
                      have e2 : decide (q ≤ 64) = false := decide_eq_false hm0
                      skip
                      go_wp2_with fail
                      go_ret
                      exact ⟨ret_bool (by rw [HR.out]; simp [HTT.out, HCL.out, hm0] <;> rfl), HB.out⟩
                  · have he1 : ¬ text.toList = [] := fun h => he (by rw [size_toList, h]; rfl)
                    have he2 : (!text.toList.isEmpty) = true := by cases h : text.toList with | nil => exact absurd h he1 | cons _ _ => rfl
                    have he3 : (text.toList == []) = false := by cases h : text.toList with | nil => exact absurd h he1 | cons _ _ => rfl
                    skip
                    go_wp2_with fail
                    go_ret
                    exact ⟨ret_bool (by rw [HR.out]; simp [HTT.out, he] <;> rfl), HB.out⟩
                · have hc1 : (col == 0) = false := by simpa using hc0
                  skip
                  go_wp2_with fail
                  go_ret
                  exact ⟨ret_bool (by rw [HR.out]; simp [HTT.out, hc0] <;> rfl), HB.out⟩
          · have n3 : (kind == 3) = false := by simpa using k3
            have H4k := hid (H4.out k1 k2 k3 k5)
            clear H4
            by_cases k4 : kind = 4
            · subst k4
              by_cases hc0 : col = 0
              · subst hc0
                by_cases he : text.size = 0
                · obtain rfl : text = ⟨#[]⟩ := empty_text he
                  clear he
                  by_cases hm0 : m = 0
                  · subst hm0
                    skip
                    go_wp2_with fail
                    go_ret
                    exact ⟨ret_bool (by rw [H4k.out]; simp [HTT.out, HCL.out] <;> rfl), HB.out⟩
                  · have hm1 : ((m : Int) == 0) = false := by simpa using hm0
                    have hm2 : ¬ (m : Int) = 0 := by omega
                    skip
                    go_wp2_with fail
                    go_ret
                    exact ⟨ret_bool (by rw [H4k.out]; simp [HTT.out, hm0, HCL.out] <;> rfl), HB.out⟩
                · have he1 : ¬ text.toList = [] := fun h => he (by rw [size_toList, h]; rfl)
                  have he2 : (!text.toList.isEmpty) = true := by cases h : text.toList with | nil => exact absurd h he1 | cons _ _ => rfl
                  have he3 : (text.toList == []) = false := by cases h : text.toList with | nil => exact absurd h he1 | cons _ _ => rfl
                  skip
                  go_wp2_with fail
                  go_ret
                  exact ⟨ret_bool (by rw [H4k.out]; simp [HTT.out, he] <;> rfl), HB.out⟩
              · have hc1 : (col == 0) = false := by simpa using hc0
                skip
                go_wp2_with fail
                go_ret
                exact ⟨ret_bool (by rw [H4k.out]; simp [HTT.out, hc0] <;> rfl), HB.out⟩
            · have n4 : (kind == 4) = false := by simpa using k4
              skip
              go_wp2_with fail
              go_ret
              exact ⟨ret_bool (by rw [H4k.out]; simp [HTT.out, k4] <;> rfl), HB.out⟩
end Go.Proofs.YtfmlpaplnkohpaaGreatDoor
