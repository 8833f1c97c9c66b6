/- A region that draws its order, whose operations only read and whose callees may lay blocks: walked once. No program in sight. Contract of the reference's check of a list of tables, at valid ones. References of tables: plain, and the contracts of the reference's Refs, Find, Get. Contracts of the reference's Find, Get (tables), Values. Contract of the reference's Values of a column. -/
import Derived.Test.YtikiimlmoalbcaaGreatDoorOOtaa
import Derived.Test.YtikiimlmoalbcaaGreatDoorOOtae
set_option linter.unusedVariables false
set_option linter.unusedSimpArgs false
namespace Go.Proofs.YtikiimlmoalbcaaGreatDoor
open Go.RowKit
structure LaterOf (w : World) where
  W : World
  hb : Below w.heap.size w W
instance later_inhabited (w : World) : Inhabited (LaterOf w) := ⟨⟨w, Below.refl _ _⟩⟩
theorem wp_region_later {P : Program} {id : Nat} {Q : Exit → Act → World → Prop} {a : Act} {w : World} {l : List Oper} (hm : P.follows .mixedOrders = true) (hB : Region.lexB .any l.toArray = true)
    (h : wpQuiet P l.toArray (fun w' => ∃ p : LaterOf w, w' = p.W) (fun a' => ∀ w', (∃ p : LaterOf w, w' = p.W) → Q .normal a' w') l a) : (Code.region id l.toArray true).wp P Q a w :=
  wp_region_quiet (C := fun w' => ∃ p : LaterOf w, w' = p.W) hm hB ⟨⟨w.drewN 1, below_drewN (Below.refl _ _)⟩, rfl⟩ (by simpa using h)
theorem later_call {P : Program} {f : FuncId} {args : Array Value} {w : World} {v : Value} (p : LaterOf w) (h : Calls P f args p.W (Ret p.W v)) :
    Calls P f args p.W fun e w'' => e = .returned v ∧ ∃ q : LaterOf w, w'' = q.W :=
  h.mono fun _ w' ⟨he, hb⟩ => ⟨he, ⟨w', p.hb.trans (hb.mono p.hb.size)⟩, rfl⟩
theorem LaterOf.cell {w : World} (p : LaterOf w) {a : Addr} {v : Value} (h : w.cell? a = some v) : p.W.cell? a = some v := (p.hb.cell (World.block_lt_of_cell? _ _ h)).trans h
end Go.Proofs.YtikiimlmoalbcaaGreatDoor
namespace Go.Proofs.YtikiimlmoalbcaaGreatDoor
open Go.RowKit
theorem listV_of {T c r : Nat} {ts : List Ta} (h : ListOk T c r ts) (hT : T ≤ 1000) (hc : c ≤ 64) (hr : r ≤ 4096) : ListV ts :=
  ⟨by have := h.1; omega, fun t ht => tabV_of (h.2.1 t ht).1 hc hr (h.2.1 t ht).2.1 (by have := (h.2.1 t ht).2.2; omega), h.2.2⟩
set_option maxRecDepth 100000 in
set_option maxHeartbeats 2000000 in
theorem ref_ValidList (v : Value) (ts : List Ta) (B : Nat) (w : World) (h : ListV ts) (hv : RdTa w (· < B) v ts) (hB : B ≤ w.heap.size) (hT : Tabs w) :
  Calls Tryz.prog 97 #[v] w (Ret w (.bool true)) := by
 obtain ⟨hl, hok, hasc⟩ := h
 obtain ⟨tv, htv, hco⟩ := hv
 obtain ⟨a, k, rfl, hk, hm, hrd⟩ := htv
 have HT := hid hT
 have HRD := hid hrd
 have HCO := hid hco
 have HOK := hid hok
 have HUP := hid (fun i j h1 h2 => @ids_up ts hasc i j h1 h2)
 clear hT hrd hco hok hasc
 generalize hxl : ts.length = L at *
 have HXL := hid hxl
 clear hxl
 unfold maxLen at hm
 go_enter Tryz.func97, Tryz.ntmps97
 go_wp2_with fail
 go_loopg [7] L (fun N i wr => ∃ q : Nat, q + N = L ∧ i = .int .i64 (q : Int) ∧ Hid (Below w.heap.size w wr))
 case atStart => exact ⟨0, by omega, rfl, hid (Below.refl _ _)⟩
 case round =>
  obtain ⟨q, hq, rfl, HB⟩ := hrel
  by_cases hp : 0 < gk
  ·obtain ⟨b, o, rfl, hb, hcell⟩ := HRD.out (by omega)
   have hbw : b < w.heap.size := by omega
   have hwz := HB.out.size
   have k0 : wr.cell? ⟨b, o + q * 3, none⟩ = some (.int .i64 (ts.getD q Ta.z).id) := (HB.out.cell (p := ⟨b, o + q * 3, none⟩) hbw).trans (hcell q (by omega) 0 (by omega))
   have k1 : wr.cell? ⟨b, o + q * 3 + 1, none⟩ = some (.string (ts.getD q Ta.z).name) := (HB.out.cell (p := ⟨b, o + q * 3 + 1, none⟩) hbw).trans (hcell q (by omega) 1 (by omega))
   have k2 : wr.cell? ⟨b, o + q * 3 + 2, none⟩ = some (tv q) := (HB.out.cell (p := ⟨b, o + q * 3 + 2, none⟩) hbw).trans (hcell q (by omega) 2 (by omega))
   have HVQ := hid (fun W (hW : Below w.heap.size w W) => ref_ValidTab (ts.getD q Ta.z) (tv q) B W (HOK.out _ (getD_mem (by have := HXL.out; omega) Ta.z)) ((HCO.out q (by omega)).keep fun p hp => hW.cell (by omega)) (by have := hW.size; omega) (HT.out.below hW))
   obtain ⟨ca, ck, hcq, -, -, -⟩ : ∃ ca ck, tv q = .slice ca (ts.getD q Ta.z).cols.length ck ∧ True ∧ True ∧ True := by
    obtain ⟨cv, ⟨ca, ck, e, -⟩, -⟩ := HCO.out q (by omega)
    exact ⟨ca, ck, e, trivial, trivial, trivial⟩
   rw [hcq] at k2 HVQ
   by_cases hq0 : q = 0
   ·subst hq0
    clear hcell hcq
    generalize ts.getD 0 Ta.z = t at *
    obtain ⟨id, nm, xs⟩ := t
    generalize hxsl : xs.length = m at *
    simp only [Nat.zero_mul, Nat.add_zero] at k0 k1 k2
    rw [show (((0 : Nat)) : Int) = 0 from rfl]
    have hd0 : decide ((0 : Int) < 0) = false := by simp
    go_wp2_with fail
    have HWA : Hid (Below w.heap.size w (wr.alloc (.cells #[.int .i64 id, .string nm, .slice ca m ck] 145))) := hid (by have := HB.out; repeat' (first | (with_reducible exact Below.refl _ _) | (with_reducible assumption) | (with_reducible refine below_drewN ?_) | (with_reducible refine Below.alloc ?_ ?_ _) | (with_reducible refine Below.drew ?_) | (with_reducible refine Below.setCell ?_ ?_ _) | (with_reducible refine Below.trans ?_ (Below.mono (by with_reducible assumption) ?_)) | go_size))
    have hbx := BoxN.new wr #[.int .i64 id, .string nm, .slice ca m ck] 145
    have hz8 : wr.heap.size ≤ (wr.alloc (.cells #[.int .i64 id, .string nm, .slice ca m ck] 145)).heap.size := by simp
    have HRO := hid (Below.refl wr.heap.size wr |>.alloc (Nat.le_refl _) (.cells #[.int .i64 id, .string nm, .slice ca m ck] 145))
    generalize wr.alloc (.cells #[.int .i64 id, .string nm, .slice ca m ck] 145) = W8 at *
    have f0 := fun p : LaterOf W8 => p.cell (hbx.cell 0 rfl)
    have f1 := fun p : LaterOf W8 => p.cell (hbx.cell 1 rfl)
    have f2 := fun p : LaterOf W8 => p.cell (hbx.cell 2 rfl)
    have hwz8 := HWA.out.size
    have HCALL := hid (fun p : LaterOf W8 => later_call p (HVQ.out p.W (HWA.out.trans (p.hb.mono hwz8))))
    clear hbx
    refine wp_region_later (by kernel_rfl) (by kernel_rfl) ?_
    repeat (first | go_big_quiet_step ((go_at_call 148; exact HCALL.out _)) | quiet_step ((go_at_call 148; exact HCALL.out _)))
    refine wpQuiet_nil ?_
    intro _ hw'
    obtain ⟨p5, hw''⟩ := hw'
    subst hw''
    have hb5 := p5.hb
    generalize p5.W = w5 at *
    clear f0 f1 f2 HCALL
    have HB5 : Hid (Below wr.heap.size wr w5) := hid (HRO.out.trans (hb5.mono hz8))
    clear hb5 k0 k1 k2
    go_wp2_with fail
    go_roundg (gk - 1)
    case rel => exact ⟨0 + 1, by omega, by go_num, hid (by have := HB.out.trans (HB5.out.mono hwz); repeat' (first | (with_reducible exact Below.refl _ _) | (with_reducible assumption) | (with_reducible refine below_drewN ?_) | (with_reducible refine Below.alloc ?_ ?_ _) | (with_reducible refine Below.drew ?_) | (with_reducible refine Below.setCell ?_ ?_ _) | (with_reducible refine Below.trans ?_ (Below.mono (by with_reducible assumption) ?_)) | go_size))⟩
    case measure => omega
   ·obtain ⟨pp, rfl⟩ : ∃ pp, q = pp + 1 := ⟨q - 1, by omega⟩
    have k3 : wr.cell? ⟨b, o + pp * 3, none⟩ = some (.int .i64 (ts.getD pp Ta.z).id) := (HB.out.cell (p := ⟨b, o + pp * 3, none⟩) hbw).trans (hcell pp (by omega) 0 (by omega))
    have hup := HUP.out pp (pp + 1) (by omega) (by have := HXL.out; omega)
    clear hcell hcq hq0
    generalize ts.getD (pp + 1) Ta.z = t at *
    generalize (ts.getD pp Ta.z).id = id' at *
    obtain ⟨id, nm, xs⟩ := t
    simp only at hup
    generalize hxsl : xs.length = m at *
    have hd : decide (id ≤ id') = false := decide_eq_false (by omega)
    have hw1 : IntKind.i64.wrap ((pp : Int) + 1 - 1) = (pp : Int) := (IntWalk.i64_in _ (by omega)).trans (by omega)
    have hw2 : IntKind.i64.wrap (pp : Int) = (pp : Int) := IntWalk.i64_in _ (by omega)
    have hp1 : (0 : Int) < (pp : Int) + 1 := by omega
    have hd3 : decide ((0 : Int) < (pp : Int) + 1) = true := decide_eq_true (by omega)
    have hpL : (pp : Int) < (L : Int) := by omega
    have hpL2 : pp < L := by omega
    rw [show (((pp + 1 : Nat)) : Int) = (pp : Int) + 1 from by omega]
    go_wp2_with fail
    have HWA : Hid (Below w.heap.size w (wr.alloc (.cells #[.int .i64 id, .string nm, .slice ca m ck] 145))) := hid (by have := HB.out; repeat' (first | (with_reducible exact Below.refl _ _) | (with_reducible assumption) | (with_reducible refine below_drewN ?_) | (with_reducible refine Below.alloc ?_ ?_ _) | (with_reducible refine Below.drew ?_) | (with_reducible refine Below.setCell ?_ ?_ _) | (with_reducible refine Below.trans ?_ (Below.mono (by with_reducible assumption) ?_)) | go_size))
    have hbx := BoxN.new wr #[.int .i64 id, .string nm, .slice ca m ck] 145
    have hz8 : wr.heap.size ≤ (wr.alloc (.cells #[.int .i64 id, .string nm, .slice ca m ck] 145)).heap.size := by simp
    have HRO := hid (Below.refl wr.heap.size wr |>.alloc (Nat.le_refl _) (.cells #[.int .i64 id, .string nm, .slice ca m ck] 145))
    generalize wr.alloc (.cells #[.int .i64 id, .string nm, .slice ca m ck] 145) = W8 at *
    have f3 := fun p : LaterOf W8 => p.cell ((HRO.out.cell (p := ⟨b, o + pp * 3, none⟩) (by show b < _; omega)).trans k3)
    have f0 := fun p : LaterOf W8 => p.cell (hbx.cell 0 rfl)
    have f1 := fun p : LaterOf W8 => p.cell (hbx.cell 1 rfl)
    have f2 := fun p : LaterOf W8 => p.cell (hbx.cell 2 rfl)
    have hwz8 := HWA.out.size
    have HCALL := hid (fun p : LaterOf W8 => later_call p (HVQ.out p.W (HWA.out.trans (p.hb.mono hwz8))))
    clear hbx
    refine wp_region_later (by kernel_rfl) (by kernel_rfl) ?_
    repeat (first | go_big_quiet_step ((go_at_call 148; exact HCALL.out _)) | quiet_step ((go_at_call 148; exact HCALL.out _)))
    refine wpQuiet_nil ?_
    intro _ hw'
    obtain ⟨p5, hw''⟩ := hw'
    subst hw''
    have hb5 := p5.hb
    generalize p5.W = w5 at *
    clear f0 f1 f2 f3 HCALL
    have HB5 : Hid (Below wr.heap.size wr w5) := hid (HRO.out.trans (hb5.mono hz8))
    clear hb5 k0 k1 k2 k3 hd hw1 hw2
    go_wp2_with fail
    go_roundg (gk - 1)
    case rel => exact ⟨pp + 1 + 1, by omega, by go_num, hid (by have := HB.out.trans (HB5.out.mono hwz); repeat' (first | (with_reducible exact Below.refl _ _) | (with_reducible assumption) | (with_reducible refine below_drewN ?_) | (with_reducible refine Below.alloc ?_ ?_ _) | (with_reducible refine Below.drew ?_) | (with_reducible refine Below.setCell ?_ ?_ _) | (with_reducible refine Below.trans ?_ (Below.mono (by with_reducible assumption) ?_)) | go_size))⟩
    case measure => omega
  ·obtain rfl : q = L := by omega
   go_wp2
   go_ret
   exact ⟨ret_bool (decide_eq_true (by omega)), HB.out⟩
end Go.Proofs.YtikiimlmoalbcaaGreatDoor

namespace Go.Proofs.YtikiimlmoalbcaaGreatDoor
open Go.RowKit
def refs1 (t : Ta) : List (Int × Nat) := (List.range t.cols.length).map fun k => (t.id, k)
def refsL (ts : List Ta) : List (Int × Nat) := ts.flatMap refs1
def colsL (ts : List Ta) : List Co := ts.flatMap Ta.cols
theorem refs1_len (t : Ta) : (refs1 t).length = t.cols.length := by simp [refs1]
theorem refs_at : ∀ (ts : List Ta) (q : Nat), q < (refsL ts).length → ∃ i k, i < ts.length ∧ k < (ts.getD i Ta.z).cols.length ∧ (refsL ts).getD q (0, 0) = ((ts.getD i Ta.z).id, k) ∧ (colsL ts).getD q Co.z = (ts.getD i Ta.z).cols.getD k Co.z
  | [], q, h => by simp [refsL] at h
  | t :: ts, q, h => by
    have e1 : refsL (t :: ts) = refs1 t ++ refsL ts := rfl
    have e2 : colsL (t :: ts) = t.cols ++ colsL ts := rfl
    rw [e1] at h ⊢
    rw [e2]
    by_cases hq : q < t.cols.length
    · refine ⟨0, q, by simp, by simpa using hq, ?_, ?_⟩
      · rw [List.getD, List.getElem?_append_left (show q < (refs1 t).length by rw [refs1_len]; exact hq)]
        simp [refs1, hq]
      · simp [List.getD, List.getElem?_append_left hq]
    · have h2 : q - t.cols.length < (refsL ts).length := by rw [List.length_append, refs1_len] at h; omega
      obtain ⟨i, k, hi, hk, h3, h4⟩ := refs_at ts _ h2
      refine ⟨i + 1, k, by simp; omega, by simpa using hk, ?_, ?_⟩
      · rw [List.getD, List.getElem?_append_right (by rw [refs1_len]; omega), refs1_len]
        simpa [List.getD] using h3
      · rw [List.getD, List.getElem?_append_right (by omega)]
        simpa [List.getD] using h4
theorem refs_take {ts : List Ta} {k : Nat} (h : k < ts.length) : refsL (ts.take (k + 1)) = refsL (ts.take k) ++ refs1 (ts.getD k Ta.z) := by
  unfold refsL
  rw [List.take_succ_eq_append_getElem h, List.flatMap_append]
  simp [List.getD, h]
def rfF (rs : List (Int × Nat)) (i : Nat) : Nat → Value := two (.int .i64 (rs.getD i (0, 0)).1) (.int .i64 ((rs.getD i (0, 0)).2 : Int))
def RdRf (w : World) (S : Nat → Prop) (v : Value) (rs : List (Int × Nat)) : Prop := InK 2 w S v rs.length (rfF rs)
theorem rf_push (rs : List (Int × Nat)) (x : Int × Nat) : flatK 2 rs.length (rfF rs) ++ [.int .i64 x.1, .int .i64 (x.2 : Int)] = flatK 2 (rs ++ [x]).length (rfF (rs ++ [x])) := by
  rw [List.length_append, List.length_singleton]
  refine flat_push (fun i hi j hj => ?_) ?_
  · simp [rfF, List.getD, List.getElem?_append_left hi]
  · simp [rfF, List.getD, List.range_succ, two]
theorem info_ref : (Tryz.prog.info? 51).map (fun i => (i.zero, i.size, i.bytes)) = some (some (.agg #[.int .i64 0, .int .i64 0]), 2, 16) := by kernel_rfl
def GivesRf (w : World) (rs : List (Int × Nat)) (e : Ending) (w' : World) : Prop :=
  ∃ a c, e = .returned (.slice a rs.length c) ∧ RdRf w' (News w w') (.slice a rs.length c) rs ∧ Below w.heap.size w w'
def refsJ (acc : List (Int × Nat)) (id : Int) (j : Nat) : List (Int × Nat) := acc ++ (List.range j).map fun k => (id, k)
theorem refsJ_len (acc : List (Int × Nat)) (id : Int) (j : Nat) : (refsJ acc id j).length = acc.length + j := by simp [refsJ]
theorem refsJ_succ (acc : List (Int × Nat)) (id : Int) (j : Nat) : refsJ acc id (j + 1) = refsJ acc id j ++ [(id, j)] := by simp [refsJ, List.range_succ]
set_option maxRecDepth 100000 in
set_option maxHeartbeats 2000000 in
theorem ref_Refs (v : Value) (ts : List Ta) (B : Nat) (w : World) (h : ListV ts) (hv : RdTa w (· < B) v ts) (hB : B ≤ w.heap.size) :
  Calls Tryz.prog 98 #[v] w (GivesRf w (refsL ts)) := by
 obtain ⟨hl, hok, -⟩ := h
 obtain ⟨tv, htv, hco⟩ := hv
 obtain ⟨a, k, rfl, hk, hm, hrd⟩ := htv
 obtain ⟨i0, hi, hz0, hz1, hz2⟩ := info_parts info_ref
 have HRD := hid hrd
 have HCO := hid hco
 have HTK := hid (fun q h => @refs_take ts q h)
 have HALL : Hid (refsL ts = refsL (ts.take ts.length)) := hid (by rw [List.take_length])
 have HC64 := hid (fun q (h : q < ts.length) => (hok _ (getD_mem h Ta.z)).2.2.2.1)
 clear hrd hco hok
 generalize refsL ts = R at *
 generalize hxl : ts.length = L at *
 have HXL := hid hxl
 clear hxl
 unfold maxLen at hm
 go_enter Tryz.func98, Tryz.ntmps98
 go_wp2_with fail
 go_loopg [3, 9] L (fun N v i wr => ∃ q : Nat, q + N = L ∧ i = .int .i64 (q : Int) ∧ (refsL (ts.take q)).length ≤ 64 * q ∧ Hid (Below w.heap.size w wr ∧ wr.ownsRow w.heap.size 51 2 v (refsL (ts.take q)).length (flatK 2 (refsL (ts.take q)).length (rfF (refsL (ts.take q))))))
 case atStart => exact ⟨0, by omega, rfl, by simp [refsL], hid ⟨Below.refl _ _, World.ownsRow_nil _ _ _ _⟩⟩
 case round =>
  obtain ⟨q, hq, rfl, hlen, HST⟩ := hrel
  obtain ⟨a3, c3, rfl⟩ := own_slice HST.out.2
  by_cases hp : 0 < gk
  ·obtain ⟨b, o, rfl, hb, hcell⟩ := HRD.out (by omega)
   have hbw : b < w.heap.size := by omega
   have hwz := HST.out.1.size
   have k0 : wr.cell? ⟨b, o + q * 3, none⟩ = some (.int .i64 (ts.getD q Ta.z).id) := (HST.out.1.cell (p := ⟨b, o + q * 3, none⟩) hbw).trans (hcell q (by omega) 0 (by omega))
   have k1 : wr.cell? ⟨b, o + q * 3 + 1, none⟩ = some (.string (ts.getD q Ta.z).name) := (HST.out.1.cell (p := ⟨b, o + q * 3 + 1, none⟩) hbw).trans (hcell q (by omega) 1 (by omega))
   have k2 : wr.cell? ⟨b, o + q * 3 + 2, none⟩ = some (tv q) := (HST.out.1.cell (p := ⟨b, o + q * 3 + 2, none⟩) hbw).trans (hcell q (by omega) 2 (by omega))
   obtain ⟨ca, ck, hcq⟩ : ∃ ca ck, tv q = .slice ca (ts.getD q Ta.z).cols.length ck := by
    obtain ⟨cv, ⟨ca, ck, e, -⟩, -⟩ := HCO.out q (by omega)
    exact ⟨ca, ck, e⟩
   have hm64 := HC64.out q (by omega)
   have HNX := hid (HTK.out q (by omega))
   rw [hcq] at k2
   unfold refs1 at HNX
   generalize refsL (ts.take q) = acc at *
   clear hcell hcq
   generalize ts.getD q Ta.z = t at *
   obtain ⟨id, nm, xs⟩ := t
   generalize hxsl : xs.length = m at *
   have HXS := hid hxsl
   clear hxsl
   simp only at k0 k1 k2 hm64
   have HB9 : Hid (Below w.heap.size w (wr.alloc (.cells #[.int .i64 id, .string nm, .slice ca m ck] 145))) := hid (by have := HST.out.1; repeat' (first | (with_reducible exact Below.refl _ _) | (with_reducible assumption) | (with_reducible refine below_drewN ?_) | (with_reducible refine Below.alloc ?_ ?_ _) | (with_reducible refine Below.drew ?_) | (with_reducible refine Below.setCell ?_ ?_ _) | (with_reducible refine Below.trans ?_ (Below.mono (by with_reducible assumption) ?_)) | go_size))
   have HO9 := hid (HST.out.2.alloc (.cells #[.int .i64 id, .string nm, .slice ca m ck] 145))
   have HBX := hid (BoxN.new wr #[.int .i64 id, .string nm, .slice ca m ck] 145)
   have hz9 : (wr.alloc (.cells #[.int .i64 id, .string nm, .slice ca m ck] 145)).heap.size = wr.heap.size + 1 := by simp
   generalize hLA : Code.loop _ = LA
   go_wp2_with fail
   clear k0 k1 k2
   subst hLA
   generalize wr.alloc (.cells #[.int .i64 id, .string nm, .slice ca m ck] 145) = W9 at *
   obtain ⟨wo, rfl⟩ : ∃ wo, wo = wr := ⟨wr, rfl⟩
   obtain ⟨ko, rfl⟩ : ∃ ko, ko = gk := ⟨gk, rfl⟩
   go_loopg [3, 16] m (fun N v i W => ∃ j : Nat, j + N = m ∧ i = .int .i64 (j : Int) ∧ v.ownBlock ≠ some wo.heap.size ∧ Hid (Below w.heap.size w W ∧ W.ownsRow w.heap.size 51 2 v (refsJ acc id j).length (flatK 2 (refsJ acc id j).length (rfF (refsJ acc id j))) ∧ BoxN W wo.heap.size 145 #[.int .i64 id, .string nm, .slice ca m ck]))
   case atStart => exact ⟨0, by omega, rfl, (fun e => by have := (HST.out.2.lt _ e).2; omega), hid ⟨HB9.out, by simpa [refsJ] using HO9.out, HBX.out⟩⟩
   case round =>
    obtain ⟨j, hj, rfl, hne, HSJ⟩ := hrel
    have hjl := refsJ_len acc id j
    have HJS := hid (refsJ_succ acc id j)
    obtain ⟨a4, c4, rfl⟩ := own_slice HSJ.out.2.1
    have hbz := HSJ.out.2.2.lt
    by_cases hpj : 0 < gk
    ·have s0 := HSJ.out.2.2.cell 0 rfl
     have HOW := hid HSJ.out.2.1
     have hwzj := HSJ.out.1.size
     generalize refsJ acc id j = cur at *
     generalize hcl : cur.length = n at *
     have HCL := hid hcl
     have hjl2 : n ≤ acc.length + j := by omega
     clear hcl hjl
     go_wp2_with (at_builtin; refine wpList_append_form _ rfl _ _ 135 135 rfl w.heap.size 51 51 i0 (.agg #[.int .i64 0, .int .i64 0]) 2 16 Tryz.underlying135 Tryz.underlying135 hi hz0 hz1 hz2 rfl (by decide) (.slice a4 n c4) n (flatK 2 n (rfF cur)) rfl (HOW.out.alloc _) (some ⟨_, 0, none⟩) 1 1 [.int .i64 id, .int .i64 (j : Int)] rfl rfl (fun _ => ⟨_, rfl, cell_two_at _ _ _ (by simp)⟩) (by intro u hu; simp at hu; rcases hu with rfl | rfl <;> rfl) (by omega) (by unfold maxLen; omega) (by omega) (by simp; omega) ?_; intro p7 cap7 w7 hown7 hg7 hat7 hlt7; have HG7 := hid hg7; have HOWN7 := hid hown7; have HAT7 := hid hat7; clear hown7 hg7 hat7)
     have HB7 : Hid (Below w.heap.size w w7) := hid ((HSJ.out.1.alloc hwzj _).grown HG7.out (by simp; omega) (fun k hk => (HOW.out.lt k hk).1))
     have HX7 := hid ((HSJ.out.2.2.alloc (.cells #[.int .i64 id, .int .i64 (j : Int)] 51)).grown HG7.out hne.symm)
     have HN7 : (Value.slice (some ⟨p7, 0, none⟩) (n + 1) cap7).ownBlock ≠ some wo.heap.size := fun e => by
      have e1 : p7 = wo.heap.size := by simpa [Value.ownBlock] using e
      rcases HAT7.out with h1 | h1
      ·exact hne (by rw [h1, e1])
      ·simp at h1; omega
     have HO7 := HOWN7.out
     rw [← HCL.out, rf_push cur (id, j), ← HJS.out] at HO7
     have HO8 := hid HO7
     clear HO7 HOWN7 HG7 HAT7 s0
     go_wp2
     go_roundg (gk - 1)
     case rel => exact ⟨j + 1, by omega, by go_num, HN7, hid ⟨HB7.out, by have := HO8.out; rw [HJS.out, List.length_append, List.length_singleton, HCL.out] at this ⊢; exact this, HX7.out⟩⟩
     case measure => omega
    ·obtain rfl : j = m := by omega
     have HEQ : Hid (refsL (ts.take (q + 1)) = refsJ acc id j) := hid (by rw [HNX.out]; rfl)
     have HJL := hid hjl
     clear hjl
     generalize refsJ acc id j = cur at *
     go_wp2_with fail
     go_roundg (ko - 1)
     case rel => exact ⟨q + 1, by omega, by go_num, by have := HJL.out; rw [HEQ.out]; omega, hid ⟨HSJ.out.1, by rw [HEQ.out]; exact HSJ.out.2.1⟩⟩
     case measure => omega
  ·obtain rfl : q = L := by omega
   have HFIN : Hid (GivesRf w R (.returned (.slice a3 (refsL (ts.take q)).length c3)) wr) := hid (by
    rw [HALL.out]
    exact ⟨a3, c3, rfl, (inK_of_owns HST.out.2).more fun b hb => HST.out.2.lt b hb, HST.out.1⟩)
   go_wp2
   go_ret
   exact HFIN.out
end Go.Proofs.YtikiimlmoalbcaaGreatDoor

namespace Go.Proofs.YtikiimlmoalbcaaGreatDoor
open Go.RowKit
def FindP (w : World) (B : Nat) (t : Ta) (e : Ending) (w' : World) : Prop :=
  ∃ u, e = .returned (.tuple #[.agg #[.int .i64 t.id, .string t.name, u], .bool true]) ∧ RdCo w (· < B) u t.cols ∧ Below w.heap.size w w'
set_option maxRecDepth 100000 in
set_option maxHeartbeats 1000000 in
theorem ref_Find (v : Value) (ts : List Ta) (B i : Nat) (w : World) (hi : i < ts.length) (hu : ∀ j, j < i → (ts.getD j Ta.z).id ≠ (ts.getD i Ta.z).id) (hl : ts.length ≤ 1048576) (hv : RdTa w (· < B) v ts) (hB : B ≤ w.heap.size) :
  Calls Tryz.prog 149 #[v, .int .i64 (ts.getD i Ta.z).id] w (FindP w B (ts.getD i Ta.z)) := by
 obtain ⟨tv, htv, hco⟩ := hv
 obtain ⟨a, k, rfl, hk, hm, hrd⟩ := htv
 obtain ⟨b, o, rfl, hb, hcell⟩ := hrd (by omega)
 have hbw : b < w.heap.size := by omega
 have HRD := hid hcell
 have HCO := hid (hco i hi)
 have HSL : Hid (∀ q, q < ts.length → ∃ ca m ck, tv q = .slice ca m ck) := hid (fun q hq => by
  obtain ⟨cv, ⟨ca, ck, e, -⟩, -⟩ := hco q hq
  exact ⟨ca, _, ck, e⟩)
 have HU := hid hu
 clear hcell hco hu hrd
 generalize htt : ts.getD i Ta.z = t at *
 have HTT := hid htt
 clear htt
 generalize hxl : ts.length = L at *
 clear hxl
 unfold maxLen at hm
 obtain ⟨ca, ck, hcq⟩ : ∃ ca ck, tv i = .slice ca t.cols.length ck := by
  obtain ⟨cv, ⟨ca, ck, e, -⟩, -⟩ := HCO.out
  exact ⟨ca, ck, e⟩
 have HCQ := hid hcq
 clear hcq
 go_enter Tryz.func149, Tryz.ntmps149
 generalize hLA : Code.loop _ = LA
 go_wp2_with fail
 have HX0 := hid (BoxN.new w #[.int .i64 0, .string ⟨#[]⟩, .slice none 0 0] 145)
 have HB0 := hid ((Below.refl w.heap.size w).alloc (Nat.le_refl _) (.cells #[.int .i64 0, .string ⟨#[]⟩, .slice none 0 0] 145))
 have hz0 : (w.alloc (.cells #[.int .i64 0, .string ⟨#[]⟩, .slice none 0 0] 145)).heap.size = w.heap.size + 1 := by simp
 generalize w.alloc (.cells #[.int .i64 0, .string ⟨#[]⟩, .slice none 0 0] 145) = W0 at *
 subst hLA
 go_loopg [10] (i + 1) (fun N c wr => ∃ q : Nat, q + N = i + 1 ∧ q ≤ i ∧ c = .int .i64 (q : Int) ∧ Hid (Below W0.heap.size W0 wr))
 case atStart => exact ⟨0, by omega, by omega, rfl, hid (Below.refl _ _)⟩
 case round =>
  obtain ⟨q, hq, hqi, rfl, HB⟩ := hrel
  have hwz := HB.out.size
  have HBW := hid (HB0.out.trans (HB.out.mono (by omega)))
  have k0 : wr.cell? ⟨b, o + q * 3, none⟩ = some (.int .i64 (ts.getD q Ta.z).id) := (HBW.out.cell (p := ⟨b, o + q * 3, none⟩) hbw).trans (HRD.out q (by omega) 0 (by omega))
  have k1 : wr.cell? ⟨b, o + q * 3 + 1, none⟩ = some (.string (ts.getD q Ta.z).name) := (HBW.out.cell (p := ⟨b, o + q * 3 + 1, none⟩) hbw).trans (HRD.out q (by omega) 1 (by omega))
  have k2 : wr.cell? ⟨b, o + q * 3 + 2, none⟩ = some (tv q) := (HBW.out.cell (p := ⟨b, o + q * 3 + 2, none⟩) hbw).trans (HRD.out q (by omega) 2 (by omega))
  by_cases hqe : q = i
  ·subst hqe
   rw [HTT.out] at k0 k1
   rw [HCQ.out] at k2
   have hcr := HCO.out
   rw [HCQ.out] at hcr
   have HCR := hid hcr
   have hb0 := HX0.out.below HB.out (by omega)
   have c0 := hb0.cell 0 rfl
   have c1 := hb0.cell 1 rfl
   have c2 := hb0.cell 2 rfl
   have f0 := hb0.frozen 0
   have f1 := hb0.frozen 1
   have f2 := hb0.frozen 2
   have hxz := hb0.lt
   clear hcr
   obtain ⟨id, nm, xs⟩ := t
   simp only at k0 k1 k2
   generalize xs.length = m at *
   have hbF := (((hb0.set 0 (.int .i64 id)).set 1 (.string nm)).set 2 (.slice ca m ck)).alloc (.cells #[.int .i64 id, .string nm, .slice ca m ck] 145)
   have d0 := hbF.cell 0 rfl
   have d1 := hbF.cell 1 rfl
   have d2 := hbF.cell 2 rfl
   have D0 := hid d0
   have D1 := hid d1
   have D2 := hid d2
   clear hb0 hbF d0 d1 d2
   go_wp2
   have d0 := D0.out
   have d1 := D1.out
   have d2 := D2.out
   refine bodyPost_ret (v := .tuple #[.agg #[.int .i64 id, .string nm, .slice ca m ck], .bool true]) (by simp [results, Tryz.results149, go_sem, d0, d1, d2]) rfl ⟨_, rfl, HCR.out, ?_⟩
   have := HBW.out
   repeat' (first | (with_reducible exact Below.refl _ _) | (with_reducible assumption) | (with_reducible refine below_drewN ?_) | (with_reducible refine Below.alloc ?_ ?_ _) | (with_reducible refine Below.drew ?_) | (with_reducible refine Below.setCell ?_ ?_ _) | (with_reducible refine Below.trans ?_ (Below.mono (by with_reducible assumption) ?_)) | go_size)
  ·have hne := HU.out q (by omega)
   obtain ⟨ca', m', ck', hcq'⟩ := HSL.out q (by omega)
   rw [hcq'] at k2
   have hne2 : ((ts.getD q Ta.z).id == t.id) = false := by simpa using hne
   generalize ts.getD q Ta.z = t' at *
   obtain ⟨id', nm', xs'⟩ := t'
   simp only at k0 k1 hne2
   clear hne
   go_wp2
   go_roundg (gk - 1)
   case rel => exact ⟨q + 1, by omega, by omega, by go_num, hid (by have := HB.out; repeat' (first | (with_reducible exact Below.refl _ _) | (with_reducible assumption) | (with_reducible refine below_drewN ?_) | (with_reducible refine Below.alloc ?_ ?_ _) | (with_reducible refine Below.drew ?_) | (with_reducible refine Below.setCell ?_ ?_ _) | (with_reducible refine Below.trans ?_ (Below.mono (by with_reducible assumption) ?_)) | go_size))⟩
   case measure => omega
def GetP (w : World) (B : Nat) (x : Co) (e : Ending) (w' : World) : Prop :=
  ∃ u, e = .returned (.tuple #[.agg #[.string x.name, u], .bool true]) ∧ RdCl w (· < B) u x.cells ∧ Below w.heap.size w w'
set_option maxRecDepth 100000 in
set_option maxHeartbeats 1000000 in
theorem ref_Get (v : Value) (ts : List Ta) (B i k : Nat) (w : World) (hi : i < ts.length) (hu : ∀ j, j < i → (ts.getD j Ta.z).id ≠ (ts.getD i Ta.z).id) (hl : ts.length ≤ 1048576) (hk : k < (ts.getD i Ta.z).cols.length)
  (hv : RdTa w (· < B) v ts) (hB : B ≤ w.heap.size) :
  Calls Tryz.prog 99 #[v, .agg #[.int .i64 (ts.getD i Ta.z).id, .int .i64 (k : Int)]] w (GetP w B ((ts.getD i Ta.z).cols.getD k Co.z)) := by
 have HF := hid (fun W (hW : Below w.heap.size w W) => ref_Find v ts B i W hi hu hl (hv.keep fun p hp => hW.cell (by omega)) (by have := hW.size; omega))
 have HBACK := hid (fun W (hW : Below w.heap.size w W) u xs (h : RdCo W (· < B) u xs) => (h.keep fun p (hp : p.block < B) => (hW.cell (by omega)).symm : RdCo w (· < B) u xs))
 obtain ⟨a, c, rfl, -⟩ : ∃ a c, v = .slice a ts.length c ∧ True := by
  obtain ⟨tv, ⟨a, c, e, -⟩, -⟩ := hv
  exact ⟨a, c, e, trivial⟩
 clear hv hu
 generalize ts.getD i Ta.z = t at *
 obtain ⟨id, nm, xs⟩ := t
 simp only at hk
 generalize hx : xs.getD k Co.z = x at *
 have HX := hid hx
 clear hx
 generalize ts.length = L at *
 clear hi
 go_enter Tryz.func99, Tryz.ntmps99
 go_wp2_with fail
 have HR0 := hid ((BoxN.new w #[.int .i64 id, .int .i64 (k : Int)] 51).alloc (.cells #[.string ⟨#[]⟩, .slice none 0 0] 139))
 have hres := BoxN.new (w.alloc (.cells #[.int .i64 id, .int .i64 (k : Int)] 51)) #[.string ⟨#[]⟩, .slice none 0 0] 139
 simp only [World.size_alloc] at hres
 have HRES := hid hres
 have HB0 : Hid (Below w.heap.size w ((w.alloc (.cells #[.int .i64 id, .int .i64 (k : Int)] 51)).alloc (.cells #[.string ⟨#[]⟩, .slice none 0 0] 139))) := hid (by have := Below.refl w.heap.size w; repeat' (first | (with_reducible exact Below.refl _ _) | (with_reducible assumption) | (with_reducible refine below_drewN ?_) | (with_reducible refine Below.alloc ?_ ?_ _) | (with_reducible refine Below.drew ?_) | (with_reducible refine Below.setCell ?_ ?_ _) | (with_reducible refine Below.trans ?_ (Below.mono (by with_reducible assumption) ?_)) | go_size))
 have hz0 : ((w.alloc (.cells #[.int .i64 id, .int .i64 (k : Int)] 51)).alloc (.cells #[.string ⟨#[]⟩, .slice none 0 0] 139)).heap.size = w.heap.size + 2 := by simp
 clear hres
 with_reducible refine (HF.out _ HB0.out).mono ?_
 generalize ((w.alloc (.cells #[.int .i64 id, .int .i64 (k : Int)] 51)).alloc (.cells #[.string ⟨#[]⟩, .slice none 0 0] 139)) = W0 at *
 rintro e w1 ⟨u, rfl, hru, hb1⟩
 have HBW := hid (HB0.out.trans (hb1.mono (by omega)))
 have HR1 := hid (HR0.out.below hb1 (by omega))
 have HRES1 := hid (HRES.out.below hb1 (by omega))
 have hru2 := HBACK.out _ HB0.out _ _ hru
 obtain ⟨cv, ⟨ca, ck, rfl, hck, hcm, hrd⟩, hcl⟩ := hru2
 obtain ⟨b2, o2, rfl, hb2, hcell⟩ := hrd (by show 0 < xs.length; omega)
 have hb2' : b2 < B := hb2
 have hbw2 : b2 < w.heap.size := by omega
 have HCL := hid (hcl k hk)
 obtain ⟨da, dk, hdv, -⟩ : ∃ da dk, cv k = .slice da (xs.getD k Co.z).cells.length dk ∧ True := by
  obtain ⟨da, dk, e, -⟩ := hcl k hk
  exact ⟨da, dk, e, trivial⟩
 have k0 : w1.cell? ⟨b2, o2 + k * 2, none⟩ = some (.string x.name) := (HBW.out.cell (p := ⟨b2, o2 + k * 2, none⟩) hbw2).trans ((hcell k hk 0 (by omega)).trans (by rw [← HX.out]; rfl))
 have k1 : w1.cell? ⟨b2, o2 + k * 2 + 1, none⟩ = some (cv k) := (HBW.out.cell (p := ⟨b2, o2 + k * 2 + 1, none⟩) hbw2).trans (hcell k hk 1 (by omega))
 rw [hdv] at k1 HCL
 rw [HX.out] at k1 HCL
 have hwz := HBW.out.size
 have hrz := HRES1.out.lt
 clear hrd hcell hcl hdv hru hb1
 generalize hxl : xs.length = m at *
 have HXL := hid hxl
 clear hxl
 obtain ⟨xn, xc⟩ := x
 simp only at k0 k1
 generalize hxcl : xc.length = n at *
 have HXC := hid hxcl
 clear hxcl
 unfold maxLen at hcm
 have HT := hid (HR1.out.alloc (.cells #[.int .i64 id, .string nm, .slice (some ⟨b2, o2, none⟩) m ck] 145))
 have HU := hid (HRES1.out.alloc (.cells #[.int .i64 id, .string nm, .slice (some ⟨b2, o2, none⟩) m ck] 145))
 have r0 := HR1.out.cell 0 rfl
 have r1 := HR1.out.cell 1 rfl
 have s1 := HT.out.cell 1 rfl
 have c0 := HRES1.out.cell 0 rfl
 have c1 := HRES1.out.cell 1 rfl
 have f0 := HRES1.out.frozen 0
 have f1 := HRES1.out.frozen 1
 have g0 := HU.out.cell 0 rfl
 have g1 := HU.out.cell 1 rfl
 have h0 := HU.out.frozen 0
 have h1 := HU.out.frozen 1
 have hkm : (k : Int) < (m : Int) := by omega
 have hk0 : decide ((k : Int) < 0) = false := decide_eq_false (by omega)
 have hk1 : decide (m ≤ k) = false := decide_eq_false (by omega)
 have hk2 : decide ((m : Int) ≤ (k : Int)) = false := decide_eq_false (by omega)
 have m0 : (w1.alloc (.cells #[.int .i64 id, .string nm, .slice (some ⟨b2, o2, none⟩) m ck] 145)).cell? ⟨b2, o2 + k * 2, none⟩ = some (.string xn) := (World.cell?_alloc_lt _ _ _ (by show b2 < _; omega)).trans k0
 have m1 : (w1.alloc (.cells #[.int .i64 id, .string nm, .slice (some ⟨b2, o2, none⟩) m ck] 145)).cell? ⟨b2, o2 + k * 2 + 1, none⟩ = some (.slice da n dk) := (World.cell?_alloc_lt _ _ _ (by show b2 < _; omega)).trans k1
 have hbF := ((HRES1.out.set 0 (.string xn)).set 1 (.slice da n dk)).alloc (.cells #[.int .i64 id, .string nm, .slice (some ⟨b2, o2, none⟩) m ck] 145)
 have D0 := hid (hbF.cell 0 rfl)
 have D1 := hid (hbF.cell 1 rfl)
 clear hbF
 go_wp2
 have d0 := D0.out
 have d1 := D1.out
 refine bodyPost_ret (v := .tuple #[.agg #[.string xn, .slice da n dk], .bool true]) (by simp [results, Tryz.results99, go_sem, d0, d1]) rfl ⟨_, rfl, by have := HCL.out; exact this, ?_⟩
 have := HBW.out
 repeat' (first | (with_reducible exact Below.refl _ _) | (with_reducible assumption) | (with_reducible refine below_drewN ?_) | (with_reducible refine Below.alloc ?_ ?_ _) | (with_reducible refine Below.drew ?_) | (with_reducible refine Below.setCell ?_ ?_ _) | (with_reducible refine Below.trans ?_ (Below.mono (by with_reducible assumption) ?_)) | go_size)
end Go.Proofs.YtikiimlmoalbcaaGreatDoor
namespace Go.Proofs.YtikiimlmoalbcaaGreatDoor
open Go.RowKit
def textsL (cs : List Cl) : List ByteArray := (cs.filter fun c => !c.null).map Cl.text
def valuesL (cs : List Cl) : List ByteArray := setOfL (textsL cs)
theorem texts_take {cs : List Cl} {k : Nat} (h : k < cs.length) : textsL (cs.take (k + 1)) = if (cs.getD k Cl.z).null = true then textsL (cs.take k) else textsL (cs.take k) ++ [(cs.getD k Cl.z).text] := by
  unfold textsL
  rw [List.take_succ_eq_append_getElem h, List.filter_append, List.map_append]
  have e : cs.getD k Cl.z = cs[k] := by simp [List.getD, h]
  rw [e, List.filter_cons, List.filter_nil]
  cases h2 : cs[k].null <;> simp [h2]
theorem texts_len (cs : List Cl) : (textsL cs).length ≤ cs.length := by
  unfold textsL; rw [List.length_map]; exact List.length_filter_le _ _
theorem texts_take_len (cs : List Cl) (k : Nat) : (textsL (cs.take k)).length ≤ k := Nat.le_trans (texts_len _) (List.length_take_le _ _)
theorem values_len (cs : List Cl) : (valuesL cs).length ≤ cs.length := Nat.le_trans (setOfL_len _) (texts_len _)
set_option maxRecDepth 100000 in
set_option maxHeartbeats 1000000 in
theorem ref_Values (nm : ByteArray) (cs : List Cl) (v : Value) (B : Nat) (w : World) (hv : RdCl w (· < B) v cs) (hB : B ≤ w.heap.size) (hl : cs.length ≤ 1048576) :
  Calls Tryz.prog 100 #[.agg #[.string nm, v]] w (GivesS w (valuesL cs)) := by
 obtain ⟨a, k, rfl, hk, hm, hrd⟩ := hv
 obtain ⟨i0, hi, hz0, hz1, hz2⟩ := info_parts info_str
 have HRD := hid hrd
 have HTK := hid (fun q h => @texts_take cs q h)
 have HTL := hid (fun q => texts_take_len cs q)
 have HFIN : Hid (valuesL cs = setOfL (textsL (cs.take cs.length))) := hid (by rw [List.take_length]; rfl)
 clear hrd
 generalize valuesL cs = F at *
 generalize hcl : cs.length = L at *
 have HCL := hid hcl
 clear hcl
 unfold maxLen at hm
 go_enter Tryz.func100, Tryz.ntmps100
 go_wp2_with fail
 go_loopg [3, 9] L (fun N v i wr => ∃ q : Nat, q + N = L ∧ i = .int .i64 (q : Int) ∧ Hid (Below w.heap.size w wr ∧ wr.ownsRow w.heap.size 9 1 v (textsL (cs.take q)).length ((textsL (cs.take q)).map Value.string)))
 case atStart => exact ⟨0, by omega, rfl, hid ⟨by have := Below.refl w.heap.size w; repeat' (first | (with_reducible exact Below.refl _ _) | (with_reducible assumption) | (with_reducible refine below_drewN ?_) | (with_reducible refine Below.alloc ?_ ?_ _) | (with_reducible refine Below.drew ?_) | (with_reducible refine Below.setCell ?_ ?_ _) | (with_reducible refine Below.trans ?_ (Below.mono (by with_reducible assumption) ?_)) | go_size), World.ownsRow_nil _ _ _ _⟩⟩
 case round =>
  obtain ⟨q, hq, rfl, HST⟩ := hrel
  obtain ⟨a3, c3, rfl⟩ := own_slice HST.out.2
  by_cases hp : 0 < gk
  ·obtain ⟨b, o, rfl, hb, hcell⟩ := HRD.out (by omega)
   have hb' : b < B := hb
   have hbw : b < w.heap.size := by omega
   have hwz := HST.out.1.size
   have k0 : wr.cell? ⟨b, o + q * 2, none⟩ = some (.bool (cs.getD q Cl.z).null) := (HST.out.1.cell (p := ⟨b, o + q * 2, none⟩) hbw).trans (hcell q (by omega) 0 (by omega))
   have k1 : wr.cell? ⟨b, o + q * 2 + 1, none⟩ = some (.string (cs.getD q Cl.z).text) := (HST.out.1.cell (p := ⟨b, o + q * 2 + 1, none⟩) hbw).trans (hcell q (by omega) 1 (by omega))
   have HNX := hid (HTK.out q (by have := HCL.out; omega))
   have hql := HTL.out q
   generalize textsL (cs.take q) = acc at *
   clear hcell
   generalize cs.getD q Cl.z = c at *
   obtain ⟨nl, s⟩ := c
   simp only at k0 k1
   cases nl
   ·have hown3 := HST.out.2.alloc (.cells #[.bool false, .string s] 185)
    have HB3 : Hid (Below w.heap.size w (wr.alloc (.cells #[.bool false, .string s] 185))) := hid (HST.out.1.alloc hwz _)
    have hz3 : (wr.alloc (.cells #[.bool false, .string s] 185)).heap.size = wr.heap.size + 1 := by simp
    generalize hal : acc.length = n at *
    have HAL := hid hal
    clear hal
    go_wp2_with (at_builtin; refine wpList_append_own _ rfl _ _ 27 rfl (w.heap.size) 9 i0 (.string ⟨#[]⟩) 1 16 Tryz.underlying27 hi hz0 hz1 hz2 rfl (by decide) _ _ _ rfl (hown3.alloc _) ⟨_, 0, none⟩ 1 1 [(.string s)] rfl rfl (cell_one_at _ _ (by simp)) (by intro u hu; simp at hu; subst hu; rfl) (by unfold maxLen; omega) (by omega) (by simp; omega) ?_)
    intro v' w4 hown4 hgrow _
    have HB4 : Hid (Below w.heap.size w w4) := hid (push_below HB3.out (by omega) hown3 hgrow)
    have e4 : acc.map Value.string ++ [.string s] = (acc ++ [s]).map Value.string := by simp
    rw [e4] at hown4
    have HO4 := hid hown4
    clear e4 hown4 hgrow hown3
    go_wp2
    go_roundg (gk - 1)
    case rel => exact ⟨q + 1, by omega, by go_num, hid ⟨HB4.out, by rw [HNX.out, if_neg (by simp), List.length_append, List.length_singleton, HAL.out]; exact HO4.out⟩⟩
    case measure => omega
   ·have HB3 : Hid (Below w.heap.size w (wr.alloc (.cells #[.bool true, .string s] 185))) := hid (HST.out.1.alloc hwz _)
    have HO3 := hid (HST.out.2.alloc (.cells #[.bool true, .string s] 185))
    have HNX2 : Hid (textsL (cs.take (q + 1)) = acc) := hid (by rw [HNX.out, if_pos rfl])
    generalize hal : acc.length = n at *
    have HAL := hid hal
    clear hal
    go_wp2
    go_roundg (gk - 1)
    case rel => exact ⟨q + 1, by omega, by go_num, hid ⟨HB3.out, by rw [HNX2.out, HAL.out]; exact HO3.out⟩⟩
    case measure => omega
  ·obtain rfl : q = L := by omega
   have hql := HTL.out q
   have HR : Hid (RdS wr wr.heap.size (.slice a3 (textsL (cs.take q)).length c3) (textsL (cs.take q))) := hid (rdS_of_own HST.out.2)
   have hwz := HST.out.1.size
   have HSET := hid (ref_Set _ _ _ wr HR.out (Nat.le_refl _) (by omega))
   rw [← HFIN.out] at HSET
   generalize (textsL (cs.take q)).length = n at *
   go_wp2_with fail
   with_reducible refine HSET.out.mono ?_
   rintro e w5 ⟨a5, c5, rfl, hown5, hb5⟩
   have HFI : Hid (GivesS w F (.returned (.slice a5 F.length c5)) w5) := hid ⟨a5, c5, rfl, own_base hown5 hwz, HST.out.1.trans (hb5.mono hwz)⟩
   generalize F.length = n2 at *
   go_wp2
   go_ret
   exact HFI.out
end Go.Proofs.YtikiimlmoalbcaaGreatDoor
