/- A region that draws its order, whose operations only read and whose callees may lay blocks: walked once. No program in sight. Contract of the reference's check of a list of tables, at valid ones. -/
import Derived.Test.YtfcccldofaleoaaGreatDoorBs
import Derived.Test.YtfcccldofaleoaaGreatDoorNa
namespace Go.Proofs.YtfcccldofaleoaaGreatDoor
open Go.RowKit

/-- a world behind 'w': what was there is as it was -/
structure LaterOf (w : World) where
  W : World
  hb : Below w.heap.size w W
instance later_inhabited (w : World) : Inhabited (LaterOf w) := ⟨⟨w, Below.refl _ _⟩⟩
theorem wp_region_later {P : Program} {id : Nat} {Q : Exit → Act → World → Prop} {a : Act} {w : World} {l : List Oper} (hm : P.follows .mixedOrders = true) (hB : Region.lexB .any l.toArray = true)
    (h : wpQuiet P l.toArray (fun w' => ∃ p : LaterOf w, w' = p.W) (fun a' => ∀ w', (∃ p : LaterOf w, w' = p.W) → Q .normal a' w') l a) : (Code.region id l.toArray true).wp P Q a w :=
  wp_region_quiet (C := fun w' => ∃ p : LaterOf w, w' = p.W) hm hB ⟨⟨w.drewN 1, below_drewN (Below.refl _ _)⟩, rfl⟩ (by simpa using h)
theorem later_call {P : Program} {f : FuncId} {args : Array Value} {w : World} {v : Value} (p : LaterOf w) (h : Calls P f args p.W (Ret p.W v)) :
    Calls P f args p.W fun e w'' => e = .returned v ∧ ∃ q : LaterOf w, w'' = q.W :=
  h.mono fun _ w' ⟨he, hb⟩ => ⟨he, ⟨w', p.hb.trans (hb.mono p.hb.size)⟩, rfl⟩
theorem LaterOf.cell {w : World} (p : LaterOf w) {a : Addr} {v : Value} (h : w.cell? a = some v) : p.W.cell? a = some v := (p.hb.cell (World.block_lt_of_cell? _ _ h)).trans h

end Go.Proofs.YtfcccldofaleoaaGreatDoor

namespace Go.Proofs.YtfcccldofaleoaaGreatDoor
open Go.RowKit

set_option maxRecDepth 100000 in
set_option maxHeartbeats 2000000 in
theorem ref_ValidList (v : Value) (ts : List Ta) (B : Nat) (w : World) (h : ListV ts) (hv : RdTa w (· < B) v ts) (hB : B ≤ w.heap.size) (hT : Tabs w) :
    Calls Tryz.prog 63 #[v] w (Ret w (.bool true)) := by
  obtain ⟨hl, hok, hasc⟩ := h
  obtain ⟨tv, htv, hco⟩ := hv
  obtain ⟨a, k, rfl, hk, hm, hrd⟩ := htv
  have HT := hid hT
  have HRD := hid hrd
  have HCO := hid hco
  have HOK := hid hok
  have HUP := hid (fun i j h1 h2 => @ids_up ts hasc i j h1 h2)
  clear hT hrd hco hok hasc
  generalize hxl : ts.length = L at *
  have HXL := hid hxl
  clear hxl
  unfold maxLen at hm
  go_enter Tryz.func63, Tryz.ntmps63
  go_wp2_with fail
  go_loopg [7] L (fun N i wr => ∃ q : Nat, q + N = L ∧ i = .int .i64 (q : Int) ∧ Hid (Below w.heap.size w wr))
  case atStart => exact ⟨0, by omega, rfl, hid (Below.refl _ _)⟩
  case round =>
    obtain ⟨q, hq, rfl, HB⟩ := hrel
    by_cases hp : 0 < gk
    · obtain ⟨b, o, rfl, hb, hcell⟩ := HRD.out (by omega)
      have hbw : b < w.heap.size := by omega
      have hwz := HB.out.size
      have k0 : wr.cell? ⟨b, o + q * 3, none⟩ = some (.int .i64 (ts.getD q Ta.z).id) := (HB.out.cell (p := ⟨b, o + q * 3, none⟩) hbw).trans (hcell q (by omega) 0 (by omega))
      have k1 : wr.cell? ⟨b, o + q * 3 + 1, none⟩ = some (.string (ts.getD q Ta.z).name) := (HB.out.cell (p := ⟨b, o + q * 3 + 1, none⟩) hbw).trans (hcell q (by omega) 1 (by omega))
      have k2 : wr.cell? ⟨b, o + q * 3 + 2, none⟩ = some (tv q) := (HB.out.cell (p := ⟨b, o + q * 3 + 2, none⟩) hbw).trans (hcell q (by omega) 2 (by omega))
      have HVQ := hid (fun W (hW : Below w.heap.size w W) => ref_ValidTab (ts.getD q Ta.z) (tv q) B W (HOK.out _ (getD_mem (by have := HXL.out; omega) Ta.z)) ((HCO.out q (by omega)).keep fun p hp => hW.cell (by omega)) (by have := hW.size; omega) (HT.out.below hW))
      obtain ⟨ca, ck, hcq, -, -, -⟩ : ∃ ca ck, tv q = .slice ca (ts.getD q Ta.z).cols.length ck ∧ True ∧ True ∧ True := by
        obtain ⟨cv, ⟨ca, ck, e, -⟩, -⟩ := HCO.out q (by omega)
        exact ⟨ca, ck, e, trivial, trivial, trivial⟩
      rw [hcq] at k2 HVQ
      by_cases hq0 : q = 0
      · subst hq0
        clear hcell hcq
        generalize ts.getD 0 Ta.z = t at *
        obtain ⟨id, nm, xs⟩ := t
        generalize hxsl : xs.length = m at *
        simp only [Nat.zero_mul, Nat.add_zero] at k0 k1 k2
        rw [show (((0 : Nat)) : Int) = 0 from rfl]
        have hd0 : decide ((0 : Int) < 0) = false := by simp
        go_wp2_with fail
        have HWA : Hid (Below w.heap.size w (wr.alloc (.cells #[.int .i64 id, .string nm, .slice ca m ck] 24))) := hid (by have := HB.out; repeat' (first | (with_reducible exact Below.refl _ _) | (with_reducible assumption) | (with_reducible refine below_drewN ?_) | (with_reducible refine Below.alloc ?_ ?_ _) | (with_reducible refine Below.drew ?_) | (with_reducible refine Below.setCell ?_ ?_ _) | (with_reducible refine Below.trans ?_ (Below.mono (by with_reducible assumption) ?_)) | go_size))
        have hbx := BoxN.new wr #[.int .i64 id, .string nm, .slice ca m ck] 24
        have hz8 : wr.heap.size ≤ (wr.alloc (.cells #[.int .i64 id, .string nm, .slice ca m ck] 24)).heap.size := by simp
        have HRO := hid (Below.refl wr.heap.size wr |>.alloc (Nat.le_refl _) (.cells #[.int .i64 id, .string nm, .slice ca m ck] 24))
        generalize wr.alloc (.cells #[.int .i64 id, .string nm, .slice ca m ck] 24) = W8 at *
        have f0 := fun p : LaterOf W8 => p.cell (hbx.cell 0 rfl)
        have f1 := fun p : LaterOf W8 => p.cell (hbx.cell 1 rfl)
        have f2 := fun p : LaterOf W8 => p.cell (hbx.cell 2 rfl)
        have hwz8 := HWA.out.size
        have HCALL := hid (fun p : LaterOf W8 => later_call p (HVQ.out p.W (HWA.out.trans (p.hb.mono hwz8))))
        clear hbx
        refine wp_region_later (by kernel_rfl) (by kernel_rfl) ?_
        repeat (first | go_big_quiet_step ((go_at_call 51; exact HCALL.out _)) | quiet_step ((go_at_call 51; exact HCALL.out _)))
        refine wpQuiet_nil ?_
        intro _ hw'
        obtain ⟨p5, hw''⟩ := hw'
        subst hw''
        have hb5 := p5.hb
        generalize p5.W = w5 at *
        clear f0 f1 f2 HCALL
        have HB5 : Hid (Below wr.heap.size wr w5) := hid (HRO.out.trans (hb5.mono hz8))
        clear hb5 k0 k1 k2
        go_wp2_with fail
        go_roundg (gk - 1)
        case rel => exact ⟨0 + 1, by omega, by go_num, hid (by have := HB.out.trans (HB5.out.mono hwz); repeat' (first | (with_reducible exact Below.refl _ _) | (with_reducible assumption) | (with_reducible refine below_drewN ?_) | (with_reducible refine Below.alloc ?_ ?_ _) | (with_reducible refine Below.drew ?_) | (with_reducible refine Below.setCell ?_ ?_ _) | (with_reducible refine Below.trans ?_ (Below.mono (by with_reducible assumption) ?_)) | go_size))⟩
        case measure => omega
      · obtain ⟨pp, rfl⟩ : ∃ pp, q = pp + 1 := ⟨q - 1, by omega⟩
        have k3 : wr.cell? ⟨b, o + pp * 3, none⟩ = some (.int .i64 (ts.getD pp Ta.z).id) := (HB.out.cell (p := ⟨b, o + pp * 3, none⟩) hbw).trans (hcell pp (by omega) 0 (by omega))
        have hup := HUP.out pp (pp + 1) (by omega) (by have := HXL.out; omega)
        clear hcell hcq hq0
        generalize ts.getD (pp + 1) Ta.z = t at *
        generalize (ts.getD pp Ta.z).id = id' at *
        obtain ⟨id, nm, xs⟩ := t
        simp only at hup
        generalize hxsl : xs.length = m at *
        have hd : decide (id ≤ id') = false := decide_eq_false (by omega)
        have hw1 : IntKind.i64.wrap ((pp : Int) + 1 - 1) = (pp : Int) := (IntWalk.i64_in _ (by omega)).trans (by omega)
        have hw2 : IntKind.i64.wrap (pp : Int) = (pp : Int) := IntWalk.i64_in _ (by omega)
        have hp1 : (0 : Int) < (pp : Int) + 1 := by omega
        have hd3 : decide ((0 : Int) < (pp : Int) + 1) = true := decide_eq_true (by omega)
        have hpL : (pp : Int) < (L : Int) := by omega
        have hpL2 : pp < L := by omega
        rw [show (((pp + 1 : Nat)) : Int) = (pp : Int) + 1 from by omega]
        go_wp2_with fail
        have HWA : Hid (Below w.heap.size w (wr.alloc (.cells #[.int .i64 id, .string nm, .slice ca m ck] 24))) := hid (by have := HB.out; repeat' (first | (with_reducible exact Below.refl _ _) | (with_reducible assumption) | (with_reducible refine below_drewN ?_) | (with_reducible refine Below.alloc ?_ ?_ _) | (with_reducible refine Below.drew ?_) | (with_reducible refine Below.setCell ?_ ?_ _) | (with_reducible refine Below.trans ?_ (Below.mono (by with_reducible assumption) ?_)) | go_size))
        have hbx := BoxN.new wr #[.int .i64 id, .string nm, .slice ca m ck] 24
        have hz8 : wr.heap.size ≤ (wr.alloc (.cells #[.int .i64 id, .string nm, .slice ca m ck] 24)).heap.size := by simp
        have HRO := hid (Below.refl wr.heap.size wr |>.alloc (Nat.le_refl _) (.cells #[.int .i64 id, .string nm, .slice ca m ck] 24))
        generalize wr.alloc (.cells #[.int .i64 id, .string nm, .slice ca m ck] 24) = W8 at *
        have f3 := fun p : LaterOf W8 => p.cell ((HRO.out.cell (p := ⟨b, o + pp * 3, none⟩) (by show b < _; omega)).trans k3)
        have f0 := fun p : LaterOf W8 => p.cell (hbx.cell 0 rfl)
        have f1 := fun p : LaterOf W8 => p.cell (hbx.cell 1 rfl)
        have f2 := fun p : LaterOf W8 => p.cell (hbx.cell 2 rfl)
        have hwz8 := HWA.out.size
        have HCALL := hid (fun p : LaterOf W8 => later_call p (HVQ.out p.W (HWA.out.trans (p.hb.mono hwz8))))
        clear hbx
        refine wp_region_later (by kernel_rfl) (by kernel_rfl) ?_
        repeat (first | go_big_quiet_step ((go_at_call 51; exact HCALL.out _)) | quiet_step ((go_at_call 51; exact HCALL.out _)))
        refine wpQuiet_nil ?_
        intro _ hw'
        obtain ⟨p5, hw''⟩ := hw'
        subst hw''
        have hb5 := p5.hb
        generalize p5.W = w5 at *
        clear f0 f1 f2 f3 HCALL
        have HB5 : Hid (Below wr.heap.size wr w5) := hid (HRO.out.trans (hb5.mono hz8))
        clear hb5 k0 k1 k2 k3 hd hw1 hw2
        go_wp2_with fail
        go_roundg (gk - 1)
        case rel => exact ⟨pp + 1 + 1, by omega, by go_num, hid (by have := HB.out.trans (HB5.out.mono hwz); repeat' (first | (with_reducible exact Below.refl _ _) | (with_reducible assumption) | (with_reducible refine below_drewN ?_) | (with_reducible refine Below.alloc ?_ ?_ _) | (with_reducible refine Below.drew ?_) | (with_reducible refine Below.setCell ?_ ?_ _) | (with_reducible refine Below.trans ?_ (Below.mono (by with_reducible assumption) ?_)) | go_size))⟩
        case measure => omega
    · obtain rfl : q = L := by omega
      go_wp2
      go_ret
      exact ⟨ret_bool (decide_eq_true (by omega)), HB.out⟩

end Go.Proofs.YtfcccldofaleoaaGreatDoor
