/- The lines of a text as strings.Lines gives them: contract of the iterator. -/
import Derived.Shelf.Abstract
import Derived.LoopNIn
import Derived.LoopIn
import Derived.RegionIn
import Derived.Test.YtdncdlcfgljheaaDoorRn
import Derived.Test.YtdncdlcfgljheaaDoorLp
import Derived.Test.YtdncdlcfgljheaaDoorShelf
import Derived.Test.YtdncdlcfgljheaaDoorRows
namespace Go.Proofs.YtdncdlcfgljheaaDoor
open Go.RowKit Go.Shelf

attribute [local go_sem] Oper.semAt_some

def GL (Bs : Nat) (W : World) (r : Nat) : Prop := r = Bs ∧ ∃ cs : Array Value, W.heap[r]? = some (Obj.cells cs 9 (0, 0))
structure KpL (Bs : Nat) (W W' : World) : Prop where
  size : W.heap.size ≤ W'.heap.size
  box : ∀ v, Boxed W Bs 9 v → Boxed W' Bs 9 v
theorem KpL.trans {Bs : Nat} {A B C : World} (h : KpL Bs A B) (k : KpL Bs B C) : KpL Bs A C := ⟨Nat.le_trans h.size k.size, fun v hv => k.box v (h.box v hv)⟩
/-- the length of the text in a cell -/
def strAt (w : World) (b : Nat) : Nat := match w.cell? ⟨b, 0, none⟩ with | some (.string r) => r.size | _ => 0
theorem strAt_of {w : World} {b : Nat} {r : ByteArray} (h : Boxed w b 9 (.string r)) : strAt w b = r.size := by unfold strAt; rw [h.cell]

set_option maxRecDepth 100000 in
set_option maxHeartbeats 4000000 in
theorem lines1_in (n : Nat) (hn : 1 ≤ n) (l Bs : Nat) (s : ByteArray) (hs : s.size ≤ 1073741824) (J Jx : List ByteArray → World → Prop) (W : World) (hJ : AbidesFrom W.heap.size J) (hJc : AbidesG (GL Bs) J) (hJxc : AbidesG (GL Bs) Jx)
    (hY : ∀ pre x W1, J pre W1 → pre ++ [x] <+: rawB s → YieldAt Fence.wide (n - 1) Tryd.prog l #[.string x] W1 fun e W' =>
      (e = .returned (.bool true) ∧ J (pre ++ [x]) W' ∧ KpL Bs W1 W') ∨ (e = .returned (.bool false) ∧ Jx (pre ++ [x]) W'))
    (hBs : Boxed W Bs 9 (.string s)) (h0 : J [] W) :
    CallsIn Fence.wide n Tryd.prog 80 #[.func (.yield l) #[] #[], .pointer (some ⟨Bs, 0, none⟩)] W fun e W' => (∃ v, e = .returned v) ∧
      ((∃ ys, ys = rawB s ∧ J ys W') ∨ (∃ pre, pre <+: rawB s ∧ Jx pre W')) := by
  have HJ := hid hJ
  have HJC := hid hJc
  have HY := hid hY
  have H0 := hid h0
  clear hJ hJc hY h0
  refine callsIn_of_wp Tryd.func80 rfl trivial ?_ rfl
  simp only [Tryd.ntmps80, List.size_toArray, List.length_cons, List.length_nil, Nat.reduceAdd, Nat.reduceSub, Array.replicate_succ, Array.replicate_zero, List.push_toArray, List.append_toArray, List.nil_append, List.cons_append]
  gi_wp2
  gi_loopw [3] (fun v wr => ∃ (r : ByteArray) (pre : List ByteArray), Boxed wr Bs 9 (.string r) ∧ Hid (pre ++ rawB r = rawB s) ∧ r.size ≤ 1073741824 ∧ Hid (J pre wr)) (fun _ wr => strAt wr Bs)
  case atStart => exact ⟨s, [], hBs, hid rfl, hs, H0⟩
  case round =>
    obtain ⟨r, pre, hbx, htot, hr, hj⟩ := hrel
    have HBX := hid hbx
    have g0 := hbx.cell
    have f0 := hbx.frozen
    have HSZ := hid (strAt_of hbx)
    clear hbx
    by_cases hr0 : 0 < r.size
    · have HIB : Hid (∀ W', Calls Tryd.prog 81 #[.string r, .int .u8 10] W' (fun e w' => e = .returned (.int .i64 (Lib.indexByte r.data.toList 10)) ∧ W' = w')) := hid (fun W' => (Tryd.strings_IndexByte r 10 W').mono fun e w' h => ⟨h.1, h.2.symm⟩)
      have hge := Lib.indexByte_ge r.data.toList 10
      generalize hix : Lib.indexByte r.data.toList 10 = ix at *
      by_cases hi0 : 0 ≤ ix
      · obtain ⟨k, rfl⟩ : ∃ k : Nat, ix = (k : Int) := ⟨ix.toNat, by omega⟩
        obtain ⟨hk, hcut⟩ := rawB_cut hix
        have HT : Hid (pre ++ [r.extract 0 (k + 1)] ++ rawB (r.extract (k + 1) r.size) = rawB s) := hid (by rw [List.append_assoc, List.singleton_append, ← hcut]; exact htot.out)
        have HSZ2 : Hid ((r.extract (k + 1) r.size).size = r.size - (k + 1)) := hid (by simp)
        have HJ2 := HJC.out _ _ _ 0 (.string (r.extract (k + 1) r.size)) hj.out ⟨rfl, _, HBX.out⟩
        have HJ3 := hid (HJ.out _ _ (wr.setCell ⟨Bs, 0, none⟩ (.string (r.extract (k + 1) r.size))).drew none HJ2 ⟨rfl, rfl, rfl, Nat.le_refl _, fun _ _ _ => rfl⟩ (fun r e => by cases e))
        have HBX2 : Hid (Boxed (wr.setCell ⟨Bs, 0, none⟩ (.string (r.extract (k + 1) r.size))).drew Bs 9 (.string (r.extract (k + 1) r.size))) := hid (HBX.out.set (.string (r.extract (k + 1) r.size)))
        obtain ⟨fn, tmps, assign, body, hy, hR⟩ := HY.out pre (r.extract 0 (k + 1)) _ HJ3.out ⟨_, HT.out⟩
        clear hcut hix hge hi0 HJ2
        gi_wp2
        refine ⟨trivial, (callsIn_wide.2 (HIB.out _)).mono ?_⟩
        rintro e w' ⟨rfl, rfl⟩
        have hk1 : (0 : Int) ≤ (k : Int) + 1 := by omega
        have hk2 : (k : Int) + 1 ≤ (r.size : Int) := by omega
        gi_wp2
        gi_region
        gi_wp2
        refine hR.mono ?_
        rintro e W3 (⟨rfl, hJ4, hk4⟩ | ⟨rfl, hJx4⟩)
        · have HB4 := hid (hk4.box _ HBX2.out)
          have HPN := hid (strAt_of HB4.out)
          clear hk4 hy
          gi_wp2
          go_roundw
          case rel => exact ⟨r.extract (k + 1) r.size, pre ++ [r.extract 0 (k + 1)], HB4.out, HT.out, by rw [HSZ2.out]; omega, hid hJ4⟩
          case measure => rw [HPN.out, HSZ.out, HSZ2.out]; omega
        · gi_wp2
          refine bodyPost_ret (results_none rfl _ _ _) rfl ?_
          exact ⟨⟨_, rfl⟩, .inr ⟨pre ++ [r.extract 0 (k + 1)], ⟨_, HT.out⟩, hJx4⟩⟩
      · obtain rfl : ix = -1 := by omega
        have hone := rawB_none hix hr0
        have hemp : rawB (⟨#[]⟩ : ByteArray) = [] := rawB_empty rfl
        have HT : Hid (pre ++ [r] ++ rawB (⟨#[]⟩ : ByteArray) = rawB s) := hid (by rw [hemp, List.append_nil, ← hone]; exact htot.out)
        have HJ3 := hid (HJC.out _ _ _ 0 (.string (⟨#[]⟩ : ByteArray)) hj.out ⟨rfl, _, HBX.out⟩)
        have HBX2 := hid (HBX.out.set (.string (⟨#[]⟩ : ByteArray)))
        obtain ⟨fn, tmps, assign, body, hy, hR⟩ := HY.out pre r _ HJ3.out ⟨_, HT.out⟩
        clear hone hemp hix hge hi0
        gi_wp2
        refine ⟨trivial, (callsIn_wide.2 (HIB.out _)).mono ?_⟩
        rintro e w' ⟨rfl, rfl⟩
        gi_wp2
        refine hR.mono ?_
        rintro e W3 (⟨rfl, hJ4, hk4⟩ | ⟨rfl, hJx4⟩)
        · have HB4 := hid (hk4.box _ HBX2.out)
          have HPN := hid (strAt_of HB4.out)
          clear hk4 hy
          gi_wp2
          go_roundw
          case rel => exact ⟨⟨#[]⟩, pre ++ [r], HB4.out, HT.out, by show 0 ≤ _; omega, hid hJ4⟩
          case measure => rw [HPN.out, HSZ.out]; show 0 < _; omega
        · gi_wp2
          refine bodyPost_ret (results_none rfl _ _ _) rfl ?_
          exact ⟨⟨_, rfl⟩, .inr ⟨pre ++ [r], ⟨_, HT.out⟩, hJx4⟩⟩
    · have HFIN : Hid (pre = rawB s) := hid (by have h := htot.out; rw [rawB_empty (by omega), List.append_nil] at h; exact h)
      gi_wp2
      go_end0
      exact ⟨⟨_, rfl⟩, .inl ⟨pre, HFIN.out, hj.out⟩⟩

end Go.Proofs.YtdncdlcfgljheaaDoor
