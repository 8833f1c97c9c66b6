/- Contract of the dice's List. -/
import Derived.Test.YtabemneoobbnaaaDoorMb
namespace Go.Proofs.YtabemneoobbnaaaDoor
open Go.RowKit

def ListOk (T c r : Nat) (ts : List Ta) : Prop := ts.length ≤ T ∧ (∀ t ∈ ts, TabOk c r t ∧ 0 ≤ t.id ∧ t.id ≤ 2 + 3 * (T : Int)) ∧ ts.Pairwise (fun a b => a.id < b.id)
def ListR (w : World) (g T c r : Nat) (e : Ending) (w' : World) : Prop :=
  ∃ (ts : List Ta) (a : Option Addr) (k : Nat), e = .returned (.slice a ts.length k) ∧ RdTa w' (News w w') (.slice a ts.length k) ts ∧ ListOk T c r ts ∧ DiceAt 48 w' g ∧ Roll w.heap.size g w w'

/-- the state of List's loop; the next table has an identifier from 'z' on -/
structure LisSt (w0 w : World) (g c r z : Nat) (v : Value) (ts : List Ta) : Prop where
  own : TaSt w w0.heap.size 80 v ts
  ok : ∀ t ∈ ts, TabOk c r t ∧ 0 ≤ t.id ∧ t.id < (z : Int)
  asc : ts.Pairwise (fun a b => a.id < b.id)
  dice : DiceAt 48 w g
  roll : Roll w0.heap.size g w0 w
section
variable {w0 w w' : World} {g c r z : Nat} {v : Value} {ts : List Ta}
theorem LisSt.rolled (h : LisSt w0 w g c r z v ts) (hr : Roll w.heap.size g w w') (hd : DiceAt 48 w' g) (hg : g < w0.heap.size) : LisSt w0 w' g c r z v ts :=
  ⟨h.own.roll hr (Nat.le_refl _) hg, h.ok, h.asc, hd, h.roll.trans (hr.mono h.roll.size)⟩
theorem LisSt.alloc (h : LisSt w0 w g c r z v ts) (hg : g < w0.heap.size) (O : Obj) : LisSt w0 (w.alloc O) g c r z v ts :=
  h.rolled ((Roll.refl _ _ _).alloc (Nat.le_refl _) O) (h.dice.alloc O) hg
theorem LisSt.more (h : LisSt w0 w g c r z v ts) {z' : Nat} (hz : z ≤ z') : LisSt w0 w g c r z' v ts :=
  ⟨h.own, fun t ht => ⟨(h.ok t ht).1, (h.ok t ht).2.1, by have := (h.ok t ht).2.2; omega⟩, h.asc, h.dice, h.roll⟩
theorem LisSt.push (h : LisSt w0 w g c r z v ts) {x : Ta} (hx : TabOk c r x) (hxi : x.id = (z : Int)) {L : List Value} {u : Value} {p m cap : Nat} (hm : m = ts.length + 1) (hL : w.ownsRow w0.heap.size 80 3 v ts.length L)
    (hown : w'.ownsRow w0.heap.size 80 3 (.slice (some ⟨p, 0, none⟩) m cap) m (L ++ [.int .i64 x.id, .string x.name, u])) (hgr : w.grownBy w' v.ownBlock) (hat : v.ownBlock = some p ∨ p = w.heap.size)
    (hnew : RdCo w (Own w w0.heap.size v) u x.cols) (hg : g < w0.heap.size) : LisSt w0 w' g c r (z + 1) (.slice (some ⟨p, 0, none⟩) m cap) (ts ++ [x]) := by
  have hv : ∀ k, v.ownBlock = some k → w0.heap.size ≤ k := fun k hk => (hL.lt k hk).1
  have hrz := h.roll.size
  have hx' : ∀ k, k < w0.heap.size → w'.heap[k]? = w.heap[k]? := fun k hk => hgr.block k (by omega) (fun e => by have := hv k e.symm; omega)
  refine ⟨h.own.push hL hm hown hgr hat hnew, ?_, ?_, h.dice.keep fun k hk => hx' k (by omega), h.roll.trans ⟨hgr.os, hgr.tape, hgr.output, hgr.size, fun k hk _ => hx' k hk⟩⟩
  · intro y hy
    rcases List.mem_append.1 hy with h1 | h1
    · exact ⟨(h.ok y h1).1, (h.ok y h1).2.1, by have := (h.ok y h1).2.2; omega⟩
    · rw [List.mem_singleton.1 h1]; exact ⟨hx, by omega, by omega⟩
  · refine List.pairwise_append.2 ⟨h.asc, List.pairwise_singleton _ _, fun a ha b hb => ?_⟩
    rw [List.mem_singleton.1 hb, hxi]
    exact (h.ok a ha).2.2
end

set_option maxRecDepth 100000 in
set_option maxHeartbeats 2000000 in
theorem dice_List (g T c r : Nat) (w : World) (hd : DiceAt 48 w g) (hT : T ≤ 1000) (hc : c ≤ 4095) (hr : r ≤ 4095) :
    Calls Tryd.prog 15 #[.pointer (some ⟨g, 0, none⟩), .int .i64 (T : Int), .int .i64 (c : Int), .int .i64 (r : Int)] w (ListR w g T c r) := by
  have hgl := hd.lt
  have HD := hid hd
  obtain ⟨i0, hi, hz0, hz1, hz2⟩ := info_parts info_tab
  clear hd
  go_enter Tryd.func15, Tryd.ntmps15
  generalize hLA : Code.loop _ = LA
  go_wp2_with fail
  with_reducible refine (dice_Pick g _ _ HD.out (by omega) (by omega)).mono ?_
  rintro e w1 ⟨z0, rfl, hz0', hd1, hr1, hs1⟩
  have HR1 := hid hr1
  have HD1 := hid hd1
  clear hr1 hd1
  go_wp2_with fail
  with_reducible refine (dice_Pick g _ _ HD1.out (by omega) (by omega)).mono ?_
  rintro e w2 ⟨k, rfl, hk, hd2, hr2, hs2⟩
  have HR2 := hid (HR1.out.trans (hr2.mono HR1.out.size))
  have HD2 := hid hd2
  clear hr2 hd2 HR1 HD1
  go_wp2_with fail
  subst hLA
  go_loopg [9, 10, 11] k (fun N v i n wr => ∃ (ts : List Ta) (z : Nat), i = .int .i64 (z : Int) ∧ n = .int .i64 (N : Int) ∧ ts.length + N = k ∧ z ≤ 2 + 3 * ts.length ∧ Hid (LisSt w wr g c r z v ts))
  case atStart => exact ⟨[], z0, rfl, rfl, by simp, by simp; omega, hid ⟨TaSt.start HR2.out.size, by simp, List.Pairwise.nil, HD2.out, HR2.out⟩⟩
  case round =>
    obtain ⟨ts, z, rfl, rfl, hl, hz, HST⟩ := hrel
    obtain ⟨L0, hL0⟩ := HST.out.own.owns
    obtain ⟨va, vc, rfl⟩ := own_slice hL0
    have HL0 := hid hL0
    have hrz := HST.out.roll.size
    clear hL0
    generalize hcl : ts.length = L at *
    have HCL := hid hcl
    clear hcl
    by_cases hp : 0 < gk
    · go_wp2_with fail
      with_reducible refine (dice_Table g c r _ _ HST.out.dice (by omega) (by omega)).mono ?_
      rintro e w5 ⟨⟨xi, xn, xc⟩, u, rfl, hxi, hok5, hrd5, hd5, hr5⟩
      obtain rfl : (z : Int) = xi := hxi.symm
      have HST5 := hid (HST.out.rolled hr5 hd5 (by omega))
      have HL5 := hid (own_roll HL0.out hr5 (Nat.le_refl _) (by omega))
      have HOB := hid (HL0.out.lt)
      have HOK5 := hid hok5
      have HRD5 := hid hrd5
      obtain ⟨ua, uc, rfl, hun, hum⟩ : ∃ ua uc, u = .slice ua xc.length uc ∧ xc.length ≤ uc ∧ uc ≤ maxLen := by
        obtain ⟨cv, ⟨ua, uc, rfl, h1, h2, -⟩, -⟩ := hrd5
        exact ⟨ua, uc, rfl, h1, h2⟩
      have hrz5 := hr5.size
      clear hok5 hrd5 hd5 hr5
      go_wp2_with (at_builtin; refine wpList_append_form _ rfl _ _ 50 50 rfl w.heap.size 80 80 i0 (.agg #[.int .i64 0, .string ⟨#[]⟩, .slice none 0 0]) 3 48 Tryd.underlying50 Tryd.underlying50 hi hz0 hz1 hz2 rfl (by decide) (.slice va L vc) L L0 rfl (HL5.out.alloc _) (some ⟨_, 0, none⟩) 1 1 [.int .i64 (z : Int), .string xn, .slice ua xc.length uc] rfl rfl (fun _ => ⟨_, rfl, cell_three_at _ _ _ _ (by simp)⟩) (by intro u hu; simp at hu; rcases hu with rfl | rfl | rfl <;> rfl) (by omega) (by unfold maxLen; omega) (by omega) (by simp; omega) ?_; intro p7 cap7 w7 hown7 hg7 hat7 hlt7; have HG7 := hid hg7; have HOWN7 := hid hown7; have HAT7 := hid hat7; clear hown7 hg7 hat7)
      have HNEW : Hid (RdCo (w5.alloc (.cells #[.int .i64 (z : Int), .string xn, .slice ua xc.length uc] 80)) (Own (w5.alloc (.cells #[.int .i64 (z : Int), .string xn, .slice ua xc.length uc] 80)) w.heap.size (.slice va L vc)) (.slice ua xc.length uc) xc) := hid ((HRD5.out.keep (fun p hp => World.cell?_alloc_lt _ _ _ hp.2)).more (fun b hb => ⟨by have h1 : wr.heap.size ≤ b := hb.1; omega, by have := hb.2; simp; omega, fun e => by have := (HOB.out _ e).2; have h1 : wr.heap.size ≤ b := hb.1; omega⟩))
      have HL6 : Hid ((w5.alloc (.cells #[.int .i64 (z : Int), .string xn, .slice ua xc.length uc] 80)).ownsRow w.heap.size 80 3 (.slice va L vc) ts.length L0) := hid (by rw [HCL.out]; exact HL5.out.alloc _)
      have HST6 := hid (HST5.out.alloc (by omega) (.cells #[.int .i64 (z : Int), .string xn, .slice ua xc.length uc] 80))
      have HST7 := hid (HST6.out.push (x := ⟨z, xn, xc⟩) (m := L + 1) HOK5.out rfl (by rw [HCL.out]) HL6.out HOWN7.out HG7.out HAT7.out HNEW.out (by omega))
      clear HST5 HST6 HNEW HL6 HOWN7 HG7 HAT7
      go_wp2_with fail
      with_reducible refine (dice_Pick g _ _ HST7.out.dice (by omega) (by omega)).mono ?_
      rintro e w8 ⟨q, rfl, hq, hd8, hr8, hs8⟩
      have HST8 := hid (HST7.out.rolled hr8 hd8 (by omega) |>.more (show z + 1 ≤ z + (1 + q) by omega))
      clear hd8 hr8
      go_wp2
      go_roundg (gk - 1)
      case rel => exact ⟨ts ++ [⟨z, xn, xc⟩], z + (1 + q), by go_num, by go_num, by rw [List.length_append, List.length_singleton, HCL.out]; omega, by rw [List.length_append, List.length_singleton, HCL.out]; omega, HST8⟩
      case measure => omega
    · obtain rfl : gk = 0 := by omega
      have HFIN : Hid (ListR w g T c r (.returned (.slice va L vc)) wr) := hid (by
        have h1 := HCL.out
        subst h1
        exact ⟨ts, va, vc, rfl, HST.out.own.read, ⟨by omega, fun t ht => ⟨(HST.out.ok t ht).1, (HST.out.ok t ht).2.1, by have := (HST.out.ok t ht).2.2; omega⟩, HST.out.asc⟩, HST.out.dice, HST.out.roll⟩)
      go_wp2
      go_ret
      exact HFIN.out

end Go.Proofs.YtabemneoobbnaaaDoor
