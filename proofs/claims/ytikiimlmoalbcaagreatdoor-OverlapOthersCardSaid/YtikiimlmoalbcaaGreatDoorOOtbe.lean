/- Contract of (*bounded.search).run at the closures of Top and of Least. -/
import Derived.Test.YtikiimlmoalbcaaGreatDoorOOtbd
set_option linter.unusedVariables false
set_option linter.unusedSimpArgs false
namespace Go.Proofs.YtikiimlmoalbcaaGreatDoor
open Go.RowKit
structure ColsAt (cs : List Cv) (B : Nat) (w : World) (v : Value) (cols : List Nat) : Prop where
  mem : InN w (fun k => B ≤ k ∧ k < w.heap.size) v cols
  up : cols.Pairwise (· ≤ ·)
  lt : ∀ c ∈ cols, c < cs.length
  len : cols.length ≤ 1048576
theorem ColsAt.later {cs : List Cv} {B : Nat} {w w' : World} {v : Value} {cols : List Nat} (h : ColsAt cs B w v cols) (hb : Below w.heap.size w w') : ColsAt cs B w' v cols :=
 ⟨(InK.keep h.mem fun p hp => hb.cell (p := p) hp.2).more fun k hk => ⟨hk.1, Nat.lt_of_lt_of_le hk.2 hb.size⟩, h.up, h.lt, h.len⟩
theorem ColsAt.base {cs : List Cv} {B B' : Nat} {w : World} {v : Value} {cols : List Nat} (h : ColsAt cs B w v cols) (hB : B' ≤ B) : ColsAt cs B' w v cols := ⟨h.mem.more fun k hk => ⟨Nat.le_trans hB hk.1, hk.2⟩, h.up, h.lt, h.len⟩
theorem ColsAt.set {cs : List Cv} {B : Nat} {w : World} {v : Value} {cols : List Nat} (h : ColsAt cs B w v cols) {p : Addr} (hp : p.block < B) (u : Value) : ColsAt cs B (w.setCell p u) v cols :=
 ⟨(InK.keep h.mem fun x hx => World.cell?_of_block (Below.heap_setCell _ _ _ _ (by have := hx.1; omega))).more fun k hk => ⟨hk.1, by simpa using hk.2⟩, h.up, h.lt, h.len⟩
theorem ColsAt.none (cs : List Cv) (B : Nat) (w : World) : ColsAt cs B w (.slice Option.none 0 0) [] := ⟨InK.nil, List.Pairwise.nil, fun _ h => absurd h (by simp), by simp⟩
def RestP (cs : List Cv) (Good : Nat → List Nat → Prop) (r : Nat) (w : World) (e : Ending) (w' : World) : Prop :=
  ∃ (cols : List Nat) (v : Value) (b : Bool), e = .returned (.tuple #[v, .bool b]) ∧ ColsAt cs w.heap.size w' v cols ∧ (b = true → Good r cols) ∧ Below w.heap.size w w'
def RunP (w0 w : World) (cs : List Cv) (q : List ByteArray) (ev vv lv qv fv : Value) (sb lb : Nat) (xa : Option Addr) (xc cap : Nat) (pl : List Nat) (Good : Nat → List Nat → Prop) (e : Ending) (w' : World) : Prop :=
  ∃ (cols : List Nat) (v : Value) (r : Nat), e = .returned v ∧ ColsAt cs w.heap.size w' v cols ∧ SrcSt w0 w' cs q ev vv lv qv fv sb lb xa xc cap pl r ∧ Bar2 w sb lb w' ∧ (Good r cols ∨ (r = pl.length ∧ cols = []))
set_option maxRecDepth 100000 in
set_option maxHeartbeats 4000000 in
theorem run_top {w0 w : World} {cs : List Cv} {q : List ByteArray} {ev vv lv qv fv : Value} {sb lb xc cap : Nat} {xa : Option Addr} {pl : List Nat} (hin : SrcIn w0 cs q ev vv lv qv) (h : SrcSt w0 w cs q ev vv lv qv fv sb lb xa xc cap pl 0) (Good : Nat → List Nat → Prop) (p1 p2 : Addr)
  (hR : ∀ r W, SrcSt w0 W cs q ev vv lv qv fv sb lb xa xc cap pl r → Bar2 w sb lb W → Calls Tryz.prog 107 #[.pointer (some p1), .pointer (some p2)] W (RestP cs Good r W)) :
  Calls Tryz.prog 106 #[.pointer (some ⟨sb, 0, none⟩), .func (.func 107) #[] #[.pointer (some p1), .pointer (some p2)]] w (RunP w0 w cs q ev vv lv qv fv sb lb xa xc cap pl Good) := by
 have HR := hid hR
 have HCH := hid (fun W r cv cols (hS : SrcSt w0 W cs q ev vv lv qv fv sb lb xa xc cap pl r) (hc : ColsAt cs w.heap.size W cv cols) => st_cheaper hin hS (hc.mem.more fun k hk => hk.2) hc.lt hc.len)
 have HNX := hid (fun W r (hS : SrcSt w0 W cs q ev vv lv qv fv sb lb xa xc cap pl r) => st_next hin hS)
 have H0 := hid h
 clear hin h hR
 obtain ⟨m, hm⟩ : ∃ m, m = pl.length := ⟨_, rfl⟩
 have HM := hid hm
 clear hm
 go_enter Tryz.func106, Tryz.ntmps106
 go_wp2_with fail
 go_loopg [4, 5, 6] (m + 1) (fun K u4 u5 u6 wr => ∃ r : Nat, r + K = m + 1 ∧ r ≤ m ∧ Hid (SrcSt w0 wr cs q ev vv lv qv fv sb lb xa xc cap pl r) ∧ Hid (Bar2 w sb lb wr))
 case atStart => exact ⟨0, by omega, by omega, H0, hid (Bar2.of _ _ (Below.refl _ _))⟩
 case round =>
  obtain ⟨r, hr, hrm, HS, HB⟩ := hrel
  have HRR := hid (HR.out r wr HS.out HB.out)
  go_wp2_with fail
  with_reducible refine HRR.out.mono ?_
  rintro e w2 ⟨cols, cv, b, rfl, hco, hg, hb2⟩
  have HCO := hid (hco.base HB.out.size)
  have HS2 := hid (HS.out.later hb2)
  have HB2 := hid (HB.out.trans (Bar2.of _ _ hb2))
  have HGD := hid hg
  obtain ⟨ca, cc, rfl, -⟩ := hco.mem
  clear hco hb2 hg
  cases b
  ·go_wp2_with fail
   with_reducible refine (HNX.out _ r HS2.out).mono ?_
   rintro e w4 ⟨hb4, ⟨hlt, rfl, hS4⟩ | ⟨heq, rfl, hS4⟩⟩
   ·have HS4 := hid hS4
    have HB4 := hid (HB2.out.trans hb4)
    have hrl : r < m := by rw [HM.out]; exact hlt
    clear hS4 hb4 hlt
    go_wp2_with fail
    go_roundg (gk - 1)
    case rel => exact ⟨r + 1, by omega, by omega, HS4, HB4⟩
    case measure => omega
   ·have HS4 := hid hS4
    have HB4 := hid (HB2.out.trans hb4)
    have HE := hid heq
    clear hS4 hb4 heq
    go_wp2
    go_ret
    exact ⟨[], _, r, rfl, ColsAt.none _ _ _, HS4.out, HB4.out, .inr ⟨HE.out, rfl⟩⟩
  ·go_wp2_with fail
   with_reducible refine (HCH.out _ r _ cols HS2.out HCO.out).mono ?_
   rintro e w3 ⟨c, rfl, hb3⟩
   have HS3 := hid (HS2.out.later hb3)
   have HB3 := hid (HB2.out.trans (Bar2.of _ _ hb3))
   have HC3 := hid (HCO.out.later hb3)
   clear hb3
   cases c
   ·go_wp2_with fail
    with_reducible refine (HNX.out _ r HS3.out).mono ?_
    rintro e w4 ⟨hb4, ⟨hlt, rfl, hS4⟩ | ⟨heq, rfl, hS4⟩⟩
    ·have HS4 := hid hS4
     have HB4 := hid (HB3.out.trans hb4)
     have hrl : r < m := by rw [HM.out]; exact hlt
     clear hS4 hb4 hlt
     go_wp2_with fail
     go_roundg (gk - 1)
     case rel => exact ⟨r + 1, by omega, by omega, HS4, HB4⟩
     case measure => omega
    ·have HS4 := hid hS4
     have HB4 := hid (HB3.out.trans hb4)
     have HE := hid heq
     clear hS4 hb4 heq
     go_wp2
     go_ret
     exact ⟨[], _, r, rfl, ColsAt.none _ _ _, HS4.out, HB4.out, .inr ⟨HE.out, rfl⟩⟩
   ·go_wp2
    go_ret
    exact ⟨cols, _, r, rfl, HC3.out, HS3.out, HB3.out, .inl (HGD.out (by first | rfl | trivial))⟩
end Go.Proofs.YtikiimlmoalbcaaGreatDoor
