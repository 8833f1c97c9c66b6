/- Contract of the reference's SameInts at equal lists of ints. Contract of the reference's Same (chapter 28) at two lists of the same matches. -/
import Derived.Test.YthblaeleogdfpaaGreatDoorCToab
import Derived.BigQuiet
import Derived.Test.YthblaeleogdfpaaGreatDoorCTobf
import Derived.Test.YthblaeleogdfpaaGreatDoorCToag
set_option linter.unusedVariables false
set_option linter.unusedSimpArgs false
namespace Go.Proofs.YthblaeleogdfpaaGreatDoor
open Go.RowKit
set_option maxHeartbeats 1000000 in
theorem ref27_SameInts (v u : Value) (L : List Nat) (n B : Nat) (w : World) (hv : InK 1 w (· < B) v n (fun j _ => .int .i64 ((L.getD j 0 : Nat) : Int))) (hu : InK 1 w (· < B) u n (fun j _ => .int .i64 ((L.getD j 0 : Nat) : Int))) :
  Calls Tryz.prog 20 #[v, u] w fun e w' => e = .returned (.bool true) ∧ w' = w := by
 obtain ⟨a1, c1, rfl, hc, hm, hr⟩ := hv
 obtain ⟨a2, c2, rfl, -, -, hr2⟩ := hu
 have HR := hid hr
 have HR2 := hid hr2
 clear hr hr2
 unfold maxLen at hm
 have hne : ((n : Int) != (n : Int)) = false := by simp
 go_enter Tryz.func20, Tryz.ntmps20
 go_wp2_with fail
 clear hne
 go_loopg [14] n (fun N i wr => ∃ q : Nat, q + N = n ∧ i = .int .i64 (q : Int) ∧ wr = w)
 case atStart => exact ⟨0, by omega, rfl, rfl⟩
 case round =>
  obtain ⟨q, hq, rfl, rfl⟩ := hrel
  by_cases hp : 0 < gk
  ·obtain ⟨b, o, rfl, hb, hcell⟩ := HR.out (by omega)
   obtain ⟨b2, o2, rfl, hb2, hcell2⟩ := HR2.out (by omega)
   have k0 : wr.cell? ⟨b, o + q, none⟩ = some (.int .i64 ((L.getD q 0 : Nat) : Int)) := by have := hcell q (by omega) 0 (by omega); simpa using this
   have k1 : wr.cell? ⟨b2, o2 + q, none⟩ = some (.int .i64 ((L.getD q 0 : Nat) : Int)) := by have := hcell2 q (by omega) 0 (by omega); simpa using this
   clear hcell hcell2
   generalize ((L.getD q 0 : Nat) : Int) = z at *
   have hne : (z != z) = false := by simp
   go_wp2
   go_roundg (gk - 1)
   case rel => exact ⟨q + 1, by omega, by go_num, rfl⟩
   case measure => omega
  ·obtain rfl : q = n := by omega
   go_wp2
   go_ret
   exact ⟨rfl, rfl⟩
end Go.Proofs.YthblaeleogdfpaaGreatDoor

namespace Go.Proofs.YthblaeleogdfpaaGreatDoor
open Go.RowKit
set_option maxRecDepth 100000 in
set_option maxHeartbeats 8000000 in
theorem ref28_Same (ts : List Ta) (qc : List Co) (a1 a2 : Option Addr) (n1 n2 c1 c2 : Nat) (I : List Int) (w : World) (hv : RdM w ts qc (.slice a1 n1 c1) I) (hu : RdM w ts qc (.slice a2 n2 c2) I) (hql : qc.length ≤ 1048576) :
  Calls Tryz.prog 43 #[.slice a1 n1 c1, .slice a2 n2 c2] w (Ret w (.bool true)) := by
 obtain ⟨ds1, ⟨a1', c1', e1, h11, h12, hr1⟩, hi1, hg1⟩ := hv
 obtain ⟨ds2, ⟨a2', c2', e2, h21, h22, hr2⟩, hi2, hg2⟩ := hu
 obtain ⟨rfl, rfl, rfl⟩ := Value.slice.inj e1
 obtain ⟨rfl, rfl, rfl⟩ := Value.slice.inj e2
 have hlen : ds2.length = ds1.length := by
  have := congrArg List.length (hi1.trans hi2.symm)
  simpa using this.symm
 have HID : Hid (∀ i, i < ds1.length → (ds2.getD i default).1.id = (ds1.getD i default).1.id) := hid (fun i hi => by
  have h1 : (ds1.map (fun x => x.1.id)).getD i 0 = (ds1.getD i default).1.id := by simp [List.getD, hi]
  have h2 : (ds2.map (fun x => x.1.id)).getD i 0 = (ds2.getD i default).1.id := by simp [List.getD, show i < ds2.length by omega]
  rw [← h1, ← h2, hi1, hi2])
 have HG1 := hid (fun i (hi : i < ds1.length) => hg1 _ (getD_mem hi default))
 have HG2 := hid (fun i (hi : i < ds1.length) => hg2 _ (getD_mem (show i < ds2.length by omega) default))
 have HR1 := hid hr1
 have HR2 := hid hr2
 rw [hlen] at HR2 h21
 rw [hlen]
 clear hi1 hi2 hg1 hg2 hr1 hr2 e1 e2 hlen
 generalize ds1.length = n at *
 unfold maxLen at h12 h22
 have hne : ((n : Int) != (n : Int)) = false := by simp
 go_enter Tryz.func43, Tryz.ntmps43
 go_wp2_with fail
 clear hne
 go_loopg [14] n (fun N i wr => ∃ q : Nat, q + N = n ∧ i = .int .i64 (q : Int) ∧ Hid (Below w.heap.size w wr))
 case atStart => exact ⟨0, by omega, rfl, hid (Below.refl _ _)⟩
 case round =>
  obtain ⟨q, hq, rfl, HB⟩ := hrel
  by_cases hp : 0 < gk
  ·have hqn : q < n := by omega
   have hwz := HB.out.size
   obtain ⟨b, o, rfl, hb, hcell⟩ := HR1.out (by omega)
   obtain ⟨b2, o2, rfl, hb2, hcell2⟩ := HR2.out (by omega)
   have g1 := (HG1.out q hqn).later HB.out
   have g2 := (HG2.out q hqn).later HB.out
   have hid1 := HID.out q hqn
   have gp := g2.fp
   have gq := g2.fq
   rw [hid1, ← g1.fp] at gp
   rw [hid1, ← g1.fq] at gq
   have gr := g2.rd
   rw [gp, gq] at gr
   have ga := g2.al
   rw [hid1] at ga
   have HF1 := hid g1.rd
   have HF2 := hid gr
   have HA1 := hid g1.al
   have HA2 := hid ga
   have k0 : wr.cell? ⟨b, o + q * 6, none⟩ = some (.int .i64 (ds1.getD q default).1.id) := (HB.out.cell (p := ⟨b, o + q * 6, none⟩) hb).trans (hcell q hqn 0 (by omega))
   have k1 : wr.cell? ⟨b, o + q * 6 + 1, none⟩ = some (.slice (ds1.getD q default).1.al.1 (ds1.getD q default).1.al.2.1 (ds1.getD q default).1.al.2.2) := (HB.out.cell (p := ⟨b, o + q * 6 + 1, none⟩) hb).trans (hcell q hqn 1 (by omega))
   have k2 : wr.cell? ⟨b, o + q * 6 + 2, none⟩ = some (.bool false) := (HB.out.cell (p := ⟨b, o + q * 6 + 2, none⟩) hb).trans (hcell q hqn 2 (by omega))
   have k3 : wr.cell? ⟨b, o + q * 6 + 3, none⟩ = some (.slice (ds1.getD q default).1.nu.1 (Fr.dig (ds1.getD q default).1.p).length (ds1.getD q default).1.nu.2) := (HB.out.cell (p := ⟨b, o + q * 6 + 3, none⟩) hb).trans (hcell q hqn 3 (by omega))
   have k4 : wr.cell? ⟨b, o + q * 6 + 4, none⟩ = some (.bool false) := (HB.out.cell (p := ⟨b, o + q * 6 + 4, none⟩) hb).trans (hcell q hqn 4 (by omega))
   have k5 : wr.cell? ⟨b, o + q * 6 + 5, none⟩ = some (.slice (ds1.getD q default).1.de.1 (Fr.dig (ds1.getD q default).1.q).length (ds1.getD q default).1.de.2) := (HB.out.cell (p := ⟨b, o + q * 6 + 5, none⟩) hb).trans (hcell q hqn 5 (by omega))
   have j0 : wr.cell? ⟨b2, o2 + q * 6, none⟩ = some (.int .i64 (ds2.getD q default).1.id) := (HB.out.cell (p := ⟨b2, o2 + q * 6, none⟩) hb2).trans (hcell2 q hqn 0 (by omega))
   have j1 : wr.cell? ⟨b2, o2 + q * 6 + 1, none⟩ = some (.slice (ds2.getD q default).1.al.1 (ds2.getD q default).1.al.2.1 (ds2.getD q default).1.al.2.2) := (HB.out.cell (p := ⟨b2, o2 + q * 6 + 1, none⟩) hb2).trans (hcell2 q hqn 1 (by omega))
   have j2 : wr.cell? ⟨b2, o2 + q * 6 + 2, none⟩ = some (.bool false) := (HB.out.cell (p := ⟨b2, o2 + q * 6 + 2, none⟩) hb2).trans (hcell2 q hqn 2 (by omega))
   have j3 : wr.cell? ⟨b2, o2 + q * 6 + 3, none⟩ = some (.slice (ds2.getD q default).1.nu.1 (Fr.dig (ds2.getD q default).1.p).length (ds2.getD q default).1.nu.2) := (HB.out.cell (p := ⟨b2, o2 + q * 6 + 3, none⟩) hb2).trans (hcell2 q hqn 3 (by omega))
   have j4 : wr.cell? ⟨b2, o2 + q * 6 + 4, none⟩ = some (.bool false) := (HB.out.cell (p := ⟨b2, o2 + q * 6 + 4, none⟩) hb2).trans (hcell2 q hqn 4 (by omega))
   have j5 : wr.cell? ⟨b2, o2 + q * 6 + 5, none⟩ = some (.slice (ds2.getD q default).1.de.1 (Fr.dig (ds2.getD q default).1.q).length (ds2.getD q default).1.de.2) := (HB.out.cell (p := ⟨b2, o2 + q * 6 + 5, none⟩) hb2).trans (hcell2 q hqn 5 (by omega))
   rw [hid1] at j0
   unfold Mh.fr at HF1 HF2
   clear hcell hcell2 g1 g2 gr ga gp gq hid1
   have HAN := hid (alignL_len qc (tabI ts (ds1.getD q default).1.id).cols)
   generalize (alignL qc (tabI ts (ds1.getD q default).1.id).cols) = AL at *
   generalize (ds2.getD q default).1 = y at *
   generalize (ds1.getD q default).1 = x at *
   obtain ⟨xi, ⟨xa, xan, xac⟩, ⟨xn, xnc⟩, ⟨xd, xdc⟩, xp, xq⟩ := x
   obtain ⟨yi, ⟨ya, yan, yac⟩, ⟨yn, ync⟩, ⟨yd, ydc⟩, yp, yq⟩ := y
   simp only at *
   have hxan : xan = AL.length := by
    obtain ⟨_, _, e, -⟩ := HA1.out
    exact (Value.slice.inj e).2.1
   have hyan : yan = AL.length := by
    obtain ⟨_, _, e, -⟩ := HA2.out
    exact (Value.slice.inj e).2.1
   subst hxan hyan
   have HB1 := hid (HB.out.alloc hwz (.cells #[.int .i64 xi, .slice xa AL.length xac, .bool false, .slice xn (Fr.dig xp).length xnc, .bool false, .slice xd (Fr.dig xq).length xdc] 135))
   have hbw := (Below.refl wr.heap.size wr).alloc (Nat.le_refl _) (.cells #[.int .i64 xi, .slice xa AL.length xac, .bool false, .slice xn (Fr.dig xp).length xnc, .bool false, .slice xd (Fr.dig xq).length xdc] 135)
   have hx := BoxN.new wr #[.int .i64 xi, .slice xa AL.length xac, .bool false, .slice xn (Fr.dig xp).length xnc, .bool false, .slice xd (Fr.dig xq).length xdc] 135
   have HF1' := hid (HF1.out.kept hbw)
   have HF2' := hid (HF2.out.kept hbw)
   have HA1' := hid ((HA1.out.keep fun p (hp : p.block < wr.heap.size) => hbw.cell (p := p) hp).more (S' := (· < (wr.alloc (.cells #[.int .i64 xi, .slice xa AL.length xac, .bool false, .slice xn (Fr.dig xp).length xnc, .bool false, .slice xd (Fr.dig xq).length xdc] 135)).heap.size)) fun b (hl : b < wr.heap.size) => Nat.lt_of_lt_of_le hl hbw.size)
   have HA2' := hid ((HA2.out.keep fun p (hp : p.block < wr.heap.size) => hbw.cell (p := p) hp).more (S' := (· < (wr.alloc (.cells #[.int .i64 xi, .slice xa AL.length xac, .bool false, .slice xn (Fr.dig xp).length xnc, .bool false, .slice xd (Fr.dig xq).length xdc] 135)).heap.size)) fun b (hl : b < wr.heap.size) => Nat.lt_of_lt_of_le hl hbw.size)
   have m0 := hbw.cell (p := ⟨b2, o2 + q * 6, none⟩) (by have : b2 < w.heap.size := hb2; show b2 < _; omega) |>.trans j0
   have m1 := hbw.cell (p := ⟨b2, o2 + q * 6 + 1, none⟩) (by have : b2 < w.heap.size := hb2; show b2 < _; omega) |>.trans j1
   have m2 := hbw.cell (p := ⟨b2, o2 + q * 6 + 2, none⟩) (by have : b2 < w.heap.size := hb2; show b2 < _; omega) |>.trans j2
   have m3 := hbw.cell (p := ⟨b2, o2 + q * 6 + 3, none⟩) (by have : b2 < w.heap.size := hb2; show b2 < _; omega) |>.trans j3
   have m4 := hbw.cell (p := ⟨b2, o2 + q * 6 + 4, none⟩) (by have : b2 < w.heap.size := hb2; show b2 < _; omega) |>.trans j4
   have m5 := hbw.cell (p := ⟨b2, o2 + q * 6 + 5, none⟩) (by have : b2 < w.heap.size := hb2; show b2 < _; omega) |>.trans j5
   clear hbw HF1 HF2 HA1 HA2 j0 j1 j2 j3 j4 j5
   go_upto_region 6 with fail
   clear k0 k1 k2 k3 k4 k5
   generalize wr.alloc (.cells #[.int .i64 xi, .slice xa AL.length xac, .bool false, .slice xn (Fr.dig xp).length xnc, .bool false, .slice xd (Fr.dig xq).length xdc] 135) = W1 at *
   generalize wr.heap.size = xb at *
   have hwz1 := HB1.out.size
   have HC1 := hid (fun p : LaterOf W1 => later_call p (Fr.ref_Same _ _ xp xq p.W (HF1'.out.kept p.hb) (HF2'.out.kept p.hb)))
   have HC2 := hid (fun p : LaterOf W1 => later_call p ((ref27_SameInts (.slice xa AL.length xac) (.slice ya AL.length yac) AL AL.length W1.heap.size p.W (HA1'.out.keep fun a (ha : a.block < W1.heap.size) => p.hb.cell (p := a) ha) (HA2'.out.keep fun a (ha : a.block < W1.heap.size) => p.hb.cell (p := a) ha)).mono fun e w' h => (⟨h.1, by rw [h.2]; exact Below.refl _ _⟩ : Ret p.W (.bool true) e w')))
   have x0 := fun p : LaterOf W1 => p.cell (v := .int .i64 xi) (hx.cell 0 rfl)
   have x1 := fun p : LaterOf W1 => p.cell (v := .slice xa AL.length xac) (hx.cell 1 rfl)
   have x2 := fun p : LaterOf W1 => p.cell (v := .bool false) (hx.cell 2 rfl)
   have x3 := fun p : LaterOf W1 => p.cell (v := .slice xn (Fr.dig xp).length xnc) (hx.cell 3 rfl)
   have x4 := fun p : LaterOf W1 => p.cell (v := .bool false) (hx.cell 4 rfl)
   have x5 := fun p : LaterOf W1 => p.cell (v := .slice xd (Fr.dig xq).length xdc) (hx.cell 5 rfl)
   have y0 := fun p : LaterOf W1 => p.cell m0
   have y1 := fun p : LaterOf W1 => p.cell m1
   have y2 := fun p : LaterOf W1 => p.cell m2
   have y3 := fun p : LaterOf W1 => p.cell m3
   have y4 := fun p : LaterOf W1 => p.cell m4
   have y5 := fun p : LaterOf W1 => p.cell m5
   have hq1 : (xi != xi) = false := by simp
   clear hx m0 m1 m2 m3 m4 m5 HF1' HF2' HA1' HA2'
   refine wp_region_later (by kernel_rfl) (by kernel_rfl) ?_
   repeat (first | go_big_quiet_step (first | (go_at_call 21; with_reducible exact HC1.out _) | (go_at_call 20; with_reducible exact HC2.out _)) | quiet_step (first | (go_at_call 21; with_reducible exact HC1.out _) | (go_at_call 20; with_reducible exact HC2.out _)))
   refine wpQuiet_nil ?_
   intro _ hw'
   obtain ⟨p5, rfl⟩ := hw'
   have HB5 := hid (HB1.out.trans (p5.hb.mono hwz1))
   generalize p5.W = w5 at *
   clear x0 x1 x2 x3 x4 x5 y0 y1 y2 y3 y4 y5 HC1 HC2
   go_wp2
   go_roundg (gk - 1)
   case rel => exact ⟨q + 1, by omega, by go_num, HB5⟩
   case measure => omega
  ·obtain rfl : q = n := by omega
   go_wp2
   go_ret
   exact ⟨rfl, HB.out⟩
end Go.Proofs.YthblaeleogdfpaaGreatDoor
