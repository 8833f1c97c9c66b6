/- Contracts of the reference's Find, Get (tables), Values. -/
import Derived.Test.YtabemneoobbnaaaDoorNd
namespace Go.Proofs.YtabemneoobbnaaaDoor
open Go.RowKit

def FindP (w : World) (B : Nat) (t : Ta) (e : Ending) (w' : World) : Prop :=
  ∃ u, e = .returned (.tuple #[.agg #[.int .i64 t.id, .string t.name, u], .bool true]) ∧ RdCo w (· < B) u t.cols ∧ Below w.heap.size w w'

set_option maxRecDepth 100000 in
set_option maxHeartbeats 1000000 in
theorem ref_Find (v : Value) (ts : List Ta) (B i : Nat) (w : World) (hi : i < ts.length) (hu : ∀ j, j < i → (ts.getD j Ta.z).id ≠ (ts.getD i Ta.z).id) (hl : ts.length ≤ 1048576) (hv : RdTa w (· < B) v ts) (hB : B ≤ w.heap.size) :
    Calls Tryd.prog 39 #[v, .int .i64 (ts.getD i Ta.z).id] w (FindP w B (ts.getD i Ta.z)) := by
  obtain ⟨tv, htv, hco⟩ := hv
  obtain ⟨a, k, rfl, hk, hm, hrd⟩ := htv
  obtain ⟨b, o, rfl, hb, hcell⟩ := hrd (by omega)
  have hbw : b < w.heap.size := by omega
  have HRD := hid hcell
  have HCO := hid (hco i hi)
  have HSL : Hid (∀ q, q < ts.length → ∃ ca m ck, tv q = .slice ca m ck) := hid (fun q hq => by
    obtain ⟨cv, ⟨ca, ck, e, -⟩, -⟩ := hco q hq
    exact ⟨ca, _, ck, e⟩)
  have HU := hid hu
  clear hcell hco hu hrd
  generalize htt : ts.getD i Ta.z = t at *
  have HTT := hid htt
  clear htt
  generalize hxl : ts.length = L at *
  clear hxl
  unfold maxLen at hm
  obtain ⟨ca, ck, hcq⟩ : ∃ ca ck, tv i = .slice ca t.cols.length ck := by
    obtain ⟨cv, ⟨ca, ck, e, -⟩, -⟩ := HCO.out
    exact ⟨ca, ck, e⟩
  have HCQ := hid hcq
  clear hcq
  go_enter Tryd.func39, Tryd.ntmps39
  generalize hLA : Code.loop _ = LA
  go_wp2_with fail
  have HX0 := hid (BoxN.new w #[.int .i64 0, .string ⟨#[]⟩, .slice none 0 0] 80)
  have HB0 := hid ((Below.refl w.heap.size w).alloc (Nat.le_refl _) (.cells #[.int .i64 0, .string ⟨#[]⟩, .slice none 0 0] 80))
  have hz0 : (w.alloc (.cells #[.int .i64 0, .string ⟨#[]⟩, .slice none 0 0] 80)).heap.size = w.heap.size + 1 := by simp
  generalize w.alloc (.cells #[.int .i64 0, .string ⟨#[]⟩, .slice none 0 0] 80) = W0 at *
  subst hLA
  go_loopg [10] (i + 1) (fun N c wr => ∃ q : Nat, q + N = i + 1 ∧ q ≤ i ∧ c = .int .i64 (q : Int) ∧ Hid (Below W0.heap.size W0 wr))
  case atStart => exact ⟨0, by omega, by omega, rfl, hid (Below.refl _ _)⟩
  case round =>
    obtain ⟨q, hq, hqi, rfl, HB⟩ := hrel
    have hwz := HB.out.size
    have HBW := hid (HB0.out.trans (HB.out.mono (by omega)))
    have k0 : wr.cell? ⟨b, o + q * 3, none⟩ = some (.int .i64 (ts.getD q Ta.z).id) := (HBW.out.cell (p := ⟨b, o + q * 3, none⟩) hbw).trans (HRD.out q (by omega) 0 (by omega))
    have k1 : wr.cell? ⟨b, o + q * 3 + 1, none⟩ = some (.string (ts.getD q Ta.z).name) := (HBW.out.cell (p := ⟨b, o + q * 3 + 1, none⟩) hbw).trans (HRD.out q (by omega) 1 (by omega))
    have k2 : wr.cell? ⟨b, o + q * 3 + 2, none⟩ = some (tv q) := (HBW.out.cell (p := ⟨b, o + q * 3 + 2, none⟩) hbw).trans (HRD.out q (by omega) 2 (by omega))
    by_cases hqe : q = i
    · subst hqe
      rw [HTT.out] at k0 k1
      rw [HCQ.out] at k2
      have hcr := HCO.out
      rw [HCQ.out] at hcr
      have HCR := hid hcr
      have hb0 := HX0.out.below HB.out (by omega)
      have c0 := hb0.cell 0 rfl
      have c1 := hb0.cell 1 rfl
      have c2 := hb0.cell 2 rfl
      have f0 := hb0.frozen 0
      have f1 := hb0.frozen 1
      have f2 := hb0.frozen 2
      have hxz := hb0.lt
      clear hcr
      obtain ⟨id, nm, xs⟩ := t
      simp only at k0 k1 k2
      generalize xs.length = m at *
      have hbF := (((hb0.set 0 (.int .i64 id)).set 1 (.string nm)).set 2 (.slice ca m ck)).alloc (.cells #[.int .i64 id, .string nm, .slice ca m ck] 80)
      have d0 := hbF.cell 0 rfl
      have d1 := hbF.cell 1 rfl
      have d2 := hbF.cell 2 rfl
      have D0 := hid d0
      have D1 := hid d1
      have D2 := hid d2
      clear hb0 hbF d0 d1 d2
      go_wp2
      have d0 := D0.out
      have d1 := D1.out
      have d2 := D2.out
      refine bodyPost_ret (v := .tuple #[.agg #[.int .i64 id, .string nm, .slice ca m ck], .bool true]) (by simp [results, Tryd.results39, go_sem, d0, d1, d2]) rfl ⟨_, rfl, HCR.out, ?_⟩
      have := HBW.out
      repeat' (first | (with_reducible exact Below.refl _ _) | (with_reducible assumption) | (with_reducible refine below_drewN ?_) | (with_reducible refine Below.alloc ?_ ?_ _) | (with_reducible refine Below.drew ?_) | (with_reducible refine Below.setCell ?_ ?_ _) | (with_reducible refine Below.trans ?_ (Below.mono (by with_reducible assumption) ?_)) | go_size)
    · have hne := HU.out q (by omega)
      obtain ⟨ca', m', ck', hcq'⟩ := HSL.out q (by omega)
      rw [hcq'] at k2
      have hne2 : ((ts.getD q Ta.z).id == t.id) = false := by simpa using hne
      generalize ts.getD q Ta.z = t' at *
      obtain ⟨id', nm', xs'⟩ := t'
      simp only at k0 k1 hne2
      clear hne
      go_wp2
      go_roundg (gk - 1)
      case rel => exact ⟨q + 1, by omega, by omega, by go_num, hid (by have := HB.out; repeat' (first | (with_reducible exact Below.refl _ _) | (with_reducible assumption) | (with_reducible refine below_drewN ?_) | (with_reducible refine Below.alloc ?_ ?_ _) | (with_reducible refine Below.drew ?_) | (with_reducible refine Below.setCell ?_ ?_ _) | (with_reducible refine Below.trans ?_ (Below.mono (by with_reducible assumption) ?_)) | go_size))⟩
      case measure => omega

def GetP (w : World) (B : Nat) (x : Co) (e : Ending) (w' : World) : Prop :=
  ∃ u, e = .returned (.tuple #[.agg #[.string x.name, u], .bool true]) ∧ RdCl w (· < B) u x.cells ∧ Below w.heap.size w w'

set_option maxRecDepth 100000 in
set_option maxHeartbeats 1000000 in
theorem ref_Get (v : Value) (ts : List Ta) (B i k : Nat) (w : World) (hi : i < ts.length) (hu : ∀ j, j < i → (ts.getD j Ta.z).id ≠ (ts.getD i Ta.z).id) (hl : ts.length ≤ 1048576) (hk : k < (ts.getD i Ta.z).cols.length)
    (hv : RdTa w (· < B) v ts) (hB : B ≤ w.heap.size) :
    Calls Tryd.prog 27 #[v, .agg #[.int .i64 (ts.getD i Ta.z).id, .int .i64 (k : Int)]] w (GetP w B ((ts.getD i Ta.z).cols.getD k Co.z)) := by
  have HF := hid (fun W (hW : Below w.heap.size w W) => ref_Find v ts B i W hi hu hl (hv.keep fun p hp => hW.cell (by omega)) (by have := hW.size; omega))
  have HBACK := hid (fun W (hW : Below w.heap.size w W) u xs (h : RdCo W (· < B) u xs) => (h.keep fun p (hp : p.block < B) => (hW.cell (by omega)).symm : RdCo w (· < B) u xs))
  obtain ⟨a, c, rfl, -⟩ : ∃ a c, v = .slice a ts.length c ∧ True := by
    obtain ⟨tv, ⟨a, c, e, -⟩, -⟩ := hv
    exact ⟨a, c, e, trivial⟩
  clear hv hu
  generalize ts.getD i Ta.z = t at *
  obtain ⟨id, nm, xs⟩ := t
  simp only at hk
  generalize hx : xs.getD k Co.z = x at *
  have HX := hid hx
  clear hx
  generalize ts.length = L at *
  clear hi
  go_enter Tryd.func27, Tryd.ntmps27
  go_wp2_with fail
  have HR0 := hid ((BoxN.new w #[.int .i64 id, .int .i64 (k : Int)] 35).alloc (.cells #[.string ⟨#[]⟩, .slice none 0 0] 70))
  have hres := BoxN.new (w.alloc (.cells #[.int .i64 id, .int .i64 (k : Int)] 35)) #[.string ⟨#[]⟩, .slice none 0 0] 70
  simp only [World.size_alloc] at hres
  have HRES := hid hres
  have HB0 : Hid (Below w.heap.size w ((w.alloc (.cells #[.int .i64 id, .int .i64 (k : Int)] 35)).alloc (.cells #[.string ⟨#[]⟩, .slice none 0 0] 70))) := hid (by have := Below.refl w.heap.size w; repeat' (first | (with_reducible exact Below.refl _ _) | (with_reducible assumption) | (with_reducible refine below_drewN ?_) | (with_reducible refine Below.alloc ?_ ?_ _) | (with_reducible refine Below.drew ?_) | (with_reducible refine Below.setCell ?_ ?_ _) | (with_reducible refine Below.trans ?_ (Below.mono (by with_reducible assumption) ?_)) | go_size))
  have hz0 : ((w.alloc (.cells #[.int .i64 id, .int .i64 (k : Int)] 35)).alloc (.cells #[.string ⟨#[]⟩, .slice none 0 0] 70)).heap.size = w.heap.size + 2 := by simp
  clear hres
  with_reducible refine (HF.out _ HB0.out).mono ?_
  generalize ((w.alloc (.cells #[.int .i64 id, .int .i64 (k : Int)] 35)).alloc (.cells #[.string ⟨#[]⟩, .slice none 0 0] 70)) = W0 at *
  rintro e w1 ⟨u, rfl, hru, hb1⟩
  have HBW := hid (HB0.out.trans (hb1.mono (by omega)))
  have HR1 := hid (HR0.out.below hb1 (by omega))
  have HRES1 := hid (HRES.out.below hb1 (by omega))
  have hru2 := HBACK.out _ HB0.out _ _ hru
  obtain ⟨cv, ⟨ca, ck, rfl, hck, hcm, hrd⟩, hcl⟩ := hru2
  obtain ⟨b2, o2, rfl, hb2, hcell⟩ := hrd (by show 0 < xs.length; omega)
  have hb2' : b2 < B := hb2
  have hbw2 : b2 < w.heap.size := by omega
  have HCL := hid (hcl k hk)
  obtain ⟨da, dk, hdv, -⟩ : ∃ da dk, cv k = .slice da (xs.getD k Co.z).cells.length dk ∧ True := by
    obtain ⟨da, dk, e, -⟩ := hcl k hk
    exact ⟨da, dk, e, trivial⟩
  have k0 : w1.cell? ⟨b2, o2 + k * 2, none⟩ = some (.string x.name) := (HBW.out.cell (p := ⟨b2, o2 + k * 2, none⟩) hbw2).trans ((hcell k hk 0 (by omega)).trans (by rw [← HX.out]; rfl))
  have k1 : w1.cell? ⟨b2, o2 + k * 2 + 1, none⟩ = some (cv k) := (HBW.out.cell (p := ⟨b2, o2 + k * 2 + 1, none⟩) hbw2).trans (hcell k hk 1 (by omega))
  rw [hdv] at k1 HCL
  rw [HX.out] at k1 HCL
  have hwz := HBW.out.size
  have hrz := HRES1.out.lt
  clear hrd hcell hcl hdv hru hb1
  generalize hxl : xs.length = m at *
  have HXL := hid hxl
  clear hxl
  obtain ⟨xn, xc⟩ := x
  simp only at k0 k1
  generalize hxcl : xc.length = n at *
  have HXC := hid hxcl
  clear hxcl
  unfold maxLen at hcm
  have HT := hid (HR1.out.alloc (.cells #[.int .i64 id, .string nm, .slice (some ⟨b2, o2, none⟩) m ck] 80))
  have HU := hid (HRES1.out.alloc (.cells #[.int .i64 id, .string nm, .slice (some ⟨b2, o2, none⟩) m ck] 80))
  have r0 := HR1.out.cell 0 rfl
  have r1 := HR1.out.cell 1 rfl
  have s1 := HT.out.cell 1 rfl
  have c0 := HRES1.out.cell 0 rfl
  have c1 := HRES1.out.cell 1 rfl
  have f0 := HRES1.out.frozen 0
  have f1 := HRES1.out.frozen 1
  have g0 := HU.out.cell 0 rfl
  have g1 := HU.out.cell 1 rfl
  have h0 := HU.out.frozen 0
  have h1 := HU.out.frozen 1
  have hkm : (k : Int) < (m : Int) := by omega
  have hk0 : decide ((k : Int) < 0) = false := decide_eq_false (by omega)
  have hk1 : decide (m ≤ k) = false := decide_eq_false (by omega)
  have hk2 : decide ((m : Int) ≤ (k : Int)) = false := decide_eq_false (by omega)
  have m0 : (w1.alloc (.cells #[.int .i64 id, .string nm, .slice (some ⟨b2, o2, none⟩) m ck] 80)).cell? ⟨b2, o2 + k * 2, none⟩ = some (.string xn) := (World.cell?_alloc_lt _ _ _ (by show b2 < _; omega)).trans k0
  have m1 : (w1.alloc (.cells #[.int .i64 id, .string nm, .slice (some ⟨b2, o2, none⟩) m ck] 80)).cell? ⟨b2, o2 + k * 2 + 1, none⟩ = some (.slice da n dk) := (World.cell?_alloc_lt _ _ _ (by show b2 < _; omega)).trans k1
  have hbF := ((HRES1.out.set 0 (.string xn)).set 1 (.slice da n dk)).alloc (.cells #[.int .i64 id, .string nm, .slice (some ⟨b2, o2, none⟩) m ck] 80)
  have D0 := hid (hbF.cell 0 rfl)
  have D1 := hid (hbF.cell 1 rfl)
  clear hbF
  go_wp2
  have d0 := D0.out
  have d1 := D1.out
  refine bodyPost_ret (v := .tuple #[.agg #[.string xn, .slice da n dk], .bool true]) (by simp [results, Tryd.results27, go_sem, d0, d1]) rfl ⟨_, rfl, by have := HCL.out; exact this, ?_⟩
  have := HBW.out
  repeat' (first | (with_reducible exact Below.refl _ _) | (with_reducible assumption) | (with_reducible refine below_drewN ?_) | (with_reducible refine Below.alloc ?_ ?_ _) | (with_reducible refine Below.drew ?_) | (with_reducible refine Below.setCell ?_ ?_ _) | (with_reducible refine Below.trans ?_ (Below.mono (by with_reducible assumption) ?_)) | go_size)

end Go.Proofs.YtabemneoobbnaaaDoor
