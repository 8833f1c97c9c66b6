/- Contracts of the reference's Find, Get (tables), Values. Contract of the reference's Values of a column. -/
import Derived.Test.YtabemneoobbnaaaGreatDoorNd
namespace Go.Proofs.YtabemneoobbnaaaGreatDoor
open Go.RowKit

def FindP (w : World) (B : Nat) (t : Ta) (e : Ending) (w' : World) : Prop :=
  ∃ u, e = .returned (.tuple #[.agg #[.int .i64 t.id, .string t.name, u], .bool true]) ∧ RdCo w (· < B) u t.cols ∧ Below w.heap.size w w'

set_option maxRecDepth 100000 in
set_option maxHeartbeats 1000000 in
theorem ref_Find (v : Value) (ts : List Ta) (B i : Nat) (w : World) (hi : i < ts.length) (hu : ∀ j, j < i → (ts.getD j Ta.z).id ≠ (ts.getD i Ta.z).id) (hl : ts.length ≤ 1048576) (hv : RdTa w (· < B) v ts) (hB : B ≤ w.heap.size) :
    Calls Tryz.prog 50 #[v, .int .i64 (ts.getD i Ta.z).id] w (FindP w B (ts.getD i Ta.z)) := by
  obtain ⟨tv, htv, hco⟩ := hv
  obtain ⟨a, k, rfl, hk, hm, hrd⟩ := htv
  obtain ⟨b, o, rfl, hb, hcell⟩ := hrd (by omega)
  have hbw : b < w.heap.size := by omega
  have HRD := hid hcell
  have HCO := hid (hco i hi)
  have HSL : Hid (∀ q, q < ts.length → ∃ ca m ck, tv q = .slice ca m ck) := hid (fun q hq => by
    obtain ⟨cv, ⟨ca, ck, e, -⟩, -⟩ := hco q hq
    exact ⟨ca, _, ck, e⟩)
  have HU := hid hu
  clear hcell hco hu hrd
  generalize htt : ts.getD i Ta.z = t at *
  have HTT := hid htt
  clear htt
  generalize hxl : ts.length = L at *
  clear hxl
  unfold maxLen at hm
  obtain ⟨ca, ck, hcq⟩ : ∃ ca ck, tv i = .slice ca t.cols.length ck := by
    obtain ⟨cv, ⟨ca, ck, e, -⟩, -⟩ := HCO.out
    exact ⟨ca, ck, e⟩
  have HCQ := hid hcq
  clear hcq
  go_enter Tryz.func50, Tryz.ntmps50
  generalize hLA : Code.loop _ = LA
  go_wp2_with fail
  have HX0 := hid (BoxN.new w #[.int .i64 0, .string ⟨#[]⟩, .slice none 0 0] 84)
  have HB0 := hid ((Below.refl w.heap.size w).alloc (Nat.le_refl _) (.cells #[.int .i64 0, .string ⟨#[]⟩, .slice none 0 0] 84))
  have hz0 : (w.alloc (.cells #[.int .i64 0, .string ⟨#[]⟩, .slice none 0 0] 84)).heap.size = w.heap.size + 1 := by simp
  generalize w.alloc (.cells #[.int .i64 0, .string ⟨#[]⟩, .slice none 0 0] 84) = W0 at *
  subst hLA
  go_loopg [10] (i + 1) (fun N c wr => ∃ q : Nat, q + N = i + 1 ∧ q ≤ i ∧ c = .int .i64 (q : Int) ∧ Hid (Below W0.heap.size W0 wr))
  case atStart => exact ⟨0, by omega, by omega, rfl, hid (Below.refl _ _)⟩
  case round =>
    obtain ⟨q, hq, hqi, rfl, HB⟩ := hrel
    have hwz := HB.out.size
    have HBW := hid (HB0.out.trans (HB.out.mono (by omega)))
    have k0 : wr.cell? ⟨b, o + q * 3, none⟩ = some (.int .i64 (ts.getD q Ta.z).id) := (HBW.out.cell (p := ⟨b, o + q * 3, none⟩) hbw).trans (HRD.out q (by omega) 0 (by omega))
    have k1 : wr.cell? ⟨b, o + q * 3 + 1, none⟩ = some (.string (ts.getD q Ta.z).name) := (HBW.out.cell (p := ⟨b, o + q * 3 + 1, none⟩) hbw).trans (HRD.out q (by omega) 1 (by omega))
    have k2 : wr.cell? ⟨b, o + q * 3 + 2, none⟩ = some (tv q) := (HBW.out.cell (p := ⟨b, o + q * 3 + 2, none⟩) hbw).trans (HRD.out q (by omega) 2 (by omega))
    by_cases hqe : q = i
    · subst hqe
      rw [HTT.out] at k0 k1
      rw [HCQ.out] at k2
      have hcr := HCO.out
      rw [HCQ.out] at hcr
      have HCR := hid hcr
      have hb0 := HX0.out.below HB.out (by omega)
      have c0 := hb0.cell 0 rfl
      have c1 := hb0.cell 1 rfl
      have c2 := hb0.cell 2 rfl
      have f0 := hb0.frozen 0
      have f1 := hb0.frozen 1
      have f2 := hb0.frozen 2
      have hxz := hb0.lt
      clear hcr
      obtain ⟨id, nm, xs⟩ := t
      simp only at k0 k1 k2
      generalize xs.length = m at *
      have hbF := (((hb0.set 0 (.int .i64 id)).set 1 (.string nm)).set 2 (.slice ca m ck)).alloc (.cells #[.int .i64 id, .string nm, .slice ca m ck] 84)
      have d0 := hbF.cell 0 rfl
      have d1 := hbF.cell 1 rfl
      have d2 := hbF.cell 2 rfl
      have D0 := hid d0
      have D1 := hid d1
      have D2 := hid d2
      clear hb0 hbF d0 d1 d2
      go_wp2
      have d0 := D0.out
      have d1 := D1.out
      have d2 := D2.out
      refine bodyPost_ret (v := .tuple #[.agg #[.int .i64 id, .string nm, .slice ca m ck], .bool true]) (by simp [results, Tryz.results50, go_sem, d0, d1, d2]) rfl ⟨_, rfl, HCR.out, ?_⟩
      have := HBW.out
      repeat' (first | (with_reducible exact Below.refl _ _) | (with_reducible assumption) | (with_reducible refine below_drewN ?_) | (with_reducible refine Below.alloc ?_ ?_ _) | (with_reducible refine Below.drew ?_) | (with_reducible refine Below.setCell ?_ ?_ _) | (with_reducible refine Below.trans ?_ (Below.mono (by with_reducible assumption) ?_)) | go_size)
    · have hne := HU.out q (by omega)
      obtain ⟨ca', m', ck', hcq'⟩ := HSL.out q (by omega)
      rw [hcq'] at k2
      have hne2 : ((ts.getD q Ta.z).id == t.id) = false := by simpa using hne
      generalize ts.getD q Ta.z = t' at *
      obtain ⟨id', nm', xs'⟩ := t'
      simp only at k0 k1 hne2
      clear hne
      go_wp2
      go_roundg (gk - 1)
      case rel => exact ⟨q + 1, by omega, by omega, by go_num, hid (by have := HB.out; repeat' (first | (with_reducible exact Below.refl _ _) | (with_reducible assumption) | (with_reducible refine below_drewN ?_) | (with_reducible refine Below.alloc ?_ ?_ _) | (with_reducible refine Below.drew ?_) | (with_reducible refine Below.setCell ?_ ?_ _) | (with_reducible refine Below.trans ?_ (Below.mono (by with_reducible assumption) ?_)) | go_size))⟩
      case measure => omega

def GetP (w : World) (B : Nat) (x : Co) (e : Ending) (w' : World) : Prop :=
  ∃ u, e = .returned (.tuple #[.agg #[.string x.name, u], .bool true]) ∧ RdCl w (· < B) u x.cells ∧ Below w.heap.size w w'

set_option maxRecDepth 100000 in
set_option maxHeartbeats 1000000 in
theorem ref_Get (v : Value) (ts : List Ta) (B i k : Nat) (w : World) (hi : i < ts.length) (hu : ∀ j, j < i → (ts.getD j Ta.z).id ≠ (ts.getD i Ta.z).id) (hl : ts.length ≤ 1048576) (hk : k < (ts.getD i Ta.z).cols.length)
    (hv : RdTa w (· < B) v ts) (hB : B ≤ w.heap.size) :
    Calls Tryz.prog 20 #[v, .agg #[.int .i64 (ts.getD i Ta.z).id, .int .i64 (k : Int)]] w (GetP w B ((ts.getD i Ta.z).cols.getD k Co.z)) := by
  have HF := hid (fun W (hW : Below w.heap.size w W) => ref_Find v ts B i W hi hu hl (hv.keep fun p hp => hW.cell (by omega)) (by have := hW.size; omega))
  have HBACK := hid (fun W (hW : Below w.heap.size w W) u xs (h : RdCo W (· < B) u xs) => (h.keep fun p (hp : p.block < B) => (hW.cell (by omega)).symm : RdCo w (· < B) u xs))
  obtain ⟨a, c, rfl, -⟩ : ∃ a c, v = .slice a ts.length c ∧ True := by
    obtain ⟨tv, ⟨a, c, e, -⟩, -⟩ := hv
    exact ⟨a, c, e, trivial⟩
  clear hv hu
  generalize ts.getD i Ta.z = t at *
  obtain ⟨id, nm, xs⟩ := t
  simp only at hk
  generalize hx : xs.getD k Co.z = x at *
  have HX := hid hx
  clear hx
  generalize ts.length = L at *
  clear hi
  go_enter Tryz.func20, Tryz.ntmps20
  go_wp2_with fail
  have HR0 := hid ((BoxN.new w #[.int .i64 id, .int .i64 (k : Int)] 47).alloc (.cells #[.string ⟨#[]⟩, .slice none 0 0] 52))
  have hres := BoxN.new (w.alloc (.cells #[.int .i64 id, .int .i64 (k : Int)] 47)) #[.string ⟨#[]⟩, .slice none 0 0] 52
  simp only [World.size_alloc] at hres
  have HRES := hid hres
  have HB0 : Hid (Below w.heap.size w ((w.alloc (.cells #[.int .i64 id, .int .i64 (k : Int)] 47)).alloc (.cells #[.string ⟨#[]⟩, .slice none 0 0] 52))) := hid (by have := Below.refl w.heap.size w; repeat' (first | (with_reducible exact Below.refl _ _) | (with_reducible assumption) | (with_reducible refine below_drewN ?_) | (with_reducible refine Below.alloc ?_ ?_ _) | (with_reducible refine Below.drew ?_) | (with_reducible refine Below.setCell ?_ ?_ _) | (with_reducible refine Below.trans ?_ (Below.mono (by with_reducible assumption) ?_)) | go_size))
  have hz0 : ((w.alloc (.cells #[.int .i64 id, .int .i64 (k : Int)] 47)).alloc (.cells #[.string ⟨#[]⟩, .slice none 0 0] 52)).heap.size = w.heap.size + 2 := by simp
  clear hres
  with_reducible refine (HF.out _ HB0.out).mono ?_
  generalize ((w.alloc (.cells #[.int .i64 id, .int .i64 (k : Int)] 47)).alloc (.cells #[.string ⟨#[]⟩, .slice none 0 0] 52)) = W0 at *
  rintro e w1 ⟨u, rfl, hru, hb1⟩
  have HBW := hid (HB0.out.trans (hb1.mono (by omega)))
  have HR1 := hid (HR0.out.below hb1 (by omega))
  have HRES1 := hid (HRES.out.below hb1 (by omega))
  have hru2 := HBACK.out _ HB0.out _ _ hru
  obtain ⟨cv, ⟨ca, ck, rfl, hck, hcm, hrd⟩, hcl⟩ := hru2
  obtain ⟨b2, o2, rfl, hb2, hcell⟩ := hrd (by show 0 < xs.length; omega)
  have hb2' : b2 < B := hb2
  have hbw2 : b2 < w.heap.size := by omega
  have HCL := hid (hcl k hk)
  obtain ⟨da, dk, hdv, -⟩ : ∃ da dk, cv k = .slice da (xs.getD k Co.z).cells.length dk ∧ True := by
    obtain ⟨da, dk, e, -⟩ := hcl k hk
    exact ⟨da, dk, e, trivial⟩
  have k0 : w1.cell? ⟨b2, o2 + k * 2, none⟩ = some (.string x.name) := (HBW.out.cell (p := ⟨b2, o2 + k * 2, none⟩) hbw2).trans ((hcell k hk 0 (by omega)).trans (by rw [← HX.out]; rfl))
  have k1 : w1.cell? ⟨b2, o2 + k * 2 + 1, none⟩ = some (cv k) := (HBW.out.cell (p := ⟨b2, o2 + k * 2 + 1, none⟩) hbw2).trans (hcell k hk 1 (by omega))
  rw [hdv] at k1 HCL
  rw [HX.out] at k1 HCL
  have hwz := HBW.out.size
  have hrz := HRES1.out.lt
  clear hrd hcell hcl hdv hru hb1
  generalize hxl : xs.length = m at *
  have HXL := hid hxl
  clear hxl
  obtain ⟨xn, xc⟩ := x
  simp only at k0 k1
  generalize hxcl : xc.length = n at *
  have HXC := hid hxcl
  clear hxcl
  unfold maxLen at hcm
  have HT := hid (HR1.out.alloc (.cells #[.int .i64 id, .string nm, .slice (some ⟨b2, o2, none⟩) m ck] 84))
  have HU := hid (HRES1.out.alloc (.cells #[.int .i64 id, .string nm, .slice (some ⟨b2, o2, none⟩) m ck] 84))
  have r0 := HR1.out.cell 0 rfl
  have r1 := HR1.out.cell 1 rfl
  have s1 := HT.out.cell 1 rfl
  have c0 := HRES1.out.cell 0 rfl
  have c1 := HRES1.out.cell 1 rfl
  have f0 := HRES1.out.frozen 0
  have f1 := HRES1.out.frozen 1
  have g0 := HU.out.cell 0 rfl
  have g1 := HU.out.cell 1 rfl
  have h0 := HU.out.frozen 0
  have h1 := HU.out.frozen 1
  have hkm : (k : Int) < (m : Int) := by omega
  have hk0 : decide ((k : Int) < 0) = false := decide_eq_false (by omega)
  have hk1 : decide (m ≤ k) = false := decide_eq_false (by omega)
  have hk2 : decide ((m : Int) ≤ (k : Int)) = false := decide_eq_false (by omega)
  have m0 : (w1.alloc (.cells #[.int .i64 id, .string nm, .slice (some ⟨b2, o2, none⟩) m ck] 84)).cell? ⟨b2, o2 + k * 2, none⟩ = some (.string xn) := (World.cell?_alloc_lt _ _ _ (by show b2 < _; omega)).trans k0
  have m1 : (w1.alloc (.cells #[.int .i64 id, .string nm, .slice (some ⟨b2, o2, none⟩) m ck] 84)).cell? ⟨b2, o2 + k * 2 + 1, none⟩ = some (.slice da n dk) := (World.cell?_alloc_lt _ _ _ (by show b2 < _; omega)).trans k1
  have hbF := ((HRES1.out.set 0 (.string xn)).set 1 (.slice da n dk)).alloc (.cells #[.int .i64 id, .string nm, .slice (some ⟨b2, o2, none⟩) m ck] 84)
  have D0 := hid (hbF.cell 0 rfl)
  have D1 := hid (hbF.cell 1 rfl)
  clear hbF
  go_wp2
  have d0 := D0.out
  have d1 := D1.out
  refine bodyPost_ret (v := .tuple #[.agg #[.string xn, .slice da n dk], .bool true]) (by simp [results, Tryz.results20, go_sem, d0, d1]) rfl ⟨_, rfl, by have := HCL.out; exact this, ?_⟩
  have := HBW.out
  repeat' (first | (with_reducible exact Below.refl _ _) | (with_reducible assumption) | (with_reducible refine below_drewN ?_) | (with_reducible refine Below.alloc ?_ ?_ _) | (with_reducible refine Below.drew ?_) | (with_reducible refine Below.setCell ?_ ?_ _) | (with_reducible refine Below.trans ?_ (Below.mono (by with_reducible assumption) ?_)) | go_size)

end Go.Proofs.YtabemneoobbnaaaGreatDoor

namespace Go.Proofs.YtabemneoobbnaaaGreatDoor
open Go.RowKit

/-- the texts of the cells that are not null, and their set -/
def textsL (cs : List Cl) : List ByteArray := (cs.filter fun c => !c.null).map Cl.text
def valuesL (cs : List Cl) : List ByteArray := setOfL (textsL cs)
theorem texts_take {cs : List Cl} {k : Nat} (h : k < cs.length) : textsL (cs.take (k + 1)) = if (cs.getD k Cl.z).null = true then textsL (cs.take k) else textsL (cs.take k) ++ [(cs.getD k Cl.z).text] := by
  unfold textsL
  rw [List.take_succ_eq_append_getElem h, List.filter_append, List.map_append]
  have e : cs.getD k Cl.z = cs[k] := by simp [List.getD, h]
  rw [e, List.filter_cons, List.filter_nil]
  cases h2 : cs[k].null <;> simp [h2]
theorem texts_len (cs : List Cl) : (textsL cs).length ≤ cs.length := by
  unfold textsL; rw [List.length_map]; exact List.length_filter_le _ _
theorem texts_take_len (cs : List Cl) (k : Nat) : (textsL (cs.take k)).length ≤ k := Nat.le_trans (texts_len _) (List.length_take_le _ _)
theorem values_len (cs : List Cl) : (valuesL cs).length ≤ cs.length := Nat.le_trans (setOfL_len _) (texts_len _)

set_option maxRecDepth 100000 in
set_option maxHeartbeats 1000000 in
theorem ref_Values (nm : ByteArray) (cs : List Cl) (v : Value) (B : Nat) (w : World) (hv : RdCl w (· < B) v cs) (hB : B ≤ w.heap.size) (hl : cs.length ≤ 1048576) :
    Calls Tryz.prog 21 #[.agg #[.string nm, v]] w (GivesS w (valuesL cs)) := by
  obtain ⟨a, k, rfl, hk, hm, hrd⟩ := hv
  obtain ⟨i0, hi, hz0, hz1, hz2⟩ := info_parts info_str
  have HRD := hid hrd
  have HTK := hid (fun q h => @texts_take cs q h)
  have HTL := hid (fun q => texts_take_len cs q)
  have HFIN : Hid (valuesL cs = setOfL (textsL (cs.take cs.length))) := hid (by rw [List.take_length]; rfl)
  clear hrd
  generalize valuesL cs = F at *
  generalize hcl : cs.length = L at *
  have HCL := hid hcl
  clear hcl
  unfold maxLen at hm
  go_enter Tryz.func21, Tryz.ntmps21
  go_wp2_with fail
  go_loopg [3, 9] L (fun N v i wr => ∃ q : Nat, q + N = L ∧ i = .int .i64 (q : Int) ∧ Hid (Below w.heap.size w wr ∧ wr.ownsRow w.heap.size 9 1 v (textsL (cs.take q)).length ((textsL (cs.take q)).map Value.string)))
  case atStart => exact ⟨0, by omega, rfl, hid ⟨by have := Below.refl w.heap.size w; repeat' (first | (with_reducible exact Below.refl _ _) | (with_reducible assumption) | (with_reducible refine below_drewN ?_) | (with_reducible refine Below.alloc ?_ ?_ _) | (with_reducible refine Below.drew ?_) | (with_reducible refine Below.setCell ?_ ?_ _) | (with_reducible refine Below.trans ?_ (Below.mono (by with_reducible assumption) ?_)) | go_size), World.ownsRow_nil _ _ _ _⟩⟩
  case round =>
    obtain ⟨q, hq, rfl, HST⟩ := hrel
    obtain ⟨a3, c3, rfl⟩ := own_slice HST.out.2
    by_cases hp : 0 < gk
    · obtain ⟨b, o, rfl, hb, hcell⟩ := HRD.out (by omega)
      have hb' : b < B := hb
      have hbw : b < w.heap.size := by omega
      have hwz := HST.out.1.size
      have k0 : wr.cell? ⟨b, o + q * 2, none⟩ = some (.bool (cs.getD q Cl.z).null) := (HST.out.1.cell (p := ⟨b, o + q * 2, none⟩) hbw).trans (hcell q (by omega) 0 (by omega))
      have k1 : wr.cell? ⟨b, o + q * 2 + 1, none⟩ = some (.string (cs.getD q Cl.z).text) := (HST.out.1.cell (p := ⟨b, o + q * 2 + 1, none⟩) hbw).trans (hcell q (by omega) 1 (by omega))
      have HNX := hid (HTK.out q (by have := HCL.out; omega))
      have hql := HTL.out q
      generalize textsL (cs.take q) = acc at *
      clear hcell
      generalize cs.getD q Cl.z = c at *
      obtain ⟨nl, s⟩ := c
      simp only at k0 k1
      cases nl
      · have hown3 := HST.out.2.alloc (.cells #[.bool false, .string s] 81)
        have HB3 : Hid (Below w.heap.size w (wr.alloc (.cells #[.bool false, .string s] 81))) := hid (HST.out.1.alloc hwz _)
        have hz3 : (wr.alloc (.cells #[.bool false, .string s] 81)).heap.size = wr.heap.size + 1 := by simp
        generalize hal : acc.length = n at *
        have HAL := hid hal
        clear hal
        go_wp2_with (at_builtin; refine wpList_append_own _ rfl _ _ 26 rfl (w.heap.size) 9 i0 (.string ⟨#[]⟩) 1 16 Tryz.underlying26 hi hz0 hz1 hz2 rfl (by decide) _ _ _ rfl (hown3.alloc _) ⟨_, 0, none⟩ 1 1 [(.string s)] rfl rfl (cell_one_at _ _ (by simp)) (by intro u hu; simp at hu; subst hu; rfl) (by unfold maxLen; omega) (by omega) (by simp; omega) ?_)
        intro v' w4 hown4 hgrow _
        have HB4 : Hid (Below w.heap.size w w4) := hid (push_below HB3.out (by omega) hown3 hgrow)
        have e4 : acc.map Value.string ++ [.string s] = (acc ++ [s]).map Value.string := by simp
        rw [e4] at hown4
        have HO4 := hid hown4
        clear e4 hown4 hgrow hown3
        go_wp2
        go_roundg (gk - 1)
        case rel => exact ⟨q + 1, by omega, by go_num, hid ⟨HB4.out, by rw [HNX.out, if_neg (by simp), List.length_append, List.length_singleton, HAL.out]; exact HO4.out⟩⟩
        case measure => omega
      · have HB3 : Hid (Below w.heap.size w (wr.alloc (.cells #[.bool true, .string s] 81))) := hid (HST.out.1.alloc hwz _)
        have HO3 := hid (HST.out.2.alloc (.cells #[.bool true, .string s] 81))
        have HNX2 : Hid (textsL (cs.take (q + 1)) = acc) := hid (by rw [HNX.out, if_pos rfl])
        generalize hal : acc.length = n at *
        have HAL := hid hal
        clear hal
        go_wp2
        go_roundg (gk - 1)
        case rel => exact ⟨q + 1, by omega, by go_num, hid ⟨HB3.out, by rw [HNX2.out, HAL.out]; exact HO3.out⟩⟩
        case measure => omega
    · obtain rfl : q = L := by omega
      have hql := HTL.out q
      have HR : Hid (RdS wr wr.heap.size (.slice a3 (textsL (cs.take q)).length c3) (textsL (cs.take q))) := hid (rdS_of_own HST.out.2)
      have hwz := HST.out.1.size
      have HSET := hid (ref_Set _ _ _ wr HR.out (Nat.le_refl _) (by omega))
      rw [← HFIN.out] at HSET
      generalize (textsL (cs.take q)).length = n at *
      go_wp2_with fail
      with_reducible refine HSET.out.mono ?_
      rintro e w5 ⟨a5, c5, rfl, hown5, hb5⟩
      have HFI : Hid (GivesS w F (.returned (.slice a5 F.length c5)) w5) := hid ⟨a5, c5, rfl, own_base hown5 hwz, HST.out.1.trans (hb5.mono hwz)⟩
      generalize F.length = n2 at *
      go_wp2
      go_ret
      exact HFI.out

end Go.Proofs.YtabemneoobbnaaaGreatDoor
