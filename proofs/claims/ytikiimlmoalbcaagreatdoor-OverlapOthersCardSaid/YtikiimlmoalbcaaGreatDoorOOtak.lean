/- Contract of ref18.Values. Contract of ref18.columns. -/
import Derived.Test.YtikiimlmoalbcaaGreatDoorOOtaj
import Derived.Test.YtikiimlmoalbcaaGreatDoorOOtai
set_option linter.unusedVariables false
set_option linter.unusedSimpArgs false
namespace Go.Proofs.YtikiimlmoalbcaaGreatDoor
open Go.RowKit
set_option maxRecDepth 100000 in
set_option maxHeartbeats 4000000 in
theorem ref18_Values (cs : List Cv) (hok : CvsOk cs) (ev vv lv : Value) (B i : Nat) (w : World) (hi : i < cs.length) (hx : RdIx w (· < B) ev vv lv (indexOf cs)) (hB : B ≤ w.heap.size) :
  Calls Tryz.prog 34 #[.agg #[ev, vv, lv], .int .i64 (i : Int)] w (GivesS w (cs.getD i Cv.z).2) := by
 obtain ⟨i0, hi0, hz0, hz1, hz2⟩ := info_parts info_str
 obtain ⟨⟨ea, ec, rfl, -⟩, ⟨va, vc, rfl, hvc, hvm, hvr⟩, lf, ⟨la, lc, rfl, hlc, hlm, hlr⟩, hkids⟩ := hx
 have hll : (indexOf cs).lists.length = (setOfL (allOf cs)).length := by simp [indexOf]
 have hvl : (indexOf cs).vals.length = (setOfL (allOf cs)).length := rfl
 have HLR := hid hlr
 have HVR : Hid (∀ q, q < (setOfL (allOf cs)).length → ∃ b o, va = some ⟨b, o, none⟩ ∧ b < B ∧ w.cell? ⟨b, o + q, none⟩ = some (.string ((setOfL (allOf cs)).getD q ⟨#[]⟩))) := hid (fun q hq => by
  obtain ⟨b, o, e3, hb, hc⟩ := hvr (by rw [hvl]; omega)
  have h4 := hc q (by rw [hvl]; exact hq) 0 (by omega)
  simp only [Nat.mul_one, Nat.add_zero] at h4
  exact ⟨b, o, e3, hb, h4⟩)
 have HKI := hid (fun q (hq : q < (setOfL (allOf cs)).length) => (show InN w (· < B) (lf q) (listOfV cs ((setOfL (allOf cs)).getD q ⟨#[]⟩)) from by
  have h1 := hkids q (by rw [hll]; exact hq)
  rwa [show (indexOf cs).lists.getD q [] = listOfV cs ((setOfL (allOf cs)).getD q ⟨#[]⟩) from by simp [indexOf, List.getD, hq]] at h1))
 have HCT := hid (fun s => @listOfV_count cs s i hi)
 have HLN := hid (fun s => listOfV_len cs s)
 have HFIN : Hid (((setOfL (allOf cs)).take (setOfL (allOf cs)).length).filter (hasL (cs.getD i Cv.z).2) = (cs.getD i Cv.z).2) := hid (by rw [List.take_length]; exact vals_filter hok hi)
 have hvals : (setOfL (allOf cs)).length ≤ 268435456 := by
  have h1 := setOfL_len (allOf cs)
  have h2 := all_len (m := 4096) hok.len
  have h3 := hok.many
  have h4 : cs.length * 4096 ≤ 65536 * 4096 := Nat.mul_le_mul_right _ h3
  omega
 have hmany := hok.many
 rw [hll] at HLR hlc ⊢
 rw [hvl] at hvc ⊢
 clear hlr hvr hkids hll hvl hok
 have HFT := hid (fun q (h : q < (setOfL (allOf cs)).length) => filter_take (hasL (cs.getD i Cv.z).2) h)
 have HFL := hid (fun q => (show (((setOfL (allOf cs)).take q).filter (hasL (cs.getD i Cv.z).2)).length ≤ q from Nat.le_trans (List.length_filter_le _ _) (List.length_take_le _ _)))
 generalize (cs.getD i Cv.z).2 = X at *
 generalize hvs : setOfL (allOf cs) = vs at *
 clear hvs
 generalize hnv : vs.length = n at *
 have HNV := hid hnv
 clear hnv
 generalize (indexOf cs).ents.length = n1 at *
 unfold maxLen at hlm
 have hx0 := BoxN.new w #[.slice ea n1 ec, .slice va n vc, .slice la n lc] 30
 have x1 := hx0.cell 2 rfl
 have HX0 := hid hx0
 have HB0 := hid ((Below.refl w.heap.size w).alloc (Nat.le_refl _) (.cells #[.slice ea n1 ec, .slice va n vc, .slice la n lc] 30))
 clear hx0
 go_enter Tryz.func34, Tryz.ntmps34
 go_wp2_with fail
 clear x1
 generalize w.alloc (.cells #[.slice ea n1 ec, .slice va n vc, .slice la n lc] 30) = W0 at *
 go_loopg [13, 5, 6, 7, 9, 18, 19, 20] n (fun N j0 v u1 u2 u3 u4 u5 u6 wr => ∃ q : Nat, q + N = n ∧ j0 = .int .i64 (q : Int) ∧ Hid (Below w.heap.size w wr ∧ BoxN wr w.heap.size 30 #[.slice ea n1 ec, .slice va n vc, .slice la n lc] ∧ wr.ownsRow (w.heap.size + 1) 9 1 v ((vs.take q).filter (hasL X)).length (((vs.take q).filter (hasL X)).map Value.string)))
 case atStart => exact ⟨0, by omega, rfl, hid ⟨HB0.out, HX0.out, World.ownsRow_nil _ _ _ _⟩⟩
 case round =>
  obtain ⟨q, hq, rfl, HST⟩ := hrel
  obtain ⟨oa, oc, rfl⟩ := own_slice HST.out.2.2
  have hwz := HST.out.1.size
  have hxz := HST.out.2.1.lt
  have hfl := HFL.out q
  by_cases hp : 0 < gk
  ·obtain ⟨b, o, rfl, hb, hcell⟩ := HLR.out (by omega)
   have hbw : b < w.heap.size := by have : b < B := hb; omega
   obtain ⟨b2, o2, rfl, hb2, hs2⟩ := HVR.out q (by omega)
   obtain ⟨qa, qc, hlq, hq1, hq2, hq3⟩ := HKI.out q (by omega)
   have k0 : wr.cell? ⟨b, o + q, none⟩ = some (lf q) := (HST.out.1.cell (p := ⟨b, o + q, none⟩) hbw).trans (by have := hcell q (by omega) 0 (by omega); simpa using this)
   have HS2 := hid (fun W (hW : Below w.heap.size w W) => (hW.cell (p := ⟨b2, o2 + q, none⟩) (by show b2 < _; omega)).trans hs2)
   have HFQ := hid (HFT.out q (by omega))
   have HCQ := hid (HCT.out (vs.getD q ⟨#[]⟩))
   have hlnq := HLN.out (vs.getD q ⟨#[]⟩)
   rw [hlq] at k0
   have HQ3 := hid hq3
   clear hcell hlq hs2 hq3
   generalize listOfV cs (vs.getD q ⟨#[]⟩) = L at *
   generalize vs.getD q ⟨#[]⟩ = s at *
   generalize hcur : (vs.take q).filter (hasL X) = cur at *
   have hqn : (q : Int) < (n : Int) := by omega
   clear hcur
   obtain ⟨ll, hll⟩ : ∃ ll, ll = L.length := ⟨_, rfl⟩
   have HLL := hid hll
   rw [← hll] at k0 hlnq HQ3
   clear hll
   obtain ⟨wo, hwo⟩ : ∃ wo, wo = wr := ⟨wr, rfl⟩
   obtain ⟨ko, hko⟩ : ∃ ko, ko = gk := ⟨gk, rfl⟩
   have HKO := hid hko
   clear hko hwo
   generalize hLC : Code.loop _ = LC
   go_wp2_with fail
   clear k0
   subst hLC
   go_loopg [20, 5, 9] ll (fun N j0 v u wr => ∃ k : Nat, k + N = ll ∧ j0 = .int .i64 (k : Int) ∧ Hid (Below w.heap.size w wr ∧ BoxN wr w.heap.size 30 #[.slice ea n1 ec, .slice (some ⟨b2, o2, none⟩) n vc, .slice (some ⟨b, o, none⟩) n lc] ∧ wr.ownsRow (w.heap.size + 1) 9 1 v (cur ++ List.replicate ((L.take k).count i) s).length ((cur ++ List.replicate ((L.take k).count i) s).map Value.string)))
   case atStart => exact ⟨0, by omega, rfl, hid ⟨HST.out.1, HST.out.2.1, by simpa using HST.out.2.2⟩⟩
   case round =>
    obtain ⟨k, hk, rfl, HSK⟩ := hrel
    obtain ⟨oa', oc', rfl⟩ := own_slice HSK.out.2.2
    have hwz' := HSK.out.1.size
    have hxz' := HSK.out.2.1.lt
    have hcl : (L.take k).count i ≤ k := Nat.le_trans List.count_le_length (List.length_take_le _ _)
    by_cases hpk : 0 < gk
    ·obtain ⟨lb, lo, rfl, hlb, hlcell⟩ := HQ3.out (by omega)
     have hlbw : lb < w.heap.size := by have : lb < B := hlb; omega
     have k1 : wr.cell? ⟨lb, lo + k, none⟩ = some (.int .i64 ((L.getD k 0 : Nat) : Int)) := (HSK.out.1.cell (p := ⟨lb, lo + k, none⟩) hlbw).trans (by have := hlcell k (by omega) 0 (by omega); simpa [natF] using this)
     have k2 := HS2.out wr HSK.out.1
     have x1 := HSK.out.2.1.cell 1 rfl
     have HTK : Hid ((L.take (k + 1)).count i = (L.take k).count i + if L.getD k 0 = i then 1 else 0) := hid (by
      have h1 : k < L.length := by have := HLL.out; omega
      rw [List.take_succ_eq_append_getElem h1, List.count_append, List.count_singleton]
      simp [List.getD, h1])
     clear hlcell
     generalize L.getD k 0 = x at *
     by_cases hxc : x = i
     ·have HT1 : Hid ((L.take (k + 1)).count i = (L.take k).count i + 1) := hid (by rw [HTK.out, if_pos hxc])
      have HO := hid HSK.out.2.2
      have HEQ : Hid (cur ++ List.replicate ((L.take (k + 1)).count i) s = (cur ++ List.replicate ((L.take k).count i) s) ++ [s]) := hid (by
       rw [HT1.out, List.replicate_succ', List.append_assoc])
      have hcln : (cur ++ List.replicate ((L.take k).count i) s).length ≤ 1073741824 := by rw [List.length_append, List.length_replicate]; omega
      generalize cur ++ List.replicate ((L.take k).count i) s = cu at *
      generalize hcl2 : cu.length = m at *
      have HCL := hid hcl2
      clear hcl2
      have hxi : (x : Int) = (i : Int) := by omega
      subst hxc
      go_wp2_with (at_builtin; refine wpList_append_form _ rfl (.tmp 27) (.tmp 33) 27 27 rfl (w.heap.size + 1) 9 9 i0 (.string ⟨#[]⟩) 1 16 Tryz.underlying27 Tryz.underlying27 hi0 hz0 hz1 hz2 rfl (by decide) (.slice oa' m oc') m (cu.map Value.string) rfl (HO.out.alloc _) (some ⟨_, 0, none⟩) 1 1 [.string s] rfl rfl (fun _ => ⟨_, rfl, cell_one_new _ _ _⟩) (smap_one [s]) (by omega) (by unfold maxLen; omega) (by omega) (by simp; omega) ?_; intro p7 cap7 w7 hown7 hg7 hat7 hlt7; have HOWN7 := hid hown7; have HG7 := hid hg7; clear hown7 hg7 hat7)
      have HBW := hid (HSK.out.1.alloc hwz' (.cells #[.string s] 9))
      have HB7 := hid (below_grownQ HBW.out HG7.out (fun k hk => by have := (HO.out.lt k hk).1; omega))
      have HX7 := hid ((HSK.out.2.1.alloc (.cells #[.string s] 9)).grown HG7.out (fun e => by have := (HO.out.lt _ e.symm).1; omega))
      clear k1 k2 x1
      go_wp2
      go_roundg (gk - 1)
      case rel => exact ⟨k + 1, by omega, by go_num, hid ⟨HB7.out, HX7.out, by rw [HEQ.out, List.length_append, List.length_singleton, HCL.out, List.map_append]; exact HOWN7.out⟩⟩
      case measure => omega
     ·have HT0 : Hid ((L.take (k + 1)).count i = (L.take k).count i) := hid (by rw [HTK.out, if_neg hxc, Nat.add_zero])
      have hxi : ¬ (x : Int) = (i : Int) := by omega
      generalize hm : (cur ++ List.replicate ((L.take k).count i) s).length = m at *
      have HM := hid hm
      clear hm
      clear k2 x1
      go_wp2_with fail
      go_roundg (gk - 1)
      case rel => exact ⟨k + 1, by omega, by go_num, hid ⟨HSK.out.1, HSK.out.2.1, by rw [HT0.out, HM.out]; exact HSK.out.2.2⟩⟩
      case measure => omega
    ·obtain rfl : k = ll := by omega
     have HEND : Hid (cur ++ List.replicate ((L.take k).count i) s = (vs.take (q + 1)).filter (hasL X)) := hid (by
      rw [HLL.out, List.take_length, HCQ.out, HFQ.out]
      split <;> rfl)
     go_wp2_with fail
     go_roundg (ko - 1)
     case rel => exact ⟨q + 1, by have := HKO.out; omega, by go_num, hid ⟨HSK.out.1, HSK.out.2.1, by rw [← HEND.out]; exact HSK.out.2.2⟩⟩
     case measure => have := HKO.out; omega
  ·obtain rfl : q = n := by omega
   rw [HFIN.out] at HST
   go_wp2
   go_ret
   exact ⟨oa, oc, (by rw [HFIN.out]; rfl), own_base HST.out.2.2 (by omega), HST.out.1⟩
end Go.Proofs.YtikiimlmoalbcaaGreatDoor

namespace Go.Proofs.YtikiimlmoalbcaaGreatDoor
open Go.RowKit
set_option maxRecDepth 100000 in
set_option maxHeartbeats 4000000 in
theorem ref18_columns (cs : List Cv) (hok : CvsOk cs) (ev vv lv : Value) (B : Nat) (w : World) (hx : RdIx w (· < B) ev vv lv (indexOf cs)) (hB : B ≤ w.heap.size) :
  Calls Tryz.prog 74 #[.agg #[ev, vv, lv]] w (fun e w' => ∃ v, e = .returned v ∧ CvSt w' (w.heap.size + 1) 116 v cs ∧ Below w.heap.size w w') := by
 obtain ⟨i0, hi, hz0, hz1, hz2⟩ := info_parts info_cv
 have hmany := hok.many
 have HVL := hid (fun i W (hi : i < cs.length) (hW : Below w.heap.size w W) => ref18_Values cs hok ev vv lv B i W hi (hx.keep fun p (hp : p.block < B) => hW.cell (p := p) (by omega)) (Nat.le_trans hB hW.size))
 have HLN := hid (fun i (hi : i < cs.length) => hok.len _ (getD_mem hi Cv.z))
 obtain ⟨⟨ea, ec, rfl, hec, hem, her⟩, ⟨va, vc, rfl, -⟩, lf, ⟨la, lc, rfl, -⟩, -⟩ := hx
 have hel : (indexOf cs).ents.length = cs.length := ents_len cs
 rw [hel] at hec her HVL ⊢
 have HER : Hid (∀ i W, i < cs.length → Below w.heap.size w W → ∃ b o, ea = some ⟨b, o, none⟩ ∧ W.cell? ⟨b, o + i * 3, none⟩ = some (.int .i64 (cs.getD i Cv.z).1.1) ∧ W.cell? ⟨b, o + i * 3 + 1, none⟩ = some (.int .i64 ((cs.getD i Cv.z).1.2 : Int)) ∧ W.cell? ⟨b, o + i * 3 + 2, none⟩ = some (.int .i64 ((cs.getD i Cv.z).2.length : Int))) := hid (fun i W hi hW => by
  obtain ⟨b, o, e3, hb, hc⟩ := her (by omega)
  have e1 : (indexOf cs).ents.getD i ((0, 0), 0) = ((cs.getD i Cv.z).1, (cs.getD i Cv.z).2.length) := by simp [indexOf, entsOf, List.getD, hi]
  have hbw : b < w.heap.size := by have : b < B := hb; omega
  refine ⟨b, o, e3, (hW.cell (p := ⟨b, o + i * 3, none⟩) hbw).trans ((hc i hi 0 (by omega)).trans ?_), (hW.cell (p := ⟨b, o + i * 3 + 1, none⟩) hbw).trans ((hc i hi 1 (by omega)).trans ?_), (hW.cell (p := ⟨b, o + i * 3 + 2, none⟩) hbw).trans ((hc i hi 2 (by omega)).trans ?_)⟩
  ·simp only [entF, e1]; rfl
  ·simp only [entF, e1]; rfl
  ·simp only [entF, e1]; rfl)
 have HTK := hid (fun q (hq : q < cs.length) => (by rw [List.take_succ_eq_append_getElem hq, List.getElem_eq_getD Cv.z] : cs.take (q + 1) = cs.take q ++ [cs.getD q Cv.z]))
 have HTL := hid (fun q (hq : q ≤ cs.length) => (by rw [List.length_take]; omega : (cs.take q).length = q))
 have HALL : Hid (cs.take cs.length = cs) := hid List.take_length
 clear her hok hel
 generalize (indexOf cs).vals.length = nv at *
 generalize (indexOf cs).lists.length = nl at *
 obtain ⟨n, hn⟩ : ∃ n, n = cs.length := ⟨_, rfl⟩
 have HN := hid hn
 rw [← hn] at hmany hec HVL HER HTK HTL HLN ⊢
 clear hn
 have hx0 := BoxN.new w #[.slice ea n ec, .slice va nv vc, .slice la nl lc] 30
 have x0 := hx0.cell 0 rfl
 have HX0 := hid hx0
 have HB0 := hid ((Below.refl w.heap.size w).alloc (Nat.le_refl _) (.cells #[.slice ea n ec, .slice va nv vc, .slice la nl lc] 30))
 have hzw : (w.alloc (.cells #[.slice ea n ec, .slice va nv vc, .slice la nl lc] 30)).heap.size = w.heap.size + 1 := by simp
 clear hx0
 go_enter Tryz.func74, Tryz.ntmps74
 go_wp2_with fail
 clear x0
 generalize w.alloc (.cells #[.slice ea n ec, .slice va nv vc, .slice la nl lc] 30) = W0 at *
 go_loopg [9, 3, 4, 5] n (fun N i v u1 u2 wr => ∃ q : Nat, q + N = n ∧ i = .int .i64 (q : Int) ∧ Hid (Below W0.heap.size W0 wr ∧ CvSt wr W0.heap.size 116 v (cs.take q)))
 case atStart => exact ⟨0, by omega, rfl, hid ⟨Below.refl _ _, CvSt.start (Nat.le_refl _)⟩⟩
 case round =>
  obtain ⟨q, hq, rfl, HST⟩ := hrel
  obtain ⟨L0, hL0⟩ := HST.out.2.owns
  obtain ⟨sa, sc, rfl⟩ := own_slice hL0
  have hql := HTL.out q (by omega)
  have HQL := hid hql
  rw [hql] at hL0
  have HL0 := hid hL0
  have HST' : Hid (Below W0.heap.size W0 wr ∧ CvSt wr W0.heap.size 116 (.slice sa q sc) (cs.take q)) := hid ⟨HST.out.1, by have := HST.out.2; rw [hql] at this; exact this⟩
  clear HST
  have HST := HST'
  have hwz := HST.out.1.size
  clear hL0 HST'
  rw [hql]
  clear hql
  have HBW := hid (HB0.out.trans (HST.out.1.mono HB0.out.size))
  by_cases hp : 0 < gk
  ·obtain ⟨b, o, rfl, k0, k1, k2⟩ := HER.out q wr (by omega) HBW.out
   have HVQ := hid (fun W hW => HVL.out q W (by omega) hW)
   have hvl := HLN.out q (by omega)
   have HTQ := hid (HTK.out q (by omega))
   generalize cs.getD q Cv.z = x at *
   obtain ⟨⟨ri, rk⟩, vals⟩ := x
   simp only at k0 k1 k2 hvl
   have hqn : (q : Int) < (n : Int) := by omega
   have HVQ : Hid (∀ W, Below w.heap.size w W → Calls Tryz.prog 34 #[.agg #[.slice (some ⟨b, o, none⟩) n ec, .slice va nv vc, .slice la nl lc], .int .i64 (q : Int)] W (GivesS W vals)) := hid HVQ.out
   have HBS5 := hid ((Below.refl wr.heap.size wr).alloc (Nat.le_refl _) (.cells #[.int .i64 ri, .int .i64 (rk : Int), .int .i64 ((vals.length : Nat) : Int)] 73))
   have HRX5 := hid (BoxN.new wr #[.int .i64 ri, .int .i64 (rk : Int), .int .i64 ((vals.length : Nat) : Int)] 73)
   have HXI5 := hid ((HX0.out.below HST.out.1 (by omega)).alloc (.cells #[.int .i64 ri, .int .i64 (rk : Int), .int .i64 ((vals.length : Nat) : Int)] 73))
   have HB5 := hid (HBW.out.alloc HBW.out.size (.cells #[.int .i64 ri, .int .i64 (rk : Int), .int .i64 ((vals.length : Nat) : Int)] 73))
   go_upto_region 5 with fail
   obtain ⟨eb, heb⟩ : ∃ eb, eb = wr.heap.size := ⟨_, rfl⟩
   rw [← heb] at HRX5 ⊢
   clear heb
   generalize wr.alloc (.cells #[.int .i64 ri, .int .i64 (rk : Int), .int .i64 ((vals.length : Nat) : Int)] 73) = W5 at *
   have s0 := HRX5.out.cell 0 rfl
   have s1 := HRX5.out.cell 1 rfl
   have c0 := HXI5.out.cell 0 rfl
   have c1 := HXI5.out.cell 1 rfl
   have c2 := HXI5.out.cell 2 rfl
   have hzx := HRX5.out.lt
   have HST5 := hid (HST.out.2.later HBS5.out (by omega))
   have HL5 := hid (own_roll HL0.out (Roll.of_below HBS5.out 0) (Nat.le_refl _) (by omega))
   have hws5 := HBS5.out.size
   have hhb5 := HB5.out.size
   clear k0 k1 k2
   go_region_law (first
    | (go_simp; go_at_call 34; go_must (((with_reducible refine (HVQ.out _ (by have := HB5.out; repeat' (first | (with_reducible exact Below.refl _ _) | (with_reducible assumption) | (with_reducible refine below_drewN ?_) | (with_reducible refine Below.alloc ?_ ?_ _) | (with_reducible refine Below.drew ?_) | (with_reducible refine Below.setCell ?_ ?_ _) | (with_reducible refine Below.trans ?_ (Below.mono (by with_reducible assumption) ?_)) | go_size))).mono ?_); rintro e w6 ⟨ca, cc, rfl, hown6, hb6⟩; have hb6' : Below W5.heap.size W5 w6 := (by repeat' (first | (with_reducible exact Below.refl _ _) | (with_reducible assumption) | (with_reducible refine below_drewN ?_) | (with_reducible refine Below.alloc ?_ ?_ _) | (with_reducible refine Below.drew ?_) | (with_reducible refine Below.setCell ?_ ?_ _) | (with_reducible refine Below.trans ?_ (Below.mono (by with_reducible assumption) ?_)) | go_size)); have HB6 := hid hb6'; have HOWN6 := hid hown6; have hz6 := hb6'.size; have HL6 := hid (own_roll HL5.out (Roll.of_below hb6' 0) (Nat.le_refl _) (by omega)); have HST6 := hid (HST5.out.later hb6' (by omega)); have s0' := (HRX5.out.below hb6' (by omega)).cell 0 rfl; have s1' := (HRX5.out.below hb6' (by omega)).cell 1 rfl; clear hown6 hb6 hb6')))
    | ((refine step_append_form _ rfl (.tmp 14) (.tmp 21) 111 111 rfl W0.heap.size 116 116 i0 (.agg #[.int .i64 0, .int .i64 0, .slice none 0 0]) 3 40 Tryz.underlying111 Tryz.underlying111 hi hz0 hz1 hz2 rfl (by decide) (.slice sa q sc) q L0 rfl (HL6.out.alloc _) (some ⟨_, 0, none⟩) 1 1 [.int .i64 ri, .int .i64 (rk : Int), .slice ca vals.length cc] rfl rfl (fun _ => ⟨_, rfl, cell_three_at _ _ _ _ (by simp)⟩) (by intro u hu; simp at hu; rcases hu with rfl | rfl | rfl <;> rfl) (by omega) (by unfold maxLen; omega) (by omega) (by simp; omega) ?_); intro p7 cap7 w7 hown7 hg7 hat7 hlt7; have HG7 := hid hg7; have HOWN7 := hid hown7; have HAT7 := hid hat7; clear hown7 hg7 hat7))
   all_goals
    have HNEW : Hid (InS (w6.alloc (.cells #[.int .i64 ri, .int .i64 (rk : Int), .slice ca vals.length cc] 116)) (Own (w6.alloc (.cells #[.int .i64 ri, .int .i64 (rk : Int), .slice ca vals.length cc] 116)) W0.heap.size (.slice sa q sc)) (.slice ca vals.length cc) vals) := hid (by
     refine (InK.keep (inS_of_own HOWN6.out) fun p hp => World.cell?_alloc_lt _ _ _ (HOWN6.out.lt _ hp).2).more fun b hb => ?_
     have h1 := HOWN6.out.lt b hb
     have h2 : W5.heap.size ≤ b := by have := h1.1; first | exact this | omega
     have h3 := h1.2
     exact ⟨by omega, by simp; omega, fun e => by have := (HL5.out.lt _ e).2; omega⟩)
    have HL8 : Hid ((w6.alloc (.cells #[.int .i64 ri, .int .i64 (rk : Int), .slice ca vals.length cc] 116)).ownsRow W0.heap.size 116 3 (.slice sa q sc) (cs.take q).length L0) := hid (by
     rw [HQL.out]
     exact HL6.out.alloc _)
    have HST7 := hid ((HST6.out.later ((Below.refl _ _).alloc (Nat.le_refl _) (.cells #[.int .i64 ri, .int .i64 (rk : Int), .slice ca vals.length cc] 116)) (by omega)).push (x := ((ri, rk), vals)) (n := q + 1) HL8.out (by rw [HQL.out]) HOWN7.out HG7.out HAT7.out HNEW.out)
    have HB7 : Hid (Below W0.heap.size W0 w7) := hid (by
     refine (((HST.out.1.trans (HBS5.out.mono hwz)).trans (HB6.out.mono (by omega))).alloc (by omega) _).grown HG7.out (by simp; omega) (fun k hk => ?_)
     have := (HL6.out.lt k hk).1
     omega)
    clear s0 s1 c0 c1 c2 s0' s1'
    go_wp2
    go_roundg (gk - 1)
    case rel => exact ⟨q + 1, by omega, by go_num, hid ⟨HB7.out, by rw [HTQ.out]; exact HST7.out⟩⟩
    case measure => omega
  ·obtain rfl : q = n := by omega
   have HEND : Hid (CvSt wr (w.heap.size + 1) 116 (.slice sa q sc) cs) := hid (by
    have h := HST.out.2
    rw [HN.out, HALL.out, hzw] at h
    rw [HN.out]
    exact h)
   go_wp2
   go_ret
   exact ⟨_, rfl, HEND.out, HBW.out⟩
end Go.Proofs.YtikiimlmoalbcaaGreatDoor
