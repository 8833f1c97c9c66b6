/- Contract of posting.Values. -/
import Derived.Test.YtabemneoobbnaaaGreatDoorQh
namespace Go.Proofs.YtabemneoobbnaaaGreatDoor
open Go.RowKit Go.Shelf

theorem lib_ContainsN (v : Value) (xs : List Nat) (x : Nat) (B : Nat) (w : World) (hv : InN w (· < B) v xs) :
    Calls Tryz.prog 52 #[v, .int .i64 (x : Int)] w fun e w' => e = .returned (.bool (xs.contains x)) ∧ w' = w := by
  obtain ⟨a, c, rfl, hc, hm, hr⟩ := hv
  have hcon : ((xs.map fun x : Nat => (x : Int)).take xs.length).contains (x : Int) = xs.contains x := by
    rw [List.take_of_length_le (by simp), Bool.eq_iff_iff, List.contains_iff_mem, List.contains_iff_mem, List.mem_map]
    exact ⟨fun ⟨y, hy, e⟩ => by rw [show x = y by omega]; exact hy, fun h => ⟨x, h, rfl⟩⟩
  rcases Nat.eq_zero_or_pos xs.length with h0 | hp
  · have e := List.eq_nil_of_length_eq_zero h0
    subst e
    exact AnyG.slices_Contains_int_empty Tryz.containsI a c (x : Int) w
  · obtain ⟨b, o, rfl, hb, hcell⟩ := hr hp
    rw [← hcon]
    unfold maxLen at hm
    exact AnyG.slices_Contains_int Tryz.containsI b o xs.length c (xs.map fun x : Nat => (x : Int)) (x : Int) w (by simp) (by omega) (fun j hj => by
      rw [List.length_map] at hj
      have h1 := hcell j hj 0 (by omega)
      simp only [Nat.mul_one, Nat.add_zero] at h1
      rw [h1]
      simp [natF, List.getD, hj])
theorem listOfV_contains {cs : List Cv} {i : Nat} (hi : i < cs.length) (s : ByteArray) : (listOfV cs s).contains i = hasL (cs.getD i Cv.z).2 s := by
  rw [Bool.eq_iff_iff, List.contains_iff_mem, listOfV_mem]
  exact ⟨fun h => h.2, fun h => ⟨hi, h⟩⟩
theorem filter_take {vs : List ByteArray} (p : ByteArray → Bool) {q : Nat} (h : q < vs.length) : (vs.take (q + 1)).filter p = (vs.take q).filter p ++ if p (vs.getD q ⟨#[]⟩) = true then [vs.getD q ⟨#[]⟩] else [] := by
  rw [List.take_succ_eq_append_getElem h, List.filter_append, List.filter_cons, List.filter_nil]
  have e : vs.getD q ⟨#[]⟩ = vs[q] := by simp [List.getD, h]
  rw [e]

set_option maxRecDepth 100000 in
set_option maxHeartbeats 2000000 in
theorem posting_Values (cs : List Cv) (hok : CvsOk cs) (ev vv lv : Value) (B i : Nat) (w : World) (hi : i < cs.length) (hx : RdIx w (· < B) ev vv lv (indexOf cs)) (hB : B ≤ w.heap.size) :
    Calls Tryz.prog 23 #[.agg #[ev, vv, lv], .int .i64 (i : Int)] w (GivesS w (cs.getD i Cv.z).2) := by
  obtain ⟨i0, hi0, hz0, hz1, hz2⟩ := info_parts info_str
  obtain ⟨⟨ea, ec, rfl, -⟩, ⟨va, vc, rfl, hvc, hvm, hvr⟩, lf, ⟨la, lc, rfl, hlc, hlm, hlr⟩, hkids⟩ := hx
  have hll : (indexOf cs).lists.length = (setOfL (allOf cs)).length := by simp [indexOf]
  have hvl : (indexOf cs).vals.length = (setOfL (allOf cs)).length := rfl
  have HLR := hid hlr
  have HVR : Hid (∀ q, q < (setOfL (allOf cs)).length → ∃ b o, va = some ⟨b, o, none⟩ ∧ b < B ∧ w.cell? ⟨b, o + q, none⟩ = some (.string ((setOfL (allOf cs)).getD q ⟨#[]⟩))) := hid (fun q hq => by
    obtain ⟨b, o, e3, hb, hc⟩ := hvr (by rw [hvl]; omega)
    have h4 := hc q (by rw [hvl]; exact hq) 0 (by omega)
    simp only [Nat.mul_one, Nat.add_zero] at h4
    exact ⟨b, o, e3, hb, h4⟩)
  have HKI := hid (fun q (hq : q < (setOfL (allOf cs)).length) => (show InN w (· < B) (lf q) (listOfV cs ((setOfL (allOf cs)).getD q ⟨#[]⟩)) from by
    have h1 := hkids q (by rw [hll]; exact hq)
    rwa [show (indexOf cs).lists.getD q [] = listOfV cs ((setOfL (allOf cs)).getD q ⟨#[]⟩) from by simp [indexOf, List.getD, hq]] at h1))
  have HCT := hid (fun s => listOfV_contains hi s)
  have HFIN : Hid (((setOfL (allOf cs)).take (setOfL (allOf cs)).length).filter (hasL (cs.getD i Cv.z).2) = (cs.getD i Cv.z).2) := hid (by rw [List.take_length]; exact vals_filter hok hi)
  have hvals : (setOfL (allOf cs)).length ≤ 268435456 := by
    have h1 := setOfL_len (allOf cs)
    have h2 := all_len (m := 4096) hok.len
    have h3 := hok.many
    have h4 : cs.length * 4096 ≤ 65536 * 4096 := Nat.mul_le_mul_right _ h3
    omega
  rw [hll] at HLR hlc ⊢
  rw [hvl] at hvc ⊢
  clear hlr hvr hkids hll hvl hok
  have HFT := hid (fun q (h : q < (setOfL (allOf cs)).length) => filter_take (hasL (cs.getD i Cv.z).2) h)
  have HFL := hid (fun q => (show (((setOfL (allOf cs)).take q).filter (hasL (cs.getD i Cv.z).2)).length ≤ q from Nat.le_trans (List.length_filter_le _ _) (List.length_take_le _ _)))
  generalize (cs.getD i Cv.z).2 = X at *
  generalize hvs : setOfL (allOf cs) = vs at *
  clear hvs
  generalize hnv : vs.length = n at *
  have HNV := hid hnv
  clear hnv
  generalize (indexOf cs).ents.length = n1 at *
  unfold maxLen at hlm
  have hx0 := BoxN.new w #[.slice ea n1 ec, .slice va n vc, .slice la n lc] 40
  have x1 := hx0.cell 2 rfl
  have HX0 := hid hx0
  have HB0 := hid ((Below.refl w.heap.size w).alloc (Nat.le_refl _) (.cells #[.slice ea n1 ec, .slice va n vc, .slice la n lc] 40))
  clear hx0
  go_enter Tryz.func23, Tryz.ntmps23
  go_wp2_with fail
  clear x1
  generalize w.alloc (.cells #[.slice ea n1 ec, .slice va n vc, .slice la n lc] 40) = W0 at *
  go_loopg [5, 11] n (fun N v i wr => ∃ q : Nat, q + N = n ∧ i = .int .i64 (q : Int) ∧ Hid (Below w.heap.size w wr ∧ BoxN wr w.heap.size 40 #[.slice ea n1 ec, .slice va n vc, .slice la n lc] ∧ wr.ownsRow (w.heap.size + 1) 9 1 v ((vs.take q).filter (hasL X)).length (((vs.take q).filter (hasL X)).map Value.string)))
  case atStart => exact ⟨0, by omega, rfl, hid ⟨HB0.out, HX0.out, World.ownsRow_nil _ _ _ _⟩⟩
  case round =>
    obtain ⟨q, hq, rfl, HST⟩ := hrel
    obtain ⟨oa, oc, rfl⟩ := own_slice HST.out.2.2
    have hwz := HST.out.1.size
    have hxz := HST.out.2.1.lt
    have hfl := HFL.out q
    by_cases hp : 0 < gk
    · obtain ⟨b, o, rfl, hb, hcell⟩ := HLR.out (by omega)
      have hbw : b < w.heap.size := by have : b < B := hb; omega
      obtain ⟨b2, o2, rfl, hb2, hs2⟩ := HVR.out q (by omega)
      obtain ⟨qa, qc, hlq, -⟩ := HKI.out q (by omega)
      have HCQ := hid (lib_ContainsN (lf q) _ i B wr ((HKI.out q (by omega)).keep fun p (hp : p.block < B) => HST.out.1.cell (p := p) (by omega)))
      rw [HCT.out] at HCQ
      have k0 : wr.cell? ⟨b, o + q, none⟩ = some (lf q) := (HST.out.1.cell (p := ⟨b, o + q, none⟩) hbw).trans (by have := hcell q (by omega) 0 (by omega); simpa using this)
      have k1 : wr.cell? ⟨b2, o2 + q, none⟩ = some (.string (vs.getD q ⟨#[]⟩)) := (HST.out.1.cell (p := ⟨b2, o2 + q, none⟩) (by show b2 < _; omega)).trans hs2
      have x1 := HST.out.2.1.cell 1 rfl
      have HFQ := hid (HFT.out q (by omega))
      rw [hlq] at k0 HCQ
      clear hcell hlq hs2
      generalize (listOfV cs (vs.getD q ⟨#[]⟩)).length = ll at *
      generalize vs.getD q ⟨#[]⟩ = s at *
      generalize hcur : (vs.take q).filter (hasL X) = cur at *
      have hqn : (q : Int) < (n : Int) := by omega
      have hqd : decide ((q : Int) < (n : Int)) = true := decide_eq_true hqn
      generalize hcb : hasL X s = cb at *
      clear hcur hcb
      have HO := hid HST.out.2.2
      generalize hcl : cur.length = m at *
      have HCL := hid hcl
      clear hcl
      cases cb
      · go_wp2_with fail
        with_reducible refine HCQ.out.mono ?_
        rintro e w1 ⟨rfl, rfl⟩
        have HEQ : Hid ((vs.take (q + 1)).filter (hasL X) = cur) := hid (by rw [HFQ.out]; simp)
        clear k0 k1 x1
        go_wp2_with fail
        go_roundg (gk - 1)
        case rel => exact ⟨q + 1, by omega, by go_num, hid ⟨HST.out.1, HST.out.2.1, by rw [HEQ.out, HCL.out]; exact HO.out⟩⟩
        case measure => omega
      · go_wp2_with fail
        with_reducible refine HCQ.out.mono ?_
        rintro e w1 ⟨rfl, rfl⟩
        have HEQ : Hid ((vs.take (q + 1)).filter (hasL X) = cur ++ [s]) := hid (by rw [HFQ.out]; simp)
        go_wp2_with (at_builtin; refine wpList_append_form _ rfl (.tmp 26) (.tmp 32) 26 26 rfl (w.heap.size + 1) 9 9 i0 (.string ⟨#[]⟩) 1 16 Tryz.underlying26 Tryz.underlying26 hi0 hz0 hz1 hz2 rfl (by decide) (.slice oa m oc) m (cur.map Value.string) rfl (HO.out.alloc _) (some ⟨_, 0, none⟩) 1 1 [.string s] rfl rfl (fun _ => ⟨_, rfl, cell_one_new _ _ _⟩) (smap_one [s]) (by omega) (by unfold maxLen; omega) (by omega) (by simp; omega) ?_; intro p7 cap7 w7 hown7 hg7 hat7 hlt7; have HOWN7 := hid hown7; have HG7 := hid hg7; clear hown7 hg7 hat7)
        have HBW := hid (HST.out.1.alloc hwz (.cells #[.string s] 9))
        have HB7 := hid (below_grown HBW.out HG7.out (fun k hk => by have := (HO.out.lt k hk).1; omega))
        have HX7 := hid ((HST.out.2.1.alloc (.cells #[.string s] 9)).grown HG7.out (fun e => by have := (HO.out.lt _ e.symm).1; omega))
        clear k0 k1 x1
        go_wp2
        go_roundg (gk - 1)
        case rel => exact ⟨q + 1, by omega, by go_num, hid ⟨HB7.out, HX7.out, by rw [HEQ.out, List.length_append, List.length_singleton, HCL.out, List.map_append]; exact HOWN7.out⟩⟩
        case measure => omega
    · obtain rfl : q = n := by omega
      rw [HFIN.out] at HST
      go_wp2
      go_ret
      exact ⟨oa, oc, (by rw [HFIN.out]; rfl), own_base HST.out.2.2 (by omega), HST.out.1⟩

end Go.Proofs.YtabemneoobbnaaaGreatDoor
