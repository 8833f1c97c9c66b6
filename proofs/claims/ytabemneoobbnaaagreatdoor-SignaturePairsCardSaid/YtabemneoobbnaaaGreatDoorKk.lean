/- Contracts of signature.ordered and Order. -/
import Derived.Test.YtabemneoobbnaaaGreatDoorKj
import Derived.Test.YtabemneoobbnaaaGreatDoorQb
namespace Go.Proofs.YtabemneoobbnaaaGreatDoor
open Go.RowKit Go.Shelf

/-- how often a text is in a list, if it is there -/
def cntN (pre : List ByteArray) (s : ByteArray) : Nat := (pre.filter fun x => decide (x = s)).length
def cntO (pre : List ByteArray) (s : ByteArray) : Option Nat := if cntN pre s = 0 then none else some (cntN pre s)
theorem cntO_getD (pre : List ByteArray) (s : ByteArray) : (cntO pre s).getD 0 = cntN pre s := by
  unfold cntO
  by_cases h : cntN pre s = 0
  · rw [if_pos h, h]; rfl
  · rw [if_neg h]; rfl
theorem cntN_snoc (pre : List ByteArray) (x s : ByteArray) : cntN (pre ++ [x]) s = if s = x then cntN pre s + 1 else cntN pre s := by
  unfold cntN
  rw [List.filter_append, List.length_append]
  by_cases h : s = x
  · subst h; simp
  · rw [if_neg h]; simp [Ne.symm h]
theorem cntO_snoc (pre : List ByteArray) (x : ByteArray) : cntO (pre ++ [x]) = setF1 (cntO pre) x (cntN pre x + 1) := by
  funext s
  unfold setF1
  by_cases h : s = x
  · subst h
    rw [if_pos rfl]
    unfold cntO
    rw [cntN_snoc, if_pos rfl, if_neg (by omega)]
  · rw [if_neg h]
    unfold cntO
    rw [cntN_snoc, if_neg h]
theorem cntN_le (pre : List ByteArray) (s : ByteArray) : cntN pre s ≤ pre.length := List.length_filter_le _ _
theorem cntO_some {pre : List ByteArray} {s : ByteArray} : (cntO pre s).isSome = true ↔ s ∈ pre := by
  have h : cntN pre s = 0 ↔ s ∉ pre := by
    unfold cntN
    rw [List.length_eq_zero_iff, List.filter_eq_nil_iff]
    constructor
    · intro h hm; exact h s hm (by simp)
    · intro h x hx e; exact h (by have : x = s := by simpa using e
                                  rwa [this] at hx)
  unfold cntO
  by_cases h0 : cntN pre s = 0
  · rw [if_pos h0]; simp [h.1 h0]
  · rw [if_neg h0]; simp; exact Classical.byContradiction fun h1 => h0 (h.2 h1)
theorem ownsRow_lower {w : World} {base base' : Nat} {e : TypeId} {k n : Nat} {v : Value} {L : List Value} (h : w.ownsRow base e k v n L) (hb : base' ≤ base) : w.ownsRow base' e k v n L := by
  refine ⟨h.1, ?_⟩
  rcases h.2 with h1 | ⟨g, cap, cur, e1, hg, rest⟩
  · exact .inl h1
  · exact .inr ⟨g, cap, cur, e1, Nat.le_trans hb hg, rest⟩
theorem plI_wf1 {k : Nat} (h : k ≤ 268435456) : (Lit.int .i64 ((k : Int) + 1)).wf = true := plI_wf (i := k + 1) (by omega)

set_option maxRecDepth 100000 in
set_option maxHeartbeats 4000000 in
theorem sig_ordered (v : Value) (cs : List Cv) (B : Nat) (w : World) (hv : RdCv w (· < B) v cs) (hB : B ≤ w.heap.size) (hstr : ∀ c ∈ cs, ∀ s ∈ c.2, s.size ≤ maxLen) (hlen : ∀ c ∈ cs, c.2.length ≤ 4096) (hmany : cs.length ≤ 65536) :
    Calls Tryz.prog 56 #[v] w (OrdP w (cntO (allOf cs))) := by
  obtain ⟨vv, ⟨a, k, rfl, hk, hm, hrd⟩, hkids⟩ := hv
  have HRD := hid hrd
  have HKD := hid hkids
  have HAT := hid (fun q (h : q < cs.length) => all_take h)
  have HALL : Hid (allOf cs = allOf (cs.take cs.length)) := hid (by rw [List.take_length])
  have HML : Hid (∀ q, (allOf (cs.take q)).length ≤ 268435456) := hid (fun q => by
    have h1 := all_len (cs := cs.take q) (m := 4096) fun c hc => hlen c (List.mem_of_mem_take hc)
    have h2 : (cs.take q).length ≤ 65536 := Nat.le_trans (List.length_take_le' _ _) hmany
    have h3 : (cs.take q).length * 4096 ≤ 65536 * 4096 := Nat.mul_le_mul_right _ h2
    omega)
  have HSTR := hid (fun q (h : q < cs.length) => hstr _ (getD_mem h Cv.z))
  have HSA : Hid (∀ s ∈ allOf cs, s.size ≤ maxLen) := hid (fun s hs => by
    obtain ⟨c, hc, h⟩ := List.mem_flatMap.1 hs
    exact hstr c hc s h)
  clear hrd hkids hstr hlen
  generalize hcl : cs.length = n at *
  have HCL := hid hcl
  clear hcl
  unfold maxLen at hm
  have HM0 := hid (((MapI.made w).later (w' := (w.alloc (.map #[] 0)).alloc (.cells #[.map (some w.heap.size)] 89)) (Below.heap_alloc _ _ _ (by simp))))
  have HX0 := hid (BoxN.new (w.alloc (.map #[] 0)) #[.map (some w.heap.size)] 89)
  rw [World.size_alloc] at HX0
  have HB0 : Hid (Below w.heap.size w ((w.alloc (.map #[] 0)).alloc (.cells #[.map (some w.heap.size)] 89))) := hid (((Below.refl _ w).alloc (Nat.le_refl _) _).alloc (by simp) _)
  have hmm := @run_makeMap Tryz.prog
  go_enter Tryz.func56, Tryz.ntmps56
  generalize hLA : Code.loop _ = LA
  go_wp2_with fail
  generalize ((w.alloc (.map #[] 0)).alloc (.cells #[.map (some w.heap.size)] 89)) = W0 at *
  subst hLA
  go_loopg [11] n (fun N i wr => ∃ q : Nat, q + N = n ∧ i = .int .i64 (q : Int) ∧ Hid (BoxN wr (w.heap.size + 1) 89 #[.map (some w.heap.size)] ∧ MapI wr w.heap.size (allOf (cs.take q)).length (cntO (allOf (cs.take q))) ∧ Below w.heap.size w wr))
  case atStart => exact ⟨0, by omega, rfl, hid ⟨HX0.out, HM0.out, HB0.out⟩⟩
  case round =>
    obtain ⟨q, hq, rfl, HST⟩ := hrel
    by_cases hp : 0 < gk
    · obtain ⟨b, o, rfl, hb, hcell⟩ := HRD.out (by omega)
      have hb' : b < B := hb
      have hbw : b < w.heap.size := by omega
      have hwz := HST.out.2.2.size
      have k0 : wr.cell? ⟨b, o + q * 3, none⟩ = some (.int .i64 (cs.getD q Cv.z).1.1) := (HST.out.2.2.cell (p := ⟨b, o + q * 3, none⟩) hbw).trans (hcell q (by omega) 0 (by omega))
      have k1 : wr.cell? ⟨b, o + q * 3 + 1, none⟩ = some (.int .i64 ((cs.getD q Cv.z).1.2 : Int)) := (HST.out.2.2.cell (p := ⟨b, o + q * 3 + 1, none⟩) hbw).trans (hcell q (by omega) 1 (by omega))
      have k2 : wr.cell? ⟨b, o + q * 3 + 2, none⟩ = some (vv q) := (HST.out.2.2.cell (p := ⟨b, o + q * 3 + 2, none⟩) hbw).trans (hcell q (by omega) 2 (by omega))
      have HKQ := hid (HKD.out q (by omega))
      have HATQ := hid (HAT.out q (by omega))
      have HML1 := hid (HML.out (q + 1))
      have HSQ := hid (HSTR.out q (by omega))
      obtain ⟨xa, xc, e1, hxc, hxm, -⟩ := HKQ.out
      rw [e1] at k2 HKQ
      unfold maxLen at hxm
      clear hcell e1
      generalize cs.getD q Cv.z = c at *
      obtain ⟨⟨r1, r2⟩, X⟩ := c
      simp only at k0 k1 k2
      generalize hpr : allOf (cs.take q) = pre at *
      clear hpr
      rw [HATQ.out] at HML1
      simp only at HML1 HSQ HKQ
      generalize hxl : X.length = xl at *
      have HXL := hid hxl
      clear hxl
      have HB9 := hid (HST.out.2.2.alloc hwz (.cells #[.int .i64 r1, .int .i64 (r2 : Int), .slice xa xl xc] 145))
      have HX9 := hid (HST.out.1.alloc (.cells #[.int .i64 r1, .int .i64 (r2 : Int), .slice xa xl xc] 145))
      have HM9 := hid (HST.out.2.1.later (w' := wr.alloc (.cells #[.int .i64 r1, .int .i64 (r2 : Int), .slice xa xl xc] 145)) (Below.heap_alloc _ _ _ HST.out.2.1.lt))
      have hz9 : (wr.alloc (.cells #[.int .i64 r1, .int .i64 (r2 : Int), .slice xa xl xc] 145)).heap.size = wr.heap.size + 1 := by simp
      obtain ⟨wo, rfl⟩ : ∃ wo, wo = wr := ⟨wr, rfl⟩
      obtain ⟨ko, rfl⟩ : ∃ ko, ko = gk := ⟨gk, rfl⟩
      generalize hLB : Code.loop _ = LB
      go_wp2_with fail
      clear k0 k1 k2
      generalize wo.alloc (.cells #[.int .i64 r1, .int .i64 (r2 : Int), .slice xa xl xc] 145) = W9 at *
      subst hLB
      go_loopg [18] xl (fun N i W => ∃ j : Nat, j + N = xl ∧ i = .int .i64 (j : Int) ∧ Hid (BoxN W (w.heap.size + 1) 89 #[.map (some w.heap.size)] ∧ MapI W w.heap.size (pre ++ X.take j).length (cntO (pre ++ X.take j)) ∧ Below w.heap.size w W))
      case atStart => exact ⟨0, by omega, rfl, hid ⟨HX9.out, by rw [List.take_zero, List.append_nil]; exact HM9.out, HB9.out⟩⟩
      case round =>
        obtain ⟨j, hj, rfl, HSJ⟩ := hrel
        by_cases hpj : 0 < gk
        · have HJ := hid hj
          obtain ⟨xa', xc', e1, -, -, hxr⟩ := HKQ.out
          rw [HXL.out] at e1 hxr
          obtain ⟨rfl, -, rfl⟩ := Value.slice.inj e1
          obtain ⟨b2, o2, rfl, hb2, hc2⟩ := hxr (by omega)
          have hb2' : b2 < B := hb2
          have t0 : wr.cell? ⟨b2, o2 + j, none⟩ = some (.string (X.getD j ⟨#[]⟩)) := (HSJ.out.2.2.cell (p := ⟨b2, o2 + j, none⟩) (by show b2 < _; omega)).trans (by have h := hc2 j (by omega) 0 (by omega); simp only [Nat.mul_one, Nat.add_zero] at h; exact h)
          have x0 : wr.cell? ⟨w.heap.size + 1, 0, none⟩ = some (.map (some w.heap.size)) := HSJ.out.1.cell 0 rfl
          have hjx : j < X.length := by have := HXL.out; omega
          have hsj := HSQ.out _ (getD_mem hjx ⟨#[]⟩)
          have HTJ : Hid (X.take (j + 1) = X.take j ++ [X.getD j ⟨#[]⟩]) := hid (by
            rw [List.take_succ_eq_append_getElem hjx]
            simp [List.getD, hjx])
          have hlk := HSJ.out.2.1.look hsj
          rw [cntO_getD] at hlk
          have HKEY := hid (key_str hsj)
          have hcl := cntN_le (pre ++ X.take j) (X.getD j ⟨#[]⟩)
          have hpl : (pre ++ X.take j).length ≤ 268435456 := by have := HML1.out; rw [List.length_append] at *; rw [List.length_take]; omega
          obtain ⟨D, hown, hno⟩ := HSJ.out.2.1
          have HNO := hid hno
          have HKX := hid hcl
          have HSX := hid HSJ.out.1
          have HSB := hid HSJ.out.2.2
          clear hc2 hxr e1 hno HSJ hsj hjx
          generalize X.getD j ⟨#[]⟩ = x at *
          generalize hpp : pre ++ X.take j = pp at *
          have HPP := hid hpp
          clear hpp
          have HCN : Hid (cntO (pp ++ [x]) = setF1 (cntO pp) x (cntN pp x + 1)) := hid (cntO_snoc pp x)
          generalize cntN pp x = kx at *
          generalize hppl : pp.length = pn at *
          have HPPL := hid hppl
          clear hppl
          have hkx : kx ≤ 268435456 := by omega
          have HOWN := hid hown
          clear hown
          go_wp2_with (at_mapUpdate; refine wpList_mapUpdate_own _ rfl _ _ _ 89 rfl 9 3 law_strU Tryz.underlying89 _ w.heap.size pn D rfl HOWN.out (by unfold maxLen; omega) _ _ _ rfl rfl HKEY.out _ [] (plainElem_int (H := Unit) Tryz.underlying3 (plI_wf1 hkx)) ?_; intro w1 hown1 hgrow1; have HOWN1 := hid hown1; have HGR1 := hid hgrow1; clear hown1 hgrow1)
          have HSX1 := hid (HSX.out.grown HGR1.out (fun e => by have := Option.some.inj e; omega))
          have HSB1 := hid (HSB.out.grown HGR1.out HSB.out.size (fun k hk => by have := Option.some.inj hk; omega))
          go_roundg (gk - 1)
          case rel => exact ⟨j + 1, by have := HJ.out; omega, by go_num, hid ⟨HSX1.out, by rw [HTJ.out, ← List.append_assoc, HPP.out, List.length_append, List.length_singleton, HPPL.out, HCN.out]; exact ⟨_, HOWN1.out, HNO.out.put x (kx + 1)⟩, HSB1.out⟩⟩
          case measure => omega
        · obtain rfl : j = xl := by omega
          go_wp2_with fail
          go_roundg (ko - 1)
          case rel => exact ⟨q + 1, by omega, by go_num, hid (by
            have h := HSJ.out
            rw [List.take_of_length_le (by rw [HXL.out]; exact Nat.le_refl _)] at h
            rw [HATQ.out]
            exact h)⟩
          case measure => omega
    · obtain rfl : q = n := by omega
      have HST2 := hid HST.out
      rw [← HALL.out] at HST2
      have HALN : Hid ((allOf cs).length ≤ 268435456) := hid (by rw [HALL.out]; exact HML.out _)
      have x0 : wr.cell? ⟨w.heap.size + 1, 0, none⟩ = some (.map (some w.heap.size)) := HST2.out.1.cell 0 rfl
      have hwz := HST2.out.2.2.size
      have hbl := HST2.out.1.lt
      have hfin := lib_SortedFuncT (w.heap.size + 1) wr.heap.size w.heap.size (allOf cs).length (cntO (allOf cs)) (allOf cs) (wr.alloc (.cells #[.map (some w.heap.size)] 89)) ((World.cell?_alloc_lt _ _ _ hbl).trans x0) (World.cell?_alloc_at _ _ _ _ rfl) (HST2.out.2.1.later (Below.heap_alloc _ _ _ HST2.out.2.1.lt)) (fun s => cntO_some) HSA.out HALN.out (by have := HALN.out; omega)
      have HFIN := hid hfin
      have HB9 := hid (HST2.out.2.2.alloc hwz (.cells #[.map (some w.heap.size)] 89))
      clear hfin hmm
      go_wp2_with (first | (go_at_call 86; refine (lib_KeysR _ _).mono ?_; rintro e w5 ⟨rfl, rfl⟩) | fail)
      with_reducible refine HFIN.out.mono ?_
      clear HFIN x0
      generalize wr.alloc (.cells #[.map (some w.heap.size)] 89) = W9 at *
      rintro e w6 ⟨oa, oc, O, rfl, h1, h2, h3, h4, h5⟩
      have HR : Hid (OrdP w (cntO (allOf cs)) (.returned (.slice oa O.length oc)) w6) := hid ⟨oa, oc, O, rfl, h1, h2, h3, ownsRow_lower h4 HB9.out.size, HB9.out.trans (h5.mono HB9.out.size)⟩
      clear h1 h2 h3 h4 h5
      generalize O.length = on at *
      go_wp2
      go_ret
      exact HR.out

def OrderP (w : World) (ts : List Ta) (e : Ending) (w' : World) : Prop :=
  ∃ (a : Option Addr) (c : Nat) (O : List ByteArray), e = .returned (.tuple #[.slice a O.length c, .int .i64 0]) ∧ O.Nodup ∧ (∀ s, s ∈ O ↔ s ∈ allOf (cvsL ts)) ∧ O.Pairwise (fun x y => olt (cntN (allOf (cvsL ts))) y x = false) ∧
    InS w' (News w w') (.slice a O.length c) O ∧ Below w.heap.size w w'
set_option maxHeartbeats 1000000 in
theorem sig_Order (v : Value) (ts : List Ta) (B : Nat) (w : World) (h : ListV ts) (hv : RdTa w (· < B) v ts) (hB : B ≤ w.heap.size) (hT : Tabs w) :
    Calls Tryz.prog 28 #[v] w (OrderP w ts) := by
  have HV := colsV_of h
  have HVL := hid (table_ValidList v ts B w h hv hB hT)
  have HSS := hid (fun W (hW : Below w.heap.size w W) => sig_sets v ts B W h (hv.keep fun p hp => hW.cell (by have : p.block < B := hp; omega)) (by have := hW.size; omega))
  have HOR := hid (fun W u (hu : RdCv W (· < W.heap.size) u (cvsL ts)) => sig_ordered u (cvsL ts) W.heap.size W hu (Nat.le_refl _) HV.str HV.len HV.many)
  have HG : Hid (∀ s, (cntO (allOf (cvsL ts)) s).getD 0 = cntN (allOf (cvsL ts)) s) := hid (cntO_getD _)
  clear HV
  obtain ⟨a, c, rfl⟩ : ∃ a c, v = .slice a ts.length c := by
    obtain ⟨tv, ⟨a, c, e, -⟩, -⟩ := hv
    exact ⟨a, c, e⟩
  generalize ts.length = L at *
  clear h hv hT
  go_enter Tryz.func28, Tryz.ntmps28
  go_wp2_with fail
  with_reducible refine HVL.out.mono ?_
  rintro e w1 ⟨rfl, hb1⟩
  have HB1 := hid hb1
  clear hb1
  go_wp2_with fail
  with_reducible refine (HSS.out _ HB1.out).mono ?_
  rintro e w2 ⟨sa, sc, rfl, hcv, hb2⟩
  have HB2 := hid (HB1.out.trans (hb2.mono HB1.out.size))
  have HO := hid (HOR.out w2 _ (hcv.read.more fun b hb => hb.2))
  clear hcv hb2
  generalize (cvsL ts).length = n at *
  go_wp2_with fail
  with_reducible refine HO.out.mono ?_
  rintro e w3 ⟨oa, oc, O, rfl, h1, h2, h3, h4, h5⟩
  have HR : Hid (OrderP w ts (.returned (.tuple #[.slice oa O.length oc, .int .i64 0])) w3) := hid ⟨oa, oc, O, rfl, h1, fun s => (h2 s).trans cntO_some, h3.imp fun {x y} h => by
    have e : (fun s => (cntO (allOf (cvsL ts)) s).getD 0) = cntN (allOf (cvsL ts)) := funext HG.out
    rwa [e] at h, (inS_of_own h4).more fun b hb => ⟨Nat.le_trans HB2.out.size (h4.lt b hb).1, (h4.lt b hb).2⟩, HB2.out.trans (h5.mono HB2.out.size)⟩
  clear h1 h2 h3 h4 h5
  generalize O.length = on at *
  go_wp2
  go_ret2
  exact HR.out

end Go.Proofs.YtabemneoobbnaaaGreatDoor
