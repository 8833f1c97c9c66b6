/- DERIVED: THE SHELF's CONTRACTS AT THIS DUMP, IN PLAIN WORDS (tools/lay-plain.mjs out of 'YtikiimlmoalbcaaGreatDoorShKL.lean', which tools/lay-shelf.mjs wrote): THE SAME DECLARATIONS UNDER THE SAME NAMES: 'import', 'namespace', 'open', 'def', 'theorem' AND NOTHING ELSE: no command of the shelf's: FOR A HAND-IN. Each laying: the table of numbers ('.._ren') and one theorem, a field a fact of the dump's own or the kernel's comparison; each contract: ONE APPLICATION. Contract of posting.Values (Qi's, without the texts that Qi imports). Contract of bounded.Common: the common values of a query and a column. Contract of (*search).cheaper: it answers. A search over an index as it stands in memory (SrcSt); the state that begin makes. Contract of bounded.begin. -/
import Derived.Shelf.SlIter.Nil
import Derived.Ground.GgzProg
import Derived.Shelf.SlicesG.Turned
import Derived.Ground.SlgnProg
import Derived.Test.YtikiimlmoalbcaaGreatDoorProg
import Derived.Deep.Cut
import Derived.Deep.CutRange
import Derived.Deep.DeepCutAuto
import Derived.Test.YtikiimlmoalbcaaGreatDoorCoFav
import Derived.Test.YtikiimlmoalbcaaGreatDoorCoFas
set_option linter.unusedVariables false
set_option linter.unusedSimpArgs false
namespace Go.Proofs
open Go.Shelf
def Tryz.containsI_ren : Go.Shelf.Ren := ⟨fun | 31 => 70 | 29 => 133 | n => n, fun | 22 => 34 | 23 => 3 | 4 => 4 | 3 => 3 | 0 => 0 | n => n, fun | n => n⟩
theorem Tryz.containsI : Go.Proofs.SlLaysN.n31 Tryz.prog Tryz.containsI_ren := {
  mixed := by kernel_rfl
  f29 := ⟨Tryz.f133.name, by decide, Tryz.func133.trans (congrArg some (by kernel_rfl))⟩
  f31 := ⟨Tryz.f70.name, by decide, Tryz.func70.trans (congrArg some (by kernel_rfl))⟩
  t0 := Tryz.underlying0
  a0 := Tryz.isAgg0
  z0 := Tryz.sizeOf0
  v0 := Tryz.zeroValue0
  t3 := Tryz.underlying3
  a3 := Tryz.isAgg3
  z3 := Tryz.sizeOf3
  v3 := Tryz.zeroValue3
  t4 := Tryz.underlying4
  a4 := Tryz.isAgg4
  z4 := Tryz.sizeOf4
  v4 := Tryz.zeroValue4
  t22 := Tryz.underlying34
  a22 := Tryz.isAgg34
  z22 := Tryz.sizeOf34
  v22 := Tryz.zeroValue34
  t23 := Tryz.underlying3
  a23 := Tryz.isAgg3
  z23 := Tryz.sizeOf3
  v23 := Tryz.zeroValue3 }
end Go.Proofs

namespace Go.Proofs.YtikiimlmoalbcaaGreatDoor
open Go.RowKit Go.Shelf
theorem below_grownQ {w W W' : World} {r : Option Nat} (h : Below w.heap.size w W) (hg : W.grownBy W' r) (hr : ∀ k, r = some k → w.heap.size ≤ k) : Below w.heap.size w W' :=
  h.trans ⟨hg.os, hg.tape, hg.output, hg.size, fun k hk => hg.block k (Nat.lt_of_lt_of_le hk h.size) (fun e => by have := hr k e.symm; omega)⟩
theorem lib_ContainsN (v : Value) (xs : List Nat) (x : Nat) (B : Nat) (w : World) (hv : InN w (· < B) v xs) :
    Calls Tryz.prog 70 #[v, .int .i64 (x : Int)] w fun e w' => e = .returned (.bool (xs.contains x)) ∧ w' = w := by
  obtain ⟨a, c, rfl, hc, hm, hr⟩ := hv
  have hcon : ((xs.map fun x : Nat => (x : Int)).take xs.length).contains (x : Int) = xs.contains x := by
    rw [List.take_of_length_le (by simp), Bool.eq_iff_iff, List.contains_iff_mem, List.contains_iff_mem, List.mem_map]
    exact ⟨fun ⟨y, hy, e⟩ => by rw [show x = y by omega]; exact hy, fun h => ⟨x, h, rfl⟩⟩
  rcases Nat.eq_zero_or_pos xs.length with h0 | hp
  · have e := List.eq_nil_of_length_eq_zero h0
    subst e
    exact AnyG.slices_Contains_int_empty Tryz.containsI a c (x : Int) w
  · obtain ⟨b, o, rfl, hb, hcell⟩ := hr hp
    rw [← hcon]
    unfold maxLen at hm
    exact AnyG.slices_Contains_int Tryz.containsI b o xs.length c (xs.map fun x : Nat => (x : Int)) (x : Int) w (by simp) (by omega) (fun j hj => by
      rw [List.length_map] at hj
      have h1 := hcell j hj 0 (by omega)
      simp only [Nat.mul_one, Nat.add_zero] at h1
      rw [h1]
      simp [natF, List.getD, hj])
theorem listOfV_contains {cs : List Cv} {i : Nat} (hi : i < cs.length) (s : ByteArray) : (listOfV cs s).contains i = hasL (cs.getD i Cv.z).2 s := by
  rw [Bool.eq_iff_iff, List.contains_iff_mem, listOfV_mem]
  exact ⟨fun h => h.2, fun h => ⟨hi, h⟩⟩
theorem filter_take {vs : List ByteArray} (p : ByteArray → Bool) {q : Nat} (h : q < vs.length) : (vs.take (q + 1)).filter p = (vs.take q).filter p ++ if p (vs.getD q ⟨#[]⟩) = true then [vs.getD q ⟨#[]⟩] else [] := by
  rw [List.take_succ_eq_append_getElem h, List.filter_append, List.filter_cons, List.filter_nil]
  have e : vs.getD q ⟨#[]⟩ = vs[q] := by simp [List.getD, h]
  rw [e]
set_option maxRecDepth 100000 in
set_option maxHeartbeats 2000000 in
theorem posting_Values (cs : List Cv) (hok : CvsOk cs) (ev vv lv : Value) (B i : Nat) (w : World) (hi : i < cs.length) (hx : RdIx w (· < B) ev vv lv (indexOf cs)) (hB : B ≤ w.heap.size) :
  Calls Tryz.prog 125 #[.agg #[ev, vv, lv], .int .i64 (i : Int)] w (GivesS w (cs.getD i Cv.z).2) := by
 obtain ⟨i0, hi0, hz0, hz1, hz2⟩ := info_parts info_str
 obtain ⟨⟨ea, ec, rfl, -⟩, ⟨va, vc, rfl, hvc, hvm, hvr⟩, lf, ⟨la, lc, rfl, hlc, hlm, hlr⟩, hkids⟩ := hx
 have hll : (indexOf cs).lists.length = (setOfL (allOf cs)).length := by simp [indexOf]
 have hvl : (indexOf cs).vals.length = (setOfL (allOf cs)).length := rfl
 have HLR := hid hlr
 have HVR : Hid (∀ q, q < (setOfL (allOf cs)).length → ∃ b o, va = some ⟨b, o, none⟩ ∧ b < B ∧ w.cell? ⟨b, o + q, none⟩ = some (.string ((setOfL (allOf cs)).getD q ⟨#[]⟩))) := hid (fun q hq => by
  obtain ⟨b, o, e3, hb, hc⟩ := hvr (by rw [hvl]; omega)
  have h4 := hc q (by rw [hvl]; exact hq) 0 (by omega)
  simp only [Nat.mul_one, Nat.add_zero] at h4
  exact ⟨b, o, e3, hb, h4⟩)
 have HKI := hid (fun q (hq : q < (setOfL (allOf cs)).length) => (show InN w (· < B) (lf q) (listOfV cs ((setOfL (allOf cs)).getD q ⟨#[]⟩)) from by
  have h1 := hkids q (by rw [hll]; exact hq)
  rwa [show (indexOf cs).lists.getD q [] = listOfV cs ((setOfL (allOf cs)).getD q ⟨#[]⟩) from by simp [indexOf, List.getD, hq]] at h1))
 have HCT := hid (fun s => listOfV_contains hi s)
 have HFIN : Hid (((setOfL (allOf cs)).take (setOfL (allOf cs)).length).filter (hasL (cs.getD i Cv.z).2) = (cs.getD i Cv.z).2) := hid (by rw [List.take_length]; exact vals_filter hok hi)
 have hvals : (setOfL (allOf cs)).length ≤ 268435456 := by
  have h1 := setOfL_len (allOf cs)
  have h2 := all_len (m := 4096) hok.len
  have h3 := hok.many
  have h4 : cs.length * 4096 ≤ 65536 * 4096 := Nat.mul_le_mul_right _ h3
  omega
 rw [hll] at HLR hlc ⊢
 rw [hvl] at hvc ⊢
 clear hlr hvr hkids hll hvl hok
 have HFT := hid (fun q (h : q < (setOfL (allOf cs)).length) => filter_take (hasL (cs.getD i Cv.z).2) h)
 have HFL := hid (fun q => (show (((setOfL (allOf cs)).take q).filter (hasL (cs.getD i Cv.z).2)).length ≤ q from Nat.le_trans (List.length_filter_le _ _) (List.length_take_le _ _)))
 generalize (cs.getD i Cv.z).2 = X at *
 generalize hvs : setOfL (allOf cs) = vs at *
 clear hvs
 generalize hnv : vs.length = n at *
 have HNV := hid hnv
 clear hnv
 generalize (indexOf cs).ents.length = n1 at *
 unfold maxLen at hlm
 have hx0 := BoxN.new w #[.slice ea n1 ec, .slice va n vc, .slice la n lc] 30
 have x1 := hx0.cell 2 rfl
 have HX0 := hid hx0
 have HB0 := hid ((Below.refl w.heap.size w).alloc (Nat.le_refl _) (.cells #[.slice ea n1 ec, .slice va n vc, .slice la n lc] 30))
 clear hx0
 go_enter Tryz.func125, Tryz.ntmps125
 go_wp2_with fail
 clear x1
 generalize w.alloc (.cells #[.slice ea n1 ec, .slice va n vc, .slice la n lc] 30) = W0 at *
 go_loopg [5, 11] n (fun N v i wr => ∃ q : Nat, q + N = n ∧ i = .int .i64 (q : Int) ∧ Hid (Below w.heap.size w wr ∧ BoxN wr w.heap.size 30 #[.slice ea n1 ec, .slice va n vc, .slice la n lc] ∧ wr.ownsRow (w.heap.size + 1) 9 1 v ((vs.take q).filter (hasL X)).length (((vs.take q).filter (hasL X)).map Value.string)))
 case atStart => exact ⟨0, by omega, rfl, hid ⟨HB0.out, HX0.out, World.ownsRow_nil _ _ _ _⟩⟩
 case round =>
  obtain ⟨q, hq, rfl, HST⟩ := hrel
  obtain ⟨oa, oc, rfl⟩ := own_slice HST.out.2.2
  have hwz := HST.out.1.size
  have hxz := HST.out.2.1.lt
  have hfl := HFL.out q
  by_cases hp : 0 < gk
  ·obtain ⟨b, o, rfl, hb, hcell⟩ := HLR.out (by omega)
   have hbw : b < w.heap.size := by have : b < B := hb; omega
   obtain ⟨b2, o2, rfl, hb2, hs2⟩ := HVR.out q (by omega)
   obtain ⟨qa, qc, hlq, -⟩ := HKI.out q (by omega)
   have HCQ := hid (lib_ContainsN (lf q) _ i B wr ((HKI.out q (by omega)).keep fun p (hp : p.block < B) => HST.out.1.cell (p := p) (by omega)))
   rw [HCT.out] at HCQ
   have k0 : wr.cell? ⟨b, o + q, none⟩ = some (lf q) := (HST.out.1.cell (p := ⟨b, o + q, none⟩) hbw).trans (by have := hcell q (by omega) 0 (by omega); simpa using this)
   have k1 : wr.cell? ⟨b2, o2 + q, none⟩ = some (.string (vs.getD q ⟨#[]⟩)) := (HST.out.1.cell (p := ⟨b2, o2 + q, none⟩) (by show b2 < _; omega)).trans hs2
   have x1 := HST.out.2.1.cell 1 rfl
   have HFQ := hid (HFT.out q (by omega))
   rw [hlq] at k0 HCQ
   clear hcell hlq hs2
   generalize (listOfV cs (vs.getD q ⟨#[]⟩)).length = ll at *
   generalize vs.getD q ⟨#[]⟩ = s at *
   generalize hcur : (vs.take q).filter (hasL X) = cur at *
   have hqn : (q : Int) < (n : Int) := by omega
   have hqd : decide ((q : Int) < (n : Int)) = true := decide_eq_true hqn
   generalize hcb : hasL X s = cb at *
   clear hcur hcb
   have HO := hid HST.out.2.2
   generalize hcl : cur.length = m at *
   have HCL := hid hcl
   clear hcl
   cases cb
   ·go_wp2_with fail
    with_reducible refine HCQ.out.mono ?_
    rintro e w1 ⟨rfl, rfl⟩
    have HEQ : Hid ((vs.take (q + 1)).filter (hasL X) = cur) := hid (by rw [HFQ.out]; simp)
    clear k0 k1 x1
    go_wp2_with fail
    go_roundg (gk - 1)
    case rel => exact ⟨q + 1, by omega, by go_num, hid ⟨HST.out.1, HST.out.2.1, by rw [HEQ.out, HCL.out]; exact HO.out⟩⟩
    case measure => omega
   ·go_wp2_with fail
    with_reducible refine HCQ.out.mono ?_
    rintro e w1 ⟨rfl, rfl⟩
    have HEQ : Hid ((vs.take (q + 1)).filter (hasL X) = cur ++ [s]) := hid (by rw [HFQ.out]; simp)
    go_wp2_with (at_builtin; refine wpList_append_form _ rfl (.tmp 26) (.tmp 32) 27 27 rfl (w.heap.size + 1) 9 9 i0 (.string ⟨#[]⟩) 1 16 Tryz.underlying27 Tryz.underlying27 hi0 hz0 hz1 hz2 rfl (by decide) (.slice oa m oc) m (cur.map Value.string) rfl (HO.out.alloc _) (some ⟨_, 0, none⟩) 1 1 [.string s] rfl rfl (fun _ => ⟨_, rfl, cell_one_new _ _ _⟩) (smap_one [s]) (by omega) (by unfold maxLen; omega) (by omega) (by simp; omega) ?_; intro p7 cap7 w7 hown7 hg7 hat7 hlt7; have HOWN7 := hid hown7; have HG7 := hid hg7; clear hown7 hg7 hat7)
    have HBW := hid (HST.out.1.alloc hwz (.cells #[.string s] 9))
    have HB7 := hid (below_grownQ HBW.out HG7.out (fun k hk => by have := (HO.out.lt k hk).1; omega))
    have HX7 := hid ((HST.out.2.1.alloc (.cells #[.string s] 9)).grown HG7.out (fun e => by have := (HO.out.lt _ e.symm).1; omega))
    clear k0 k1 x1
    go_wp2
    go_roundg (gk - 1)
    case rel => exact ⟨q + 1, by omega, by go_num, hid ⟨HB7.out, HX7.out, by rw [HEQ.out, List.length_append, List.length_singleton, HCL.out, List.map_append]; exact HOWN7.out⟩⟩
    case measure => omega
  ·obtain rfl : q = n := by omega
   rw [HFIN.out] at HST
   go_wp2
   go_ret
   exact ⟨oa, oc, (by rw [HFIN.out]; rfl), own_base HST.out.2.2 (by omega), HST.out.1⟩
end Go.Proofs.YtikiimlmoalbcaaGreatDoor

namespace Go.Proofs.YtikiimlmoalbcaaGreatDoor
open Go.RowKit
theorem asc_nodupB {X : List ByteArray} (h : Asc X) : X.Nodup := h.imp fun {a b} h e => by subst e; rw [sl_irrefl] at h; cases h
theorem com_swap {X q : List ByteArray} (hX : X.Nodup) (hq : q.Nodup) : (X.filter (hasL q)).length = (q.filter (hasL X)).length :=
  ((List.perm_ext_iff_of_nodup (hX.sublist List.filter_sublist) (hq.sublist List.filter_sublist)).2 fun v => by
    rw [List.mem_filter, List.mem_filter, hasL_iff, hasL_iff]
    exact and_comm).length_eq
set_option maxRecDepth 100000 in
set_option maxHeartbeats 4000000 in
theorem src_common (cs : List Cv) (hok : CvsOk cs) (q : List ByteArray) (ev vv lv qv : Value) (B c : Nat) (w : World) (hc : c < cs.length) (hx : RdIx w (· < B) ev vv lv (indexOf cs)) (hB : B ≤ w.heap.size) (hq : RdS w w.heap.size qv q) (hasc : Asc q) (hql : q.length ≤ 1099511627776) :
  Calls Tryz.prog 66 #[.agg #[ev, vv, lv], qv, .int .i64 (c : Int)] w (Ret w (.int .i64 ((comC cs q c : Nat) : Int))) := by
 have hsz : (cs.getD c Cv.z).2.length ≤ 4096 := hok.len _ (getD_mem hc Cv.z)
 have HCM : Hid (((cs.getD c Cv.z).2.filter (hasL q)).length = comC cs q c) := hid (com_swap (asc_nodupB (hok.sets _ (getD_mem hc Cv.z))) (asc_nodupB hasc))
 obtain ⟨qa, qc, rfl, hqr⟩ : ∃ a c, qv = .slice a q.length c ∧ RdS w w.heap.size (.slice a q.length c) q := by
  obtain ⟨a, c, e, h⟩ := hq
  subst e
  exact ⟨a, c, rfl, a, c, rfl, h⟩
 have HBIN := hid (fun W s (hW : Below w.heap.size w W) => lib_BinAt (.slice qa q.length qc) q s w.heap.size W (hqr.keep fun p hp => hW.cell (p := p) hp) hasc hql)
 obtain ⟨ea, ec, rfl, -⟩ := hx.ents
 obtain ⟨va, vc, rfl, -⟩ := hx.vals
 obtain ⟨lf, ⟨la, lc, rfl, -⟩, -⟩ := id hx.lists
 have HVAL := hid (fun W (hW : Below w.heap.size w W) => posting_Values cs hok _ _ _ B c W hc (hx.keep fun p (hp : p.block < B) => hW.cell (p := p) (by omega)) (Nat.le_trans hB hW.size))
 have HFT := hid (fun i (h : i < (cs.getD c Cv.z).2.length) => filter_take (hasL q) h)
 have HFL := hid (fun i => (show ((((cs.getD c Cv.z).2.take i).filter (hasL q)).length ≤ i) from Nat.le_trans (List.length_filter_le _ _) (List.length_take_le _ _)))
 clear hx hB hq hqr hok hasc hql
 generalize (cs.getD c Cv.z).2 = X at *
 generalize comC cs q c = R at *
 generalize q.length = ql at *
 generalize (indexOf cs).ents.length = n1 at *
 generalize (indexOf cs).vals.length = n2 at *
 generalize (indexOf cs).lists.length = n3 at *
 have hx0 := BoxN.new w #[.slice ea n1 ec, .slice va n2 vc, .slice la n3 lc] 30
 have x0 := hx0.cell 0 rfl
 have x1 := hx0.cell 1 rfl
 have x2 := hx0.cell 2 rfl
 have HB0 := hid ((Below.refl w.heap.size w).alloc (Nat.le_refl _) (.cells #[.slice ea n1 ec, .slice va n2 vc, .slice la n3 lc] 30))
 clear hx0
 go_enter Tryz.func66, Tryz.ntmps66
 generalize hLA : Code.loop _ = LA
 go_wp2_with fail
 generalize w.alloc (.cells #[.slice ea n1 ec, .slice va n2 vc, .slice la n3 lc] 30) = W0 at *
 with_reducible refine (HVAL.out _ HB0.out).mono ?_
 rintro e w1 ⟨xa, xc, rfl, hown, hb1⟩
 have HR := hid (rdS_of_own hown)
 have HB1 := hid (HB0.out.trans (hb1.mono HB0.out.size))
 clear hown hb1 x0 x1 x2 HB0 HVAL
 obtain ⟨len, hlen⟩ : ∃ len, len = X.length := ⟨_, rfl⟩
 rw [← hlen] at hsz
 have HRX : Hid (∀ i, i < len → ∃ b o, xa = some ⟨b, o, none⟩ ∧ w1.cell? ⟨b, o + i, none⟩ = some (.string (X.getD i ⟨#[]⟩))) := hid (fun i hi => by
  obtain ⟨a, c, e, -, -, h⟩ := HR.out
  obtain ⟨rfl, -, -⟩ := Value.slice.inj e
  obtain ⟨b, o, e2, -, h3⟩ := h (by omega)
  exact ⟨b, o, e2, h3 i (by omega)⟩)
 rw [← hlen]
 have HXL := hid hlen
 clear hlen HR
 subst hLA
 go_wp2_with fail
 go_loopg [16, 7, 9, 10, 11] len (fun K i n u1 u2 u3 wr => ∃ p : Nat, i = .int .i64 (p : Int) ∧ p + K = len ∧ n = .int .i64 ((((X.take p).filter (hasL q)).length : Nat) : Int) ∧ wr = w1)
 case atStart => exact ⟨0, rfl, by omega, by simp, rfl⟩
 case round =>
  obtain ⟨p, rfl, hp0, rfl, rfl⟩ := hrel
  by_cases hp : 0 < gk
  ·have hpl : (p : Int) < (len : Int) := by omega
   obtain ⟨b, o, rfl, k0⟩ := HRX.out p (by omega)
   have HSTEP := hid (HFT.out p (by have := HXL.out; omega))
   have hfl := HFL.out p
   generalize hs : X.getD p ⟨#[]⟩ = s at *
   have HBQ := hid (HBIN.out wr s HB1.out)
   clear hs
   have hpx : (((X.take (p + 1)).filter (hasL q)).length : Nat) = ((X.take p).filter (hasL q)).length + if hasL q s = true then 1 else 0 := by
    rw [HSTEP.out, List.length_append]
    split <;> rfl
   clear HSTEP
   generalize hv : ((X.take p).filter (hasL q)).length = v at *
   clear hv
   generalize hasL q s = F at *
   go_wp2_with fail
   with_reducible refine HBQ.out.mono ?_
   rintro e w2 ⟨z, rfl, rfl, -⟩
   cases F
   ·go_wp2_with fail
    go_roundg (gk - 1)
    case rel => exact ⟨p + 1, by go_num, by omega, by rw [hpx]; rfl, rfl⟩
    case measure => omega
   ·go_wp2_with fail
    go_roundg (gk - 1)
    case rel => exact ⟨p + 1, by go_num, by omega, by rw [hpx]; go_num, rfl⟩
    case measure => omega
  ·obtain rfl : gk = 0 := by omega
   obtain rfl : p = len := by omega
   have e : ((X.take p).filter (hasL q)).length = R := by rw [HXL.out, List.take_length]; exact HCM.out
   rw [e]
   go_wp2
   go_ret
   exact ⟨rfl, HB1.out⟩
end Go.Proofs.YtikiimlmoalbcaaGreatDoor

namespace Go.Proofs.YtikiimlmoalbcaaGreatDoor
open Go.RowKit
def CheapP (w : World) (e : Ending) (w' : World) : Prop := ∃ b, e = .returned (.bool b) ∧ Below w.heap.size w w'
theorem ent_size {w : World} {S : Nat → Prop} {ea : Option Addr} {E ec : Nat} {cs : List Cv} (hx : InK 3 w S (.slice ea E ec) E (entF (entsOf cs))) (hE : cs.length = E) {c : Nat} (hc : c < E) :
    ∃ b o, ea = some ⟨b, o, none⟩ ∧ S b ∧ w.cell? ⟨b, o + c * 3 + 2, none⟩ = some (.int .i64 ((sizeC cs c : Nat) : Int)) := by
  obtain ⟨ea', ec', e9, hec, hem, her⟩ := hx
  obtain ⟨rfl, -, rfl⟩ := Value.slice.inj e9
  obtain ⟨b, o, e, hbS, hcell⟩ := her (by omega)
  refine ⟨b, o, e, hbS, ?_⟩
  have hcl : c < cs.length := by omega
  have h := hcell c hc 2 (by omega)
  rw [show entF (entsOf cs) c 2 = .int .i64 ((sizeC cs c : Nat) : Int) by simp [entF, three, entsOf, sizeC, List.getD, hcl]] at h
  exact h
theorem num_at {w : World} {S : Nat → Prop} {xa : Option Addr} {m xc : Nat} {pl : List Nat} (hp : InN w S (.slice xa m xc) pl) (hm : pl.length = m) : m ≤ xc ∧ xc ≤ maxLen ∧ ∀ i, i < m → ∃ b o, xa = some ⟨b, o, none⟩ ∧ S b ∧ w.cell? ⟨b, o + i, none⟩ = some (.int .i64 ((pl.getD i 0 : Nat) : Int)) := by
  obtain ⟨xa', xc', e8, hxc, hxm, hpr⟩ := hp
  obtain ⟨rfl, -, rfl⟩ := Value.slice.inj e8
  refine ⟨by omega, hxm, fun i hi => ?_⟩
  obtain ⟨b, o, e, hS, hc⟩ := hpr (by omega)
  exact ⟨b, o, e, hS, by have h := hc i (by omega) 0 (by omega); simpa [natF] using h⟩
set_option maxRecDepth 100000 in
set_option maxHeartbeats 8000000 in
theorem src_cheaper (cs : List Cv) (vv qv fv lo : Value) (ea la xa ca : Option Addr) (E ec NL lc m xc r sb n cc : Nat) (pl cols : List Nat) (w : World) (hx : RdIx w (· < w.heap.size) (.slice ea E ec) vv (.slice la NL lc) (indexOf cs)) (hE : cs.length = E) (hNL : (indexOf cs).lists.length = NL)
  (hp : InN w (· < w.heap.size) (.slice xa m xc) pl) (hpm : pl.length = m) (hpl : ∀ j, j < m → pl.getD j 0 < NL) (hx0 : m = 0 → xa = none ∧ xc = 0)
  (hb : SrcBox w sb (.slice ea E ec) vv (.slice la NL lc) qv (.slice xa m xc) r lo fv) (hr : r ≤ m) (hm : m ≤ 1048576) (hco : InN w (· < w.heap.size) (.slice ca n cc) cols) (hcn : cols.length = n) (hcl : ∀ j, j < n → cols.getD j 0 < E) (hn : n ≤ 1048576) (hsz : ∀ c, c < E → sizeC cs c ≤ 1048576) (hll : ∀ L ∈ (indexOf cs).lists, L.length ≤ 1048576) :
  Calls Tryz.prog 157 #[.pointer (some ⟨sb, 0, none⟩), .slice ca n cc] w (CheapP w) := by
 obtain ⟨-, -, hcol⟩ := num_at hco hcn
 obtain ⟨hmx, hmm, hlst⟩ := num_at hp hpm
 have hel : (indexOf cs).ents.length = E := by rw [← hE]; exact ents_len cs
 have hent := hx.ents
 rw [hel] at hent
 have HENT := hid (fun c (hc : c < E) => ent_size (cs := cs) hent hE hc)
 have hec : E ≤ ec ∧ ec ≤ maxLen := by obtain ⟨_, _, e, h1, h2, -⟩ := hent; obtain ⟨-, -, rfl⟩ := Value.slice.inj e; exact ⟨h1, h2⟩
 obtain ⟨lf, ⟨la', lc', e9, hlc, hlm, hlr⟩, hkids⟩ := hx.lists
 obtain ⟨rfl, -, rfl⟩ := Value.slice.inj e9
 have HLL := hid (fun x (hx : x < NL) => (by
  obtain ⟨b, o, e, hbS, hcell⟩ := hlr (by omega)
  obtain ⟨a1, d1, e1, -⟩ := hkids x (by omega)
  have hLm : (indexOf cs).lists.getD x [] ∈ (indexOf cs).lists := by
   have h1 : x < (indexOf cs).lists.length := by omega
   have h2 : (indexOf cs).lists.getD x [] = (indexOf cs).lists[x] := (List.getElem_eq_getD _).symm
   rw [h2]
   exact List.getElem_mem _
  refine ⟨b, o, a1, ((indexOf cs).lists.getD x []).length, d1, e, hbS, ?_, hll _ hLm⟩
  have h := hcell x (by omega) 0 (by omega)
  rw [← e1]
  simpa using h : ∃ b o a1 l1 d1, la = some ⟨b, o, none⟩ ∧ b < w.heap.size ∧ w.cell? ⟨b, o + x, none⟩ = some (.slice a1 l1 d1) ∧ l1 ≤ 1048576))
 have HCOL := hid (fun j (h : j < n) => hcol j h)
 have HLST := hid (fun j (h : j < m) => hlst j h)
 have HCL := hid hcl
 have HPL := hid hpl
 have HSZ := hid hsz
 have HBX := hid hb
 have b0 := BoxN.cell hb 0 rfl
 clear hx hp hb hco hent hcol hlst hlr hkids e9 hcl hpl hsz hll hpm hcn hel
 rw [hNL] at hlc
 clear hNL
 unfold maxLen at *
 by_cases hm0 : m = 0
 ·obtain ⟨rfl, rfl⟩ := hx0 hm0
  subst hm0
  obtain rfl : r = 0 := by omega
  clear hx0
  have HB2 := hid (fun nq => (⟨rfl, rfl, rfl, Nat.le_refl _, fun _ _ => rfl⟩ : Below w.heap.size w (w.drewN nq)))
  go_enter Tryz.func157, Tryz.ntmps157
  generalize hLA : Code.loop _ = LA
  generalize hLB : Code.loop _ = LB
  go_wp2_with fail
  subst hLA
  go_wp2_with fail
  go_loopg [12, 5, 7] n (fun K i z u wr => ∃ (q : Nat) (zi : Int), i = .int .i64 (q : Int) ∧ q + K = n ∧ z = .int .i64 zi ∧ 0 ≤ zi ∧ zi ≤ (q : Int) * 1048576 ∧ wr = w)
  case atStart => exact ⟨0, 0, rfl, by omega, rfl, by omega, by omega, rfl⟩
  case round =>
   obtain ⟨q, zi, rfl, hq, rfl, hz1, hz2, rfl⟩ := hrel
   by_cases hp : 0 < gk
   ·have hqn : (q : Int) < (n : Int) := by omega
    obtain ⟨cb, co, rfl, -, k1⟩ := HCOL.out q (by omega)
    have hcE := HCL.out q (by omega)
    have hsc := HSZ.out _ hcE
    obtain ⟨eb, eo, rfl, -, k2⟩ := HENT.out _ hcE
    generalize sizeC cs (cols.getD q 0) = sz at *
    generalize cols.getD q 0 = c at *
    have hcEi : (c : Int) < (E : Int) := by omega
    have hc0 : (0 : Int) ≤ (c : Int) := by omega
    have hz3 : zi ≤ 1099511627776 := by omega
    go_wp2_with fail
    go_roundg (gk - 1)
    case rel => exact ⟨q + 1, zi + (sz : Int), by go_num, by omega, by go_num, by omega, by omega, rfl⟩
    case measure => omega
   ·obtain rfl : gk = 0 := by omega
    obtain rfl : q = n := by omega
    have b4 := BoxN.cell HBX.out 4 rfl
    have b5 := BoxN.cell HBX.out 5 rfl
    go_wp2_with fail
    go_quiet (fail)
    subst hLB
    clear b4 b5
    go_wp2_with fail
    refine wp_loop_rounds 1 ?_
    rw [rounds_succ]
    go_wp2
    go_ret
    exact ⟨_, rfl, HB2.out _⟩
 ·obtain ⟨pb, po, rfl, -, -⟩ := HLST.out 0 (by omega)
  have HLS : Hid (∀ j, j < m → w.cell? ⟨pb, po + j, none⟩ = some (.int .i64 ((pl.getD j 0 : Nat) : Int))) := hid (fun j hj => by
   obtain ⟨b, o, e, -, h⟩ := HLST.out j hj
   injection e with e
   injection e with e1 e2
   subst e1 e2
   exact h)
  clear hx0 HLST
  have HB2 := hid (fun nq => (⟨rfl, rfl, rfl, Nat.le_refl _, fun _ _ => rfl⟩ : Below w.heap.size w (w.drewN nq)))
  have hri : (r : Int) ≤ (m : Int) := by omega
  have hr0 : (0 : Int) ≤ (r : Int) := by omega
  have hmi : (m : Int) ≤ (xc : Int) := by omega
  go_enter Tryz.func157, Tryz.ntmps157
  generalize hLA : Code.loop _ = LA
  generalize hLB : Code.loop _ = LB
  go_wp2_with fail
  subst hLA
  go_wp2_with fail
  go_loopg [12, 5, 7] n (fun K i z u wr => ∃ (q : Nat) (zi : Int), i = .int .i64 (q : Int) ∧ q + K = n ∧ z = .int .i64 zi ∧ 0 ≤ zi ∧ zi ≤ (q : Int) * 1048576 ∧ wr = w)
  case atStart => exact ⟨0, 0, rfl, by omega, rfl, by omega, by omega, rfl⟩
  case round =>
   obtain ⟨q, zi, rfl, hq, rfl, hz1, hz2, rfl⟩ := hrel
   by_cases hp : 0 < gk
   ·have hqn : (q : Int) < (n : Int) := by omega
    obtain ⟨cb, co, rfl, -, k1⟩ := HCOL.out q (by omega)
    have hcE := HCL.out q (by omega)
    have hsc := HSZ.out _ hcE
    obtain ⟨eb, eo, rfl, -, k2⟩ := HENT.out _ hcE
    generalize sizeC cs (cols.getD q 0) = sz at *
    generalize cols.getD q 0 = c at *
    have hcEi : (c : Int) < (E : Int) := by omega
    have hc0 : (0 : Int) ≤ (c : Int) := by omega
    have hz3 : zi ≤ 1099511627776 := by omega
    go_wp2_with fail
    go_roundg (gk - 1)
    case rel => exact ⟨q + 1, zi + (sz : Int), by go_num, by omega, by go_num, by omega, by omega, rfl⟩
    case measure => omega
   ·obtain rfl : gk = 0 := by omega
    obtain rfl : q = n := by omega
    have b4 := BoxN.cell HBX.out 4 rfl
    have b5 := BoxN.cell HBX.out 5 rfl
    go_wp2_with fail
    go_quiet (fail)
    have hsa : r < m → (if xc = r then some (⟨pb, po, none⟩ : Addr) else some ⟨pb, po + r, none⟩) = some ⟨pb, po + r, none⟩ := fun h => if_neg (by omega)
    generalize (if xc = r then some (⟨pb, po, none⟩ : Addr) else some ⟨pb, po + r, none⟩) = sa at *
    obtain ⟨k, hk⟩ : ∃ k, k = m - r := ⟨_, rfl⟩
    rw [← hk]
    obtain ⟨sx, hsx⟩ : ∃ k, k = xc - r := ⟨_, rfl⟩
    rw [← hsx]
    have hz4 : zi ≤ 1099511627776 := by omega
    have hk2 : k + r = m := by omega
    clear hk hsx hz2 hp hq b4 b5
    obtain ⟨z0, hz0⟩ : ∃ z0, z0 = zi := ⟨_, rfl⟩
    have hz5 : 0 ≤ z0 := by omega
    have hz6 : z0 ≤ 1099511627776 := by omega
    obtain ⟨W1, hW1⟩ : ∃ W1, W1 = wr.drewN nq := ⟨_, rfl⟩
    have HBW := hid (HB2.out nq)
    have HCW : Hid (∀ p, W1.cell? p = wr.cell? p) := hid (by rw [hW1]; intro p; rfl)
    rw [← hW1] at HBW
    rw [← hW1]
    clear hW1 HB2
    subst hLB
    go_wp2_with fail
    go_loopg [38, 5, 9] k (fun K i z u W => ∃ (p : Nat) (y : Int), i = .int .i64 (p : Int) ∧ p + K = k ∧ z = .int .i64 y ∧ -((p : Int) * 1048576) ≤ y ∧ y ≤ 1099511627776 ∧ W = W1)
    case atStart => exact ⟨0, zi, rfl, by omega, rfl, by omega, by omega, rfl⟩
    case round =>
     obtain ⟨p, y, rfl, hp2, rfl, hy1, hy2, rfl⟩ := hrel
     by_cases hp : 0 < gk
     ·have hpk : (p : Int) < (k : Int) := by omega
      obtain rfl := hsa (by omega)
      have k1 := (HCW.out _).trans (HLS.out (r + p) (by omega))
      have hxN := HPL.out (r + p) (by omega)
      rw [← Nat.add_assoc] at k1
      generalize pl.getD (r + p) 0 = x at *
      obtain ⟨lb, lo2, a1, l1, d1, rfl, -, k2, hl1⟩ := HLL.out x hxN
      have hxi : (x : Int) < (NL : Int) := by omega
      have hx0 : (0 : Int) ≤ (x : Int) := by omega
      have b2 := (HCW.out _).trans (BoxN.cell HBX.out 2 rfl)
      have k2 := (HCW.out _).trans k2
      have hpm : p ≤ 1048576 := by omega
      have hy3 : -(1099511627776 : Int) ≤ y := by omega
      go_wp2_with fail
      go_roundg (gk - 1)
      case rel => exact ⟨p + 1, y - (l1 : Int), by go_num, by omega, by go_num, by omega, by omega, rfl⟩
      case measure => omega
     ·obtain rfl : gk = 0 := by omega
      go_wp2
      go_ret
      exact ⟨_, rfl, HBW.out⟩
end Go.Proofs.YtikiimlmoalbcaaGreatDoor

namespace Go.Proofs.YtikiimlmoalbcaaGreatDoor
open Go.RowKit
def valAt (cs : List Cv) (j : Nat) : ByteArray := (setOfL (allOf cs)).getD j ⟨#[]⟩
def vsOf (cs : List Cv) (pl : List Nat) : List ByteArray := pl.map (valAt cs)
def lowsL (cs : List Cv) (vs : List ByteArray) (r : Nat) : List Nat := (List.range cs.length).map (lowC cs vs r)
theorem lowsL_len (cs : List Cv) (vs : List ByteArray) (r : Nat) : (lowsL cs vs r).length = cs.length := by simp [lowsL]
theorem lowsL_at {cs : List Cv} {vs : List ByteArray} {r c : Nat} (hc : c < cs.length) : (lowsL cs vs r).getD c 0 = lowC cs vs r c := by simp [lowsL, List.getD, hc]
theorem lowsL_zero (cs : List Cv) (vs : List ByteArray) : lowsL cs vs 0 = List.replicate cs.length 0 := by
  refine List.ext_getElem (by simp [lowsL]) fun i h1 h2 => ?_
  simp [lowsL, low_zero]
theorem idx_list {cs : List Cv} {j : Nat} (hj : j < (setOfL (allOf cs)).length) : (indexOf cs).lists.getD j [] = listOfV cs (valAt cs j) := by simp [indexOf, List.getD, hj, valAt]
theorem idx_lists (cs : List Cv) : (indexOf cs).lists.length = (setOfL (allOf cs)).length := by simp [indexOf]
theorem lowsL_next {cs : List Cv} {pl : List Nat} {r : Nat} (hr : r < pl.length) (hj : pl.getD r 0 < (setOfL (allOf cs)).length) {ys : List Nat} (h : incL (lowsL cs (vsOf cs pl) r) ((indexOf cs).lists.getD (pl.getD r 0) []) ys) : ys = lowsL cs (vsOf cs pl) (r + 1) := by
  obtain ⟨h1, h2⟩ := h
  rw [lowsL_len] at h1 h2
  refine List.ext_getElem (by rw [h1, lowsL_len]) fun i hi hi2 => ?_
  have hc : i < cs.length := by omega
  have e1 := h2 i hc
  rw [lowsL_at hc, idx_list hj, listOfV_count hc] at e1
  have hv : (vsOf cs pl).length = pl.length := by simp [vsOf]
  have e2 := low_succ cs (vs := vsOf cs pl) (r := r) (by omega) i
  have e3 : (vsOf cs pl).getD r ⟨#[]⟩ = valAt cs (pl.getD r 0) := by simp [vsOf, List.getD, hr]
  rw [e3, ← e1] at e2
  have e4 := lowsL_at (cs := cs) (vs := vsOf cs pl) (r := r + 1) hc
  have e5 : ys.getD i 0 = ys[i] := (List.getElem_eq_getD _).symm
  have e6 : (lowsL cs (vsOf cs pl) (r + 1)).getD i 0 = (lowsL cs (vsOf cs pl) (r + 1))[i] := (List.getElem_eq_getD _).symm
  rw [← e5, ← e6, e4, e2]
structure SrcIn (w0 : World) (cs : List Cv) (q : List ByteArray) (ev vv lv qv : Value) : Prop where
  ok : CvsOk cs
  rd : RdIx w0 (· < w0.heap.size) ev vv lv (indexOf cs)
  qrd : RdS w0 w0.heap.size qv q
  asc : Asc q
  ql : q.length ≤ 1048576
theorem SrcIn.later {w0 w : World} {cs : List Cv} {q : List ByteArray} {ev vv lv qv : Value} (h : SrcIn w0 cs q ev vv lv qv) (hb : Below w0.heap.size w0 w) : SrcIn w cs q ev vv lv qv :=
  ⟨h.ok, (h.rd.keep fun p hp => hb.cell (p := p) hp).more fun b hb' => Nat.lt_of_lt_of_le hb' hb.size, by
    obtain ⟨a, c, e, h1, h2, h3⟩ := h.qrd
    refine ⟨a, c, e, h1, h2, fun hp => ?_⟩
    obtain ⟨b, o, e2, hlt, hcell⟩ := h3 hp
    exact ⟨b, o, e2, Nat.lt_of_lt_of_le hlt hb.size, fun i hi => (hb.cell (p := ⟨b, o + i, none⟩) hlt).trans (hcell i hi)⟩, h.asc, h.ql⟩
theorem SrcIn.vals {w0 : World} {cs : List Cv} {q : List ByteArray} {ev vv lv qv : Value} (h : SrcIn w0 cs q ev vv lv qv) : (setOfL (allOf cs)).length ≤ 268435456 := by
  have h1 := setOfL_len (allOf cs)
  have h2 := all_len (m := 4096) h.ok.len
  have h3 := h.ok.many
  have h4 : cs.length * 4096 ≤ 65536 * 4096 := Nat.mul_le_mul_right _ h3
  omega
structure SrcSt (w0 w : World) (cs : List Cv) (q : List ByteArray) (ev vv lv qv fv : Value) (sb lb : Nat) (xa : Option Addr) (xc cap : Nat) (pl : List Nat) (r : Nat) : Prop where
  box : SrcBox w sb ev vv lv qv (.slice xa pl.length xc) r (.slice (some ⟨lb, 0, none⟩) cs.length cap) fv
  low : RowI w w0.heap.size lb cap cs.length (lowsL cs (vsOf cs pl) r)
  lst : InN w (fun k => (w0.heap.size ≤ k ∧ k < w.heap.size) ∧ k ≠ sb ∧ k ≠ lb) (.slice xa pl.length xc) pl
  nil : pl.length = 0 → xa = none ∧ xc = 0
  lt : ∀ j, j < pl.length → pl.getD j 0 < (setOfL (allOf cs)).length
  ok : ReadOk cs q (vsOf cs pl)
  le : r ≤ pl.length
  ge : w0.heap.size ≤ sb ∧ sb ≠ lb
  below : Below w0.heap.size w0 w
section
variable {w0 w : World} {cs : List Cv} {q : List ByteArray} {ev vv lv qv fv : Value} {sb lb xc cap r : Nat} {xa : Option Addr} {pl : List Nat}
theorem SrcSt.len (h : SrcSt w0 w cs q ev vv lv qv fv sb lb xa xc cap pl r) : pl.length ≤ q.length := by
  have h1 := vs_le h.ok
  simpa [vsOf] using h1
theorem SrcSt.later {W : World} (h : SrcSt w0 w cs q ev vv lv qv fv sb lb xa xc cap pl r) (hb : Below w.heap.size w W) : SrcSt w0 W cs q ev vv lv qv fv sb lb xa xc cap pl r :=
  ⟨SrcBox_below h.box hb, h.low.later hb, (InK.keep h.lst fun p hp => hb.cell (p := p) hp.1.2).more fun b hb' => ⟨⟨hb'.1.1, Nat.lt_of_lt_of_le hb'.1.2 hb.size⟩, hb'.2⟩, h.nil, h.lt, h.ok, h.le, h.ge, h.below.trans (hb.mono h.below.size)⟩
theorem SrcSt.low_le (h : SrcSt w0 w cs q ev vv lv qv fv sb lb xa xc cap pl r) (hq : q.length ≤ 1048576) (j : Nat) : (lowsL cs (vsOf cs pl) r).getD j 0 ≤ 1048576 := by
  by_cases hj : j < cs.length
  · rw [lowsL_at hj]
    have h1 := low_le_com h.ok r j
    have h2 := com_le_q (cs := cs) (q := q) j
    omega
  · have e : (lowsL cs (vsOf cs pl) r).getD j 0 = 0 := by
      have h2 : ¬ j < (lowsL cs (vsOf cs pl) r).length := by rw [lowsL_len]; exact hj
      simp [List.getD, h2]
    omega
end
theorem zeros_row (w : World) (n : Nat) (hn : n ≤ 1048576) (B : Nat) (hB : B ≤ w.heap.size) : RowI (w.alloc (.cells (madeCells #[.int .i64 0] n) 3)) B w.heap.size n n (List.replicate n 0) := by
  refine ⟨by simp, by simp [natsV], .inr ⟨w.heap.size, n, madeCells #[.int .i64 0] n, rfl, hB, heap_alloc_new w _, Nat.le_refl _, by unfold maxLen; omega, by simp [size_madeCells], ?_⟩⟩
  refine List.ext_getElem (by simp [natsV, size_madeCells]) fun i h1 h2 => ?_
  simp [natsV, madeCells, Nat.mod_one]
end Go.Proofs.YtikiimlmoalbcaaGreatDoor

namespace Go.Proofs.YtikiimlmoalbcaaGreatDoor
open Go.RowKit
set_option maxRecDepth 100000 in
set_option maxHeartbeats 4000000 in
theorem sort_none (xb : Nat) (w : World) :
    Calls Tryz.prog 153 #[.slice none 0 0, .func (.func 154) #[] #[.pointer (some ⟨xb, 0, none⟩)]] w (fun e w' => e = .returned (.tuple #[]) ∧ w' = w) := by
  have HI : ∀ W, Calls Tryz.prog 214 #[.slice none 0 0, .int .i64 0, .int .i64 0, .func (.func 154) #[] #[.pointer (some ⟨xb, 0, none⟩)]] W (fun e w' => e = .returned (.tuple #[]) ∧ w' = W) := by
    intro W
    go_enter Tryz.func214, Tryz.ntmps214
    go_wp2
    refine wp_loop_rounds 1 ?_
    rw [rounds_succ]
    go_wp2
    go_end0
    exact ⟨rfl, rfl⟩
  have HSS : ∀ W, Calls Tryz.prog 185 #[.slice none 0 0, .int .i64 0, .func (.func 154) #[] #[.pointer (some ⟨xb, 0, none⟩)]] W (fun e w' => e = .returned (.tuple #[]) ∧ w' = W) := by
    intro W
    go_enter Tryz.func185, Tryz.ntmps185
    go_wp2_with fail
    refine wp_loop_rounds 1 ?_
    rw [rounds_succ]
    go_wp2_with fail
    with_reducible refine (HI _).mono ?_
    rintro e w1 ⟨rfl, rfl⟩
    go_wp2_with fail
    refine wp_loop_rounds 1 ?_
    rw [rounds_succ]
    go_wp2
    go_end0
    exact ⟨rfl, rfl⟩
  go_enter Tryz.func153, Tryz.ntmps153
  go_wp2_with fail
  with_reducible refine (HSS _).mono ?_
  rintro e w1 ⟨rfl, rfl⟩
  go_wp2
  go_end0
  exact ⟨rfl, rfl⟩
structure BgSt (w wr : World) (cs : List Cv) (ev vv lv qv fv : Value) (E : Nat) (xa : Option Addr) (xc : Nat) (pl : List Nat) : Prop where
  below : Below w.heap.size w wr
  ix : BoxN wr w.heap.size 30 #[ev, vv, lv]
  box : SrcBox wr (w.heap.size + 2) ev vv lv qv (.slice xa pl.length xc) 0 (.slice (some ⟨w.heap.size + 1, 0, none⟩) E E) fv
  low : RowI wr w.heap.size (w.heap.size + 1) E E (List.replicate E 0)
  own : wr.ownsRow (w.heap.size + 3) 3 1 (.slice xa pl.length xc) pl.length (natsV pl)
  nil : pl.length = 0 → xa = none ∧ xc = 0
  lt : ∀ j, j < pl.length → pl.getD j 0 < (setOfL (allOf cs)).length
theorem BgSt.push {w wr w7 : World} {cs : List Cv} {ev vv lv qv fv : Value} {E : Nat} {xa : Option Addr} {xc : Nat} {pl : List Nat} (h : BgSt w wr cs ev vv lv qv fv E xa xc pl) {O : Obj} {g cap z : Nat} {m : Nat} (hm : m = pl.length)
    (hown : w7.ownsRow (w.heap.size + 3) 3 1 (.slice (some ⟨g, 0, none⟩) (m + 1) cap) (m + 1) (natsV pl ++ [.int .i64 (z : Int)])) (hg : (wr.alloc O).grownBy w7 (Value.slice xa m xc).ownBlock) (hz : z < (setOfL (allOf cs)).length) :
    BgSt w (w7.setCell ⟨w.heap.size + 2, 4, none⟩ (.slice (some ⟨g, 0, none⟩) (m + 1) cap)) cs ev vv lv qv fv E (some ⟨g, 0, none⟩) cap (pl ++ [z]) := by
  subst hm
  have hb : ∀ k, (Value.slice xa pl.length xc).ownBlock = some k → w.heap.size + 3 ≤ k := fun k hk => (h.own.lt k hk).1
  have hgl : w.heap.size + 3 ≤ g ∧ g < w7.heap.size := hown.lt g rfl
  have hsz := h.box.lt
  have B1 : Below w.heap.size w w7 := below_grownQ (h.below.alloc (by omega) O) hg (fun k hk => by have := hb k hk; omega)
  have e1 : (pl ++ [z]).length = pl.length + 1 := by simp
  have R1 : RowI w7 (w.heap.size + 3) g cap (pl.length + 1) (pl ++ [z]) := ⟨e1, by simpa [natsV] using hown⟩
  have R2 : RowI (w7.setCell ⟨w.heap.size + 2, 4, none⟩ (.slice (some ⟨g, 0, none⟩) (pl.length + 1) cap)) (w.heap.size + 3) g cap (pl.length + 1) (pl ++ [z]) := R1.same (Below.heap_setCell _ _ _ _ (by show g ≠ w.heap.size + 2; omega))
  refine ⟨B1.setCell (p := ⟨w.heap.size + 2, 4, none⟩) (by show w.heap.size ≤ w.heap.size + 2; omega) _, ?_, ?_, ?_, ?_, fun h0 => by rw [e1] at h0; omega, fun j hj => ?_⟩
  · exact BoxN.other ((h.ix.alloc O).grown hg (fun e => by have := hb _ e.symm; omega)) (by show w.heap.size + 2 ≠ w.heap.size; omega) _
  · rw [e1]
    exact BoxN.set (BoxN.grown (BoxN.alloc h.box O) hg (fun e => by have := hb _ e.symm; omega)) 4 _
  · refine h.low.same ?_
    have hl := h.low.lt
    exact (Below.heap_setCell _ _ _ _ (by show w.heap.size + 1 ≠ w.heap.size + 2; omega)).trans ((hg.block _ (by rw [World.size_alloc]; omega) (fun e => by have := hb _ e.symm; omega)).trans (Below.heap_alloc _ _ _ hl.2))
  · rw [e1]
    exact R2.2
  · rw [e1] at hj
    by_cases hjl : j < pl.length
    · have h1 := h.lt j hjl
      simpa [List.getD, List.getElem?_append_left hjl] using h1
    · obtain rfl : j = pl.length := by omega
      simpa [List.getD] using hz
def BeginP (w : World) (cs : List Cv) (q : List ByteArray) (ev vv lv qv fv : Value) (e : Ending) (w' : World) : Prop :=
  ∃ sb lb xa xc cap pl, e = .returned (.pointer (some ⟨sb, 0, none⟩)) ∧ SrcSt w w' cs q ev vv lv qv fv sb lb xa xc cap pl 0
theorem BgSt.done {w wr w8 : World} {cs : List Cv} {q : List ByteArray} {ev vv lv qv fv : Value} {xc pb : Nat} {pl ys : List Nat} (h : BgSt w wr cs ev vv lv qv fv cs.length (some ⟨pb, 0, none⟩) xc pl)
    (hv : vsOf cs pl = q.filter (hasL (setOfL (allOf cs)))) (hp : ys.Perm pl) (hr : RowI w8 (w.heap.size + 3) pb xc pl.length ys) (hb : BarZ wr pb w8) :
    SrcSt w w8 cs q ev vv lv qv fv (w.heap.size + 2) (w.heap.size + 1) (some ⟨pb, 0, none⟩) xc cs.length ys 0 := by
  have hpb := hr.lt
  have hsz := h.box.lt
  have hlz := h.low.lt
  have e1 : ys.length = pl.length := hp.length_eq
  have hpo : 0 < pl.length := by
    rcases Nat.eq_zero_or_pos pl.length with h0 | h0
    · have := h.nil h0; simp at this
    · exact h0
  refine ⟨?_, ?_, ?_, fun h0 => by omega, fun j hj => ?_, ?_, Nat.zero_le _, ⟨by omega, by omega⟩, h.below.trans (hb.below h.below.size (by omega))⟩
  · rw [e1]
    exact (hb.block _ hsz (by omega)).trans h.box
  · rw [lowsL_zero]
    exact h.low.same (hb.block _ hlz.2 (by omega))
  · rw [e1]
    have h1 := hr.2
    rw [← e1] at h1
    have h2 := inN_of_own h1
    rw [e1] at h2
    refine InK.more h2 fun b hb' => ?_
    simp [Value.ownBlock] at hb'
    subst hb'
    omega
  · have h1 : ys.getD j 0 ∈ pl := hp.mem_iff.1 (getD_mem hj 0)
    obtain ⟨i, hi, e⟩ := List.getElem_of_mem h1
    have h2 := h.lt i hi
    rwa [← List.getElem_eq_getD, e] at h2
    exact hi
  · unfold ReadOk
    rw [← hv]
    exact hp.map _
theorem BgSt.none {w wr : World} {cs : List Cv} {q : List ByteArray} {ev vv lv qv fv : Value} {xc : Nat} {xa : Option Addr} {pl : List Nat} (h : BgSt w wr cs ev vv lv qv fv cs.length xa xc pl)
    (hv : vsOf cs pl = q.filter (hasL (setOfL (allOf cs)))) (hp : pl.length = 0) :
    SrcSt w wr cs q ev vv lv qv fv (w.heap.size + 2) (w.heap.size + 1) xa xc cs.length pl 0 := by
  have hsz := h.box.lt
  refine ⟨h.box, by rw [lowsL_zero]; exact h.low, ?_, h.nil, h.lt, ?_, Nat.zero_le _, ⟨by omega, by omega⟩, h.below⟩
  · obtain ⟨rfl, rfl⟩ := h.nil hp
    have e : pl = [] := List.eq_nil_of_length_eq_zero hp
    subst e
    exact InK.nil
  · unfold ReadOk
    rw [← hv]
end Go.Proofs.YtikiimlmoalbcaaGreatDoor
