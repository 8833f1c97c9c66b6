/- Plain: what an index of columns has. No program in sight. The walk of PostingSizes, given its sanity check. Contract of posting.Valid at the index of columns in order. DERIVED: THE SHELF's CONTRACTS AT THIS DUMP, IN PLAIN WORDS (tools/lay-plain.mjs out of 'YtikiimlmoalbcaaGreatDoorShKL.lean', which tools/lay-shelf.mjs wrote): THE SAME DECLARATIONS UNDER THE SAME NAMES: 'import', 'namespace', 'open', 'def', 'theorem' AND NOTHING ELSE: no command of the shelf's: FOR A HAND-IN. Each laying: the table of numbers ('.._ren') and one theorem, a field a fact of the dump's own or the kernel's comparison; each contract: ONE APPLICATION. Contract of posting.Values (Qi's, without the texts that Qi imports). -/
import Derived.Test.YtikiimlmoalbcaaGreatDoorOOtai
import Derived.Deep.Cut
import Derived.Deep.CutRange
import Derived.Deep.DeepCutAuto
import Derived.Shelf.SlIter.Nil
import Derived.Ground.GgzProg
import Derived.Shelf.SlicesG.Turned
import Derived.Ground.SlgnProg
import Derived.Test.YtikiimlmoalbcaaGreatDoorProg
set_option linter.unusedVariables false
set_option linter.unusedSimpArgs false
namespace Go.Proofs.YtikiimlmoalbcaaGreatDoor
open Go.RowKit
def refZ (c : Cv) : Int × Int := (c.1.1, (c.1.2 : Int))
structure CvsOk (cs : List Cv) : Prop where
  up : cs.Pairwise (fun a b => rlt (refZ a) (refZ b) = true)
  ids : ∀ c ∈ cs, 0 ≤ c.1.1 ∧ c.1.1 ≤ 1073741824
  sets : ∀ c ∈ cs, Asc c.2
  len : ∀ c ∈ cs, c.2.length ≤ 4096
  many : cs.length ≤ 65536
theorem asc_filter {xs : List ByteArray} (h : Asc xs) (p : ByteArray → Bool) : Asc (xs.filter p) := List.Pairwise.sublist List.filter_sublist h
theorem all_mem {cs : List Cv} {v : ByteArray} : v ∈ allOf cs ↔ ∃ c ∈ cs, v ∈ c.2 := by simp [allOf, List.mem_flatMap]
theorem vals_filter {cs : List Cv} (h : CvsOk cs) {i : Nat} (hi : i < cs.length) : (setOfL (allOf cs)).filter (hasL (cs.getD i Cv.z).2) = (cs.getD i Cv.z).2 := by
  refine asc_unique (asc_filter (setOfL_asc _) _) (h.sets _ (getD_mem hi _)) fun x => ?_
  rw [List.mem_filter, setOfL_mem_iff, hasL_iff, all_mem]
  exact ⟨fun h => h.2, fun hx => ⟨⟨_, getD_mem hi _, hx⟩, hx⟩⟩
theorem listOfV_mem {cs : List Cv} {v : ByteArray} {i : Nat} : i ∈ listOfV cs v ↔ i < cs.length ∧ hasL (cs.getD i Cv.z).2 v = true := by
  simp [listOfV, List.mem_filter]
theorem listOfV_asc (cs : List Cv) (v : ByteArray) : (listOfV cs v).Pairwise (· < ·) := List.Pairwise.sublist List.filter_sublist List.pairwise_lt_range
theorem listOfV_lt {cs : List Cv} {v : ByteArray} {k : Nat} (h : k < (listOfV cs v).length) : (listOfV cs v).getD k 0 < cs.length := (listOfV_mem.1 (getD_mem h 0)).1
theorem listOfV_up {cs : List Cv} {v : ByteArray} {k : Nat} (h : k + 1 < (listOfV cs v).length) : (listOfV cs v).getD k 0 < (listOfV cs v).getD (k + 1) 0 := by
  have h1 := List.pairwise_iff_getElem.1 (listOfV_asc cs v) k (k + 1) (by omega) h (by omega)
  simpa [List.getD, h, show k < (listOfV cs v).length by omega] using h1
theorem listOfV_len (cs : List Cv) (v : ByteArray) : (listOfV cs v).length ≤ cs.length := by
  have := listK_len cs v cs.length
  exact this
theorem listOfV_count {cs : List Cv} {v : ByteArray} {j : Nat} (hj : j < cs.length) : (listOfV cs v).count j = if hasL (cs.getD j Cv.z).2 v = true then 1 else 0 := by
  have hn : (listOfV cs v).Nodup := (listOfV_asc cs v).imp fun h => Nat.ne_of_lt h
  split
  · rename_i h
    have h1 := List.nodup_iff_count.1 hn j
    have h2 := List.count_pos_iff.2 (listOfV_mem.2 ⟨hj, h⟩)
    omega
  · rename_i h
    exact List.count_eq_zero.2 fun hm => h (listOfV_mem.1 hm).2
theorem listOfV_pos {cs : List Cv} {v : ByteArray} (h : v ∈ setOfL (allOf cs)) : 0 < (listOfV cs v).length := by
  rw [setOfL_mem_iff, all_mem] at h
  obtain ⟨c, hc, hv⟩ := h
  obtain ⟨i, hi, e⟩ := List.mem_iff_getElem.1 hc
  refine List.length_pos_of_mem (a := i) (listOfV_mem.2 ⟨hi, ?_⟩)
  rw [hasL_iff]
  simpa [List.getD, hi, e] using hv
def cntV (cs : List Cv) (vs : List ByteArray) (j : Nat) : Nat := (vs.flatMap (listOfV cs)).count j
theorem cntV_snoc (cs : List Cv) (vs : List ByteArray) (v : ByteArray) (j : Nat) : cntV cs (vs ++ [v]) j = cntV cs vs j + (listOfV cs v).count j := by
  simp [cntV, List.flatMap_append, List.count_append]
theorem cntV_eq {cs : List Cv} {j : Nat} (hj : j < cs.length) : ∀ vs, cntV cs vs j = (vs.filter (hasL (cs.getD j Cv.z).2)).length
  | [] => rfl
  | v :: vs => by
    have ih := cntV_eq hj vs
    unfold cntV at ih ⊢
    rw [List.flatMap_cons, List.count_append, ih, listOfV_count hj, List.filter_cons]
    split <;> simp <;> omega
theorem cntV_all {cs : List Cv} (h : CvsOk cs) {j : Nat} (hj : j < cs.length) : cntV cs (setOfL (allOf cs)) j = (cs.getD j Cv.z).2.length := by
  rw [cntV_eq hj, vals_filter h hj]
theorem cntV_le (cs : List Cv) (vs : List ByteArray) (j : Nat) (hj : j < cs.length) : cntV cs vs j ≤ vs.length := by
  rw [cntV_eq hj]; exact List.length_filter_le _ _
end Go.Proofs.YtikiimlmoalbcaaGreatDoor

namespace Go.Proofs.YtikiimlmoalbcaaGreatDoor
open Go.RowKit
theorem made_int_row (n : Nat) (h : n ≤ 1099511627776) (w : World) :
    (Instr.makeSlice 34 (.int .i64 (n : Int)) (.int .i64 (n : Int))).run Tryz.prog w = .ok (.slice (some ⟨w.heap.size, 0, none⟩) n n) (w.alloc (.cells (madeCells #[.int .i64 0] n) 3)) :=
  run_make_row' (P := Tryz.prog) 34 3 (.int .i64 0) 8 Tryz.underlying34 info_int' rfl .i64 .i64 n (by omega) (by omega) w
theorem InN.rdn {w : World} {S : Nat → Prop} {v : Value} {xs : List Nat} {B : Nat} (h : InN w S v xs) (hS : ∀ b, S b → b < B) : Rd w B v xs.length (natF xs) := InK.rd h hS
def doneC (L M P : List Nat) (q j : Nat) : Nat := ([L, M, P].take q).flatten.count j
def partX (L M P : List Nat) (q : Nat) : List Nat := [L, M, P].getD q []
def inB (xs : List Nat) (i : Nat) : Bool := decide (i ∈ xs)
structure PartOk (wc : World) (pa : Option Addr) (pc n : Nat) (X : List Nat) : Prop where
  rd : Rd wc wc.heap.size (.slice pa X.length pc) X.length (natF X)
  lt : ∀ i, i < X.length → X.getD i 0 < n
  up : ∀ i, i + 1 < X.length → X.getD i 0 < X.getD (i + 1) 0
  le : X.length ≤ n
end Go.Proofs.YtikiimlmoalbcaaGreatDoor

namespace Go.Proofs.YtikiimlmoalbcaaGreatDoor
open Go.RowKit
set_option maxRecDepth 100000 in
set_option maxHeartbeats 4000000 in
theorem posting_Valid (cs : List Cv) (hok : CvsOk cs) (ev vv lv : Value) (B : Nat) (w : World) (hx : RdIx w (· < B) ev vv lv (indexOf cs)) (hB : B ≤ w.heap.size) :
  Calls Tryz.prog 102 #[.agg #[ev, vv, lv]] w (Ret w (.bool true)) := by
 obtain ⟨hE, hV, lf, ⟨la, lc, rfl, hlc, hlm, hlr⟩, hkids⟩ := hx
 obtain ⟨ea, ec, rfl, hec, hem, her⟩ := hE
 have HIS := hid (fun W (hW : Below w.heap.size w W) => text_IsSet vv (setOfL (allOf cs)) B W (Rd.below (InS.rds hV fun b h => h) hW hB))
 rw [Asc.isSet (setOfL_asc (allOf cs))] at HIS
 obtain ⟨va, vc, rfl, hvc, hvm, hvr⟩ := hV
 have hll : (indexOf cs).lists.length = (setOfL (allOf cs)).length := by simp [indexOf]
 have hel : (indexOf cs).ents.length = cs.length := ents_len cs
 have hvl : (indexOf cs).vals.length = (setOfL (allOf cs)).length := rfl
 have hvals : (setOfL (allOf cs)).length ≤ 268435456 := by
  have h1 := setOfL_len (allOf cs)
  have h2 := all_len (m := 4096) hok.len
  have h3 := hok.many
  have h4 : cs.length * 4096 ≤ 65536 * 4096 := Nat.mul_le_mul_right _ h3
  omega
 have HLR : Hid (∀ q, q < (setOfL (allOf cs)).length → ∃ (xa : Option Addr) (xc : Nat), (∀ W, Below w.heap.size w W → ∃ b o, la = some ⟨b, o, none⟩ ∧ W.cell? ⟨b, o + q, none⟩ = some (.slice xa (listOfV cs ((setOfL (allOf cs)).getD q ⟨#[]⟩)).length xc)) ∧ Rd w B (.slice xa (listOfV cs ((setOfL (allOf cs)).getD q ⟨#[]⟩)).length xc) (listOfV cs ((setOfL (allOf cs)).getD q ⟨#[]⟩)).length (natF (listOfV cs ((setOfL (allOf cs)).getD q ⟨#[]⟩)))) := hid (fun q hq => by
  have h1 := hkids q (by omega)
  have e1 : (indexOf cs).lists.getD q [] = listOfV cs ((setOfL (allOf cs)).getD q ⟨#[]⟩) := by simp [indexOf, List.getD, hq]
  rw [e1] at h1
  have h2 := h1.rdn fun b h => h
  obtain ⟨xa, xc, e2, -⟩ := h1
  rw [e2] at h2
  refine ⟨xa, xc, fun W hW => ?_, h2⟩
  obtain ⟨b, o, e3, hb, hc⟩ := hlr (by omega)
  have hb' : b < B := hb
  refine ⟨b, o, e3, (hW.cell (p := ⟨b, o + q, none⟩) (by show b < _; omega)).trans ?_⟩
  have h4 := hc q (by omega) 0 (by omega)
  simp only [Nat.mul_one, Nat.add_zero] at h4
  rw [h4, e2])
 rw [hll] at hlc
 rw [hel] at hec her
 rw [hvl] at hvc HIS
 have HER : Hid (∀ i, i < cs.length → ∃ b o, ea = some ⟨b, o, none⟩ ∧ b < B ∧ w.cell? ⟨b, o + i * 3, none⟩ = some (.int .i64 (refZ (cs.getD i Cv.z)).1) ∧ w.cell? ⟨b, o + i * 3 + 1, none⟩ = some (.int .i64 (refZ (cs.getD i Cv.z)).2) ∧ w.cell? ⟨b, o + i * 3 + 2, none⟩ = some (.int .i64 ((cs.getD i Cv.z).2.length : Int))) := hid (fun i hi => by
  obtain ⟨b, o, e3, hb, hc⟩ := her (by omega)
  have e1 : (indexOf cs).ents.getD i ((0, 0), 0) = ((cs.getD i Cv.z).1, (cs.getD i Cv.z).2.length) := by simp [indexOf, entsOf, List.getD, hi]
  refine ⟨b, o, e3, hb, (hc i hi 0 (by omega)).trans ?_, (hc i hi 1 (by omega)).trans ?_, (hc i hi 2 (by omega)).trans ?_⟩
  ·simp only [entF, e1]; rfl
  ·simp only [entF, e1]; rfl
  ·simp only [entF, e1]; rfl)
 have HUP := hid (fun i (hi : i + 1 < cs.length) => (show rlt (refZ (cs.getD i Cv.z)) (refZ (cs.getD (i + 1) Cv.z)) = true from by
  have h1 := List.pairwise_iff_getElem.1 hok.up i (i + 1) (by omega) hi (by omega)
  simpa [List.getD, hi, show i < cs.length by omega] using h1))
 have HID := hid (fun i (hi : i < cs.length) => hok.ids _ (getD_mem hi Cv.z))
 have HLN := hid (fun i (hi : i < cs.length) => hok.len _ (getD_mem hi Cv.z))
 have HCN := hid (fun i (hi : i < cs.length) => cntV_all hok hi)
 have HCL := hid (fun vs j (hj : j < cs.length) => cntV_le cs vs j hj)
 have HSN := hid (cntV_snoc cs)
 have HPOS := hid (fun v (h : v ∈ setOfL (allOf cs)) => listOfV_pos h)
 have HLT := hid (fun v k => @listOfV_lt cs v k)
 have HLU := hid (fun v k => @listOfV_up cs v k)
 have HLL := hid (fun v => listOfV_len cs v)
 have hmany := hok.many
 clear hlr hkids her hvr hok hlm hem hvm
 rw [hll, hel, hvl]
 clear hll hel hvl
 generalize setOfL (allOf cs) = vs at *
 generalize hnn : cs.length = n at *
 have HN := hid hnn
 clear hnn
 generalize hnv : vs.length = nv at *
 have HNV := hid hnv
 clear hnv
 have hmk := made_int_row n (by omega)
 go_enter Tryz.func102, Tryz.ntmps102
 generalize hLA : Code.loop _ = LA
 generalize hLB : Code.loop _ = LB
 go_wp2_with fail
 have HX0 := hid (BoxN.new w #[.slice ea n ec, .slice va nv vc, .slice la nv lc] 30)
 have HB0 := hid ((Below.refl w.heap.size w).alloc (Nat.le_refl _) (.cells #[.slice ea n ec, .slice va nv vc, .slice la nv lc] 30))
 have hz0 : (w.alloc (.cells #[.slice ea n ec, .slice va nv vc, .slice la nv lc] 30)).heap.size = w.heap.size + 1 := by simp
 with_reducible refine (HIS.out _ HB0.out).mono ?_
 generalize w.alloc (.cells #[.slice ea n ec, .slice va nv vc, .slice la nv lc] 30) = W0 at *
 rintro e w1 ⟨rfl, k1, rfl⟩
 have HX1 := hid (HX0.out.drewN k1)
 have HB1 := hid (below_drewN (n := k1) HB0.out)
 have hz1 : (W0.drewN k1).heap.size = w.heap.size + 1 := hz0
 generalize W0.drewN k1 = W1 at *
 have x0 := HX1.out.cell 0 rfl
 have x2 := HX1.out.cell 2 rfl
 have HY := hid (HX1.out.alloc (.cells (madeCells #[.int .i64 0] n) 3))
 have y2 := HY.out.cell 2 rfl
 have HRO := hid (World.rowIs_made W1 (.int .i64 0) n 3)
 have HB2 := hid ((Below.refl W1.heap.size W1).alloc (Nat.le_refl _) (.cells (madeCells #[.int .i64 0] n) 3))
 have HZ1 := hid hz1
 clear hz1 hz0
 go_wp2_with fail
 clear x0 x2 y2 hmk
 have hz1l : w.heap.size + 1 ≤ W1.heap.size := by have := HZ1.out; omega
 generalize W1.alloc (.cells (madeCells #[.int .i64 0] n) 3) = W2 at *
 subst hLA
 go_loopg [30] nv (fun N i wr => ∃ q : Nat, q + N = nv ∧ i = .int .i64 (q : Int) ∧ Hid (Below W1.heap.size W1 wr ∧ BoxN wr w.heap.size 30 #[.slice ea n ec, .slice va nv vc, .slice la nv lc] ∧ wr.rowIs W1.heap.size 3 n (fun j => .int .i64 ((cntV cs (vs.take q) j : Nat) : Int))))
 case atStart => exact ⟨0, by omega, rfl, hid ⟨HB2.out, HY.out, HRO.out.congr fun j _ => by simp [cntV]⟩⟩
 case round =>
  obtain ⟨q, hq, rfl, HST⟩ := hrel
  by_cases hpq : 0 < gk
  ·obtain ⟨xa, xc, hcell, hrd⟩ := HLR.out q (by omega)
   obtain ⟨b, o, rfl, v0⟩ := hcell wr (HB1.out.trans (HST.out.1.mono (by omega)))
   have hvm : vs.getD q ⟨#[]⟩ ∈ vs := getD_mem (by have := HNV.out; omega) _
   have hpos := HPOS.out _ hvm
   have HLTQ := hid (HLT.out (vs.getD q ⟨#[]⟩))
   have HLUQ := hid (HLU.out (vs.getD q ⟨#[]⟩))
   have hll := HLL.out (vs.getD q ⟨#[]⟩)
   have HTK : Hid (∀ j, cntV cs (vs.take (q + 1)) j = cntV cs (vs.take q) j + (listOfV cs (vs.getD q ⟨#[]⟩)).count j) := hid (fun j => by
    have h1 : q < vs.length := by have := HNV.out; omega
    rw [List.take_succ_eq_append_getElem h1, HSN.out]
    simp [List.getD, h1])
   have HRD := hid hrd
   clear hcell hrd hvm
   generalize listOfV cs (vs.getD q ⟨#[]⟩) = X at *
   generalize hxl : X.length = xl at *
   have HXL := hid hxl
   clear hxl
   obtain ⟨wo, rfl⟩ : ∃ wo, wo = wr := ⟨wr, rfl⟩
   obtain ⟨ko, rfl⟩ : ∃ ko, ko = gk := ⟨gk, rfl⟩
   generalize hLC : Code.loop _ = LC
   go_wp2_with fail
   clear v0
   subst hLC
   go_loopg [36] xl (fun N i wr => ∃ k : Nat, k + N = xl ∧ i = .int .i64 (k : Int) ∧ Hid (Below W1.heap.size W1 wr ∧ BoxN wr w.heap.size 30 #[.slice ea n ec, .slice va nv vc, .slice (some ⟨b, o, none⟩) nv lc] ∧ wr.rowIs W1.heap.size 3 n (fun j => .int .i64 ((cntV cs (vs.take q) j + (X.take k).count j : Nat) : Int))))
   case atStart => exact ⟨0, by omega, rfl, hid ⟨HST.out.1, HST.out.2.1, HST.out.2.2.congr fun j _ => by simp⟩⟩
   case round =>
    obtain ⟨k, hk, rfl, HSK⟩ := hrel
    by_cases hpk : 0 < gk
    ·obtain ⟨pa', pc', epa, -, hpm, hpr⟩ := HRD.out
     obtain ⟨rfl, -, rfl⟩ := Value.slice.inj epa
     obtain ⟨b5, o5, rfl, hb5, hpc5⟩ := hpr (by omega)
     have hb5w : b5 < W1.heap.size := by omega
     have HBK := hid (HB1.out.trans (HSK.out.1.mono (by omega)))
     have hlt := HLTQ.out k (by have := HXL.out; omega)
     have e1 : wr.cell? ⟨b5, o5 + k, none⟩ = some (.int .i64 ((X.getD k 0 : Nat) : Int)) := (HBK.out.cell (p := ⟨b5, o5 + k, none⟩) (by show b5 < _; omega)).trans (hpc5 k (by omega))
     have r1 := HSK.out.2.2.cell hlt
     have fr := HSK.out.2.2.frozen (X.getD k 0)
     have HCT := hid (fun j => count_take X (k := k) (by have := HXL.out; omega) j)
     have hcl : cntV cs (vs.take q) (X.getD k 0) + (X.take k).count (X.getD k 0) ≤ 1099511627776 := by
      have h1 := HCL.out (vs.take q) (X.getD k 0) hlt
      have h2 := List.count_le_length (a := X.getD k 0) (l := X.take k)
      have h3 : (X.take k).length ≤ k := List.length_take_le _ _
      have h4 : (vs.take q).length ≤ q := List.length_take_le _ _
      omega
     clear epa hpr hpm
     generalize hcc : cntV cs (vs.take q) (X.getD k 0) + (X.take k).count (X.getD k 0) = cc at *
     have hpv : ∀ pp, k = pp + 1 → wr.cell? ⟨b5, o5 + pp, none⟩ = some (.int .i64 ((X.getD pp 0 : Nat) : Int)) ∧ X.getD pp 0 < X.getD k 0 := fun pp e => by
      subst e
      exact ⟨(HBK.out.cell (p := ⟨b5, o5 + pp, none⟩) (by show b5 < _; omega)).trans (hpc5 pp (by omega)), HLUQ.out pp (by have := HXL.out; omega)⟩
     have HPV := hid hpv
     clear hpc5 hpv
     generalize X.getD k 0 = x at *
     have HCC : Hid (cntV cs (vs.take q) x + (X.take k).count x = cc) := hid hcc
     clear hcc
     have hd0 : decide ((x : Int) < 0) = false := decide_eq_false (by omega)
     have hd1 : decide (n ≤ x) = false := decide_eq_false (by omega)
     have hd2 : decide ((n : Int) ≤ (x : Int)) = false := decide_eq_false (by omega)
     have hxi : (x : Int) < (n : Int) := by omega
     by_cases hk0 : k = 0
     ·subst hk0
      rw [show (((0 : Nat)) : Int) = 0 from rfl]
      simp only [Nat.add_zero] at e1
      have hnew : ∀ j, (if j = x then Value.int .i64 ((cc : Int) + 1) else .int .i64 ((cntV cs (vs.take q) j + (X.take 0).count j : Nat) : Int)) = .int .i64 ((cntV cs (vs.take q) j + (X.take (0 + 1)).count j : Nat) : Int) := fun j => by
       rw [HCT.out j]
       by_cases e : j = x
       ·subst e
        rw [if_pos rfl, if_pos rfl, ← Nat.add_assoc, HCC.out]
        rfl
       ·rw [if_neg e, if_neg (fun h => e h.symm)]
        rfl
      have HNW := hid hnew
      clear hnew
      go_wp2
      go_roundg (gk - 1)
      case rel => exact ⟨0 + 1, by omega, by go_num, hid ⟨by have := HSK.out.1; repeat' (first | (with_reducible exact Below.refl _ _) | (with_reducible assumption) | (with_reducible refine below_drewN ?_) | (with_reducible refine Below.alloc ?_ ?_ _) | (with_reducible refine Below.drew ?_) | (with_reducible refine Below.setCell ?_ ?_ _) | (with_reducible refine Below.trans ?_ (Below.mono (by with_reducible assumption) ?_)) | go_size), HSK.out.2.1.other (p := ⟨W1.heap.size, x, none⟩) (by show W1.heap.size ≠ w.heap.size; omega) _, (HSK.out.2.2.set x (.int .i64 ((cc : Int) + 1))).congr fun j _ => HNW.out j⟩⟩
      case measure => omega
     ·obtain ⟨pp, rfl⟩ : ∃ pp, k = pp + 1 := ⟨k - 1, by omega⟩
      obtain ⟨e0, hup⟩ := HPV.out pp rfl
      generalize X.getD pp 0 = y' at *
      have hd3 : decide (x ≤ y') = false := decide_eq_false (by omega)
      have hd4 : decide ((x : Int) ≤ (y' : Int)) = false := decide_eq_false (by omega)
      have hp1 : (0 : Int) < (pp : Int) + 1 := by omega
      have hp2 : decide ((0 : Int) < (pp : Int) + 1) = true := decide_eq_true hp1
      rw [show (((pp + 1 : Nat)) : Int) = (pp : Int) + 1 from by omega]
      clear hk0
      have hnew : ∀ j, (if j = x then Value.int .i64 ((cc : Int) + 1) else .int .i64 ((cntV cs (vs.take q) j + (X.take (pp + 1)).count j : Nat) : Int)) = .int .i64 ((cntV cs (vs.take q) j + (X.take ((pp + 1) + 1)).count j : Nat) : Int) := fun j => by
       rw [HCT.out j]
       by_cases e : j = x
       ·subst e
        rw [if_pos rfl, if_pos rfl, ← Nat.add_assoc, HCC.out]
        rfl
       ·rw [if_neg e, if_neg (fun h => e h.symm)]
        rfl
      have HNW := hid hnew
      clear hnew
      go_wp2
      go_roundg (gk - 1)
      case rel => exact ⟨(pp + 1) + 1, by omega, by go_num, hid ⟨by have := HSK.out.1; repeat' (first | (with_reducible exact Below.refl _ _) | (with_reducible assumption) | (with_reducible refine below_drewN ?_) | (with_reducible refine Below.alloc ?_ ?_ _) | (with_reducible refine Below.drew ?_) | (with_reducible refine Below.setCell ?_ ?_ _) | (with_reducible refine Below.trans ?_ (Below.mono (by with_reducible assumption) ?_)) | go_size), HSK.out.2.1.other (p := ⟨W1.heap.size, x, none⟩) (by show W1.heap.size ≠ w.heap.size; omega) _, (HSK.out.2.2.set x (.int .i64 ((cc : Int) + 1))).congr fun j _ => HNW.out j⟩⟩
      case measure => omega
    ·obtain rfl : k = xl := by omega
     have hne : ((k : Int) == 0) = false := by simp; omega
     have hne2 : (k == 0) = false := by simp; omega
     go_wp2_with fail
     go_roundg (ko - 1)
     case rel => exact ⟨q + 1, by omega, by go_num, hid ⟨HSK.out.1, HSK.out.2.1, HSK.out.2.2.congr fun j _ => by rw [HTK.out, ← HXL.out, List.take_length]⟩⟩
     case measure => omega
  ·obtain rfl : q = nv := by omega
   have HROW : Hid (wr.rowIs W1.heap.size 3 n (fun j => .int .i64 (((cs.getD j Cv.z).2.length : Nat) : Int))) := hid (HST.out.2.2.congr fun j hj => by rw [← HNV.out, List.take_length, HCN.out j hj])
   have HWW := hid (HB1.out.trans (HST.out.1.mono (by omega)))
   have HXB := hid HST.out.2.1
   have HW1 := hid HST.out.1
   have x0 := HXB.out.cell 0 rfl
   clear HST HLR
   go_wp2_with fail
   clear x0
   subst hLB
   obtain ⟨wp, rfl⟩ : ∃ wp, wp = wr := ⟨wr, rfl⟩
   go_loopg [76] n (fun N i wr => ∃ q : Nat, q + N = n ∧ i = .int .i64 (q : Int) ∧ Hid (Below wp.heap.size wp wr))
   case atStart => exact ⟨0, by omega, rfl, hid (Below.refl _ _)⟩
   case round =>
    obtain ⟨q, hq, rfl, HBL⟩ := hrel
    by_cases hpq : 0 < gk
    ·obtain ⟨b, o, rfl, hb, z0, z1, z2⟩ := HER.out q (by omega)
     have HBW := hid (HWW.out.trans (HBL.out.mono HWW.out.size))
     have hwr := HBL.out.size
     have hrl := HROW.out.lt
     have hxl := HXB.out.lt
     have c0 := (HBW.out.cell (p := ⟨b, o + q * 3, none⟩) (by show b < _; omega)).trans z0
     have c1 := (HBW.out.cell (p := ⟨b, o + q * 3 + 1, none⟩) (by show b < _; omega)).trans z1
     have c2 := (HBW.out.cell (p := ⟨b, o + q * 3 + 2, none⟩) (by show b < _; omega)).trans z2
     obtain ⟨hi1, hi2⟩ := HID.out q (by omega)
     have hsz := HLN.out q (by omega)
     have r0 := (HROW.out.of_block (w' := wr) (HBL.out.block _ hrl)).cell (i := q) (by omega)
     have HPREV : Hid (∀ pp, q = pp + 1 → wr.cell? ⟨b, o + pp * 3, none⟩ = some (.int .i64 (refZ (cs.getD pp Cv.z)).1) ∧ wr.cell? ⟨b, o + pp * 3 + 1, none⟩ = some (.int .i64 (refZ (cs.getD pp Cv.z)).2) ∧ rlt (refZ (cs.getD pp Cv.z)) (refZ (cs.getD q Cv.z)) = true) := hid (fun pp e => by
      subst e
      obtain ⟨b', o', e3, hb', y0, y1, y2⟩ := HER.out pp (by omega)
      cases e3
      exact ⟨(HBW.out.cell (p := ⟨b, o + pp * 3, none⟩) (by show b < _; omega)).trans y0, (HBW.out.cell (p := ⟨b, o + pp * 3 + 1, none⟩) (by show b < _; omega)).trans y1, HUP.out pp (by omega)⟩)
     have xb0 := (HXB.out.below HBL.out hxl).cell 0 rfl
     have hr1 : 0 ≤ (refZ (cs.getD q Cv.z)).1 := hi1
     have hr2 : (refZ (cs.getD q Cv.z)).1 ≤ 1073741824 := hi2
     have hr3 : 0 ≤ (refZ (cs.getD q Cv.z)).2 := by show (0 : Int) ≤ ((cs.getD q Cv.z).1.2 : Int); omega
     clear z0 z1 z2 hi1 hi2
     generalize (cs.getD q Cv.z).2.length = sz at *
     generalize refZ (cs.getD q Cv.z) = r at *
     obtain ⟨ra, rb⟩ := r
     simp only at c0 c1 hr1 hr2 hr3
     have HNM := hid (fun W => posting_named ra rb W hr1 hr2 hr3)
     have hd4 : decide ((4096 : Int) < (sz : Int)) = false := decide_eq_false (by omega)
     by_cases hq0 : q = 0
     ·subst hq0
      rw [show (((0 : Nat)) : Int) = 0 from rfl]
      simp only [Nat.zero_mul, Nat.add_zero] at c0 c1 c2
      have hd0 : decide ((0 : Int) < 0) = false := by simp
      go_wp2_with fail
      have HBE := hid ((Below.refl wr.heap.size wr).alloc (Nat.le_refl _) (.cells #[.int .i64 ra, .int .i64 rb, .int .i64 (sz : Int)] 73))
      have hbe := BoxN.new wr #[.int .i64 ra, .int .i64 rb, .int .i64 (sz : Int)] 73
      have hz8 : wr.heap.size ≤ (wr.alloc (.cells #[.int .i64 ra, .int .i64 rb, .int .i64 (sz : Int)] 73)).heap.size := by simp
      generalize wr.alloc (.cells #[.int .i64 ra, .int .i64 rb, .int .i64 (sz : Int)] 73) = W8 at *
      have f0 := fun p : LaterOf W8 => p.cell (hbe.cell 0 rfl)
      have f1 := fun p : LaterOf W8 => p.cell (hbe.cell 1 rfl)
      have f2 := fun p : LaterOf W8 => p.cell (hbe.cell 2 rfl)
      have f3 := fun p : LaterOf W8 => p.cell ((HBE.out.cell (p := ⟨w.heap.size, 0, none⟩) (by show w.heap.size < _; omega)).trans xb0)
      have f4 := fun p : LaterOf W8 => p.cell ((HBE.out.cell (p := ⟨W1.heap.size, 0, none⟩) (by show W1.heap.size < _; omega)).trans r0)
      have HC1 := hid (fun p : LaterOf W8 => later_call p (HNM.out p.W))
      clear hbe
      refine wp_region_later (by kernel_rfl) (by kernel_rfl) ?_
      repeat (first | go_big_quiet_step ((go_at_call 151; exact HC1.out _)) | quiet_step ((go_at_call 151; exact HC1.out _)))
      refine wpQuiet_nil ?_
      intro _ hw'
      obtain ⟨p5, hw''⟩ := hw'
      subst hw''
      have hb5 := p5.hb
      generalize p5.W = w5 at *
      have HB9 := hid (HBL.out.trans ((HBE.out.trans (hb5.mono hz8)).mono hwr))
      clear f0 f1 f2 f3 f4 HC1 hb5 hd4 hd0
      go_wp2_with fail
      go_roundg (gk - 1)
      case rel => exact ⟨0 + 1, by omega, by go_num, HB9⟩
      case measure => omega
     ·obtain ⟨pp, rfl⟩ : ∃ pp, q = pp + 1 := ⟨q - 1, by omega⟩
      obtain ⟨y0, y1, hlt⟩ := HPREV.out pp rfl
      generalize refZ (cs.getD pp Cv.z) = pr at *
      obtain ⟨pa, pb⟩ := pr
      simp only at y0 y1 hlt
      have hw1 : IntKind.i64.wrap ((pp : Int) + 1 - 1) = (pp : Int) := (IntWalk.i64_in _ (by omega)).trans (by omega)
      have hw2 : IntKind.i64.wrap (pp : Int) = (pp : Int) := IntWalk.i64_in _ (by omega)
      have hp1 : (0 : Int) < (pp : Int) + 1 := by omega
      have hd3 : decide ((0 : Int) < (pp : Int) + 1) = true := decide_eq_true (by omega)
      have hpL : (pp : Int) < (n : Int) := by omega
      have hpL2 : pp < n := by omega
      have hpL3 : (pp : Int) + 1 < (n : Int) := by omega
      rw [show (((pp + 1 : Nat)) : Int) = (pp : Int) + 1 from by omega]
      go_wp2_with fail
      have HBE := hid ((Below.refl wr.heap.size wr).alloc (Nat.le_refl _) (.cells #[.int .i64 ra, .int .i64 rb, .int .i64 (sz : Int)] 73))
      have hbe := BoxN.new wr #[.int .i64 ra, .int .i64 rb, .int .i64 (sz : Int)] 73
      have hz8 : wr.heap.size ≤ (wr.alloc (.cells #[.int .i64 ra, .int .i64 rb, .int .i64 (sz : Int)] 73)).heap.size := by simp
      generalize wr.alloc (.cells #[.int .i64 ra, .int .i64 rb, .int .i64 (sz : Int)] 73) = W8 at *
      have f0 := fun p : LaterOf W8 => p.cell (hbe.cell 0 rfl)
      have f1 := fun p : LaterOf W8 => p.cell (hbe.cell 1 rfl)
      have f2 := fun p : LaterOf W8 => p.cell (hbe.cell 2 rfl)
      have f3 := fun p : LaterOf W8 => p.cell ((HBE.out.cell (p := ⟨w.heap.size, 0, none⟩) (by show w.heap.size < _; omega)).trans xb0)
      have f4 := fun p : LaterOf W8 => p.cell ((HBE.out.cell (p := ⟨W1.heap.size, (pp + 1), none⟩) (by show W1.heap.size < _; omega)).trans r0)
      have HC1 := hid (fun p : LaterOf W8 => later_call p (HNM.out p.W))
      have f5 := fun p : LaterOf W8 => p.cell ((HBE.out.cell (p := ⟨b, o + pp * 3, none⟩) (by show b < _; omega)).trans y0)
      have f6 := fun p : LaterOf W8 => p.cell ((HBE.out.cell (p := ⟨b, o + pp * 3 + 1, none⟩) (by show b < _; omega)).trans y1)
      have HC2 := hid (fun p : LaterOf W8 => (show Calls Tryz.prog 152 #[.agg #[.int .i64 pa, .int .i64 pb], .agg #[.int .i64 ra, .int .i64 rb]] p.W fun e w'' => e = .returned (.bool true) ∧ ∃ q : LaterOf W8, w'' = q.W from later_call p (by have h := table_Less pa pb ra rb p.W; rw [hlt] at h; exact h)))
      clear hbe
      refine wp_region_later (by kernel_rfl) (by kernel_rfl) ?_
      repeat (first | go_big_quiet_step ((first | (go_at_call 151; exact HC1.out _) | (go_at_call 152; exact HC2.out _))) | quiet_step ((first | (go_at_call 151; exact HC1.out _) | (go_at_call 152; exact HC2.out _))))
      refine wpQuiet_nil ?_
      intro _ hw'
      obtain ⟨p5, hw''⟩ := hw'
      subst hw''
      have hb5 := p5.hb
      generalize p5.W = w5 at *
      have HB9 := hid (HBL.out.trans ((HBE.out.trans (hb5.mono hz8)).mono hwr))
      clear f0 f1 f2 f3 f4 HC1 hb5 hd4 f5 f6 HC2 hw1 hw2 hd3
      go_wp2_with fail
      go_roundg (gk - 1)
      case rel => exact ⟨(pp + 1) + 1, by omega, by go_num, HB9⟩
      case measure => omega
    ·obtain rfl : q = n := by omega
     go_wp2
     go_ret
     exact ⟨rfl, HWW.out.trans (HBL.out.mono HWW.out.size)⟩
end Go.Proofs.YtikiimlmoalbcaaGreatDoor

namespace Go.Proofs
open Go.Shelf
def Tryz.containsI_ren : Go.Shelf.Ren := ⟨fun | 31 => 70 | 29 => 133 | n => n, fun | 22 => 34 | 23 => 3 | 4 => 4 | 3 => 3 | 0 => 0 | n => n, fun | n => n⟩
theorem Tryz.containsI : Go.Proofs.SlLaysN.n31 Tryz.prog Tryz.containsI_ren := {
  mixed := by kernel_rfl
  f29 := ⟨Tryz.f133.name, by decide, Tryz.func133.trans (congrArg some (by kernel_rfl))⟩
  f31 := ⟨Tryz.f70.name, by decide, Tryz.func70.trans (congrArg some (by kernel_rfl))⟩
  t0 := Tryz.underlying0
  a0 := Tryz.isAgg0
  z0 := Tryz.sizeOf0
  v0 := Tryz.zeroValue0
  t3 := Tryz.underlying3
  a3 := Tryz.isAgg3
  z3 := Tryz.sizeOf3
  v3 := Tryz.zeroValue3
  t4 := Tryz.underlying4
  a4 := Tryz.isAgg4
  z4 := Tryz.sizeOf4
  v4 := Tryz.zeroValue4
  t22 := Tryz.underlying34
  a22 := Tryz.isAgg34
  z22 := Tryz.sizeOf34
  v22 := Tryz.zeroValue34
  t23 := Tryz.underlying3
  a23 := Tryz.isAgg3
  z23 := Tryz.sizeOf3
  v23 := Tryz.zeroValue3 }
end Go.Proofs

namespace Go.Proofs.YtikiimlmoalbcaaGreatDoor
open Go.RowKit Go.Shelf
theorem below_grownQ {w W W' : World} {r : Option Nat} (h : Below w.heap.size w W) (hg : W.grownBy W' r) (hr : ∀ k, r = some k → w.heap.size ≤ k) : Below w.heap.size w W' :=
  h.trans ⟨hg.os, hg.tape, hg.output, hg.size, fun k hk => hg.block k (Nat.lt_of_lt_of_le hk h.size) (fun e => by have := hr k e.symm; omega)⟩
theorem lib_ContainsN (v : Value) (xs : List Nat) (x : Nat) (B : Nat) (w : World) (hv : InN w (· < B) v xs) :
    Calls Tryz.prog 70 #[v, .int .i64 (x : Int)] w fun e w' => e = .returned (.bool (xs.contains x)) ∧ w' = w := by
  obtain ⟨a, c, rfl, hc, hm, hr⟩ := hv
  have hcon : ((xs.map fun x : Nat => (x : Int)).take xs.length).contains (x : Int) = xs.contains x := by
    rw [List.take_of_length_le (by simp), Bool.eq_iff_iff, List.contains_iff_mem, List.contains_iff_mem, List.mem_map]
    exact ⟨fun ⟨y, hy, e⟩ => by rw [show x = y by omega]; exact hy, fun h => ⟨x, h, rfl⟩⟩
  rcases Nat.eq_zero_or_pos xs.length with h0 | hp
  · have e := List.eq_nil_of_length_eq_zero h0
    subst e
    exact AnyG.slices_Contains_int_empty Tryz.containsI a c (x : Int) w
  · obtain ⟨b, o, rfl, hb, hcell⟩ := hr hp
    rw [← hcon]
    unfold maxLen at hm
    exact AnyG.slices_Contains_int Tryz.containsI b o xs.length c (xs.map fun x : Nat => (x : Int)) (x : Int) w (by simp) (by omega) (fun j hj => by
      rw [List.length_map] at hj
      have h1 := hcell j hj 0 (by omega)
      simp only [Nat.mul_one, Nat.add_zero] at h1
      rw [h1]
      simp [natF, List.getD, hj])
theorem listOfV_contains {cs : List Cv} {i : Nat} (hi : i < cs.length) (s : ByteArray) : (listOfV cs s).contains i = hasL (cs.getD i Cv.z).2 s := by
  rw [Bool.eq_iff_iff, List.contains_iff_mem, listOfV_mem]
  exact ⟨fun h => h.2, fun h => ⟨hi, h⟩⟩
theorem filter_take {vs : List ByteArray} (p : ByteArray → Bool) {q : Nat} (h : q < vs.length) : (vs.take (q + 1)).filter p = (vs.take q).filter p ++ if p (vs.getD q ⟨#[]⟩) = true then [vs.getD q ⟨#[]⟩] else [] := by
  rw [List.take_succ_eq_append_getElem h, List.filter_append, List.filter_cons, List.filter_nil]
  have e : vs.getD q ⟨#[]⟩ = vs[q] := by simp [List.getD, h]
  rw [e]
set_option maxRecDepth 100000 in
set_option maxHeartbeats 2000000 in
theorem posting_Values (cs : List Cv) (hok : CvsOk cs) (ev vv lv : Value) (B i : Nat) (w : World) (hi : i < cs.length) (hx : RdIx w (· < B) ev vv lv (indexOf cs)) (hB : B ≤ w.heap.size) :
  Calls Tryz.prog 125 #[.agg #[ev, vv, lv], .int .i64 (i : Int)] w (GivesS w (cs.getD i Cv.z).2) := by
 obtain ⟨i0, hi0, hz0, hz1, hz2⟩ := info_parts info_str
 obtain ⟨⟨ea, ec, rfl, -⟩, ⟨va, vc, rfl, hvc, hvm, hvr⟩, lf, ⟨la, lc, rfl, hlc, hlm, hlr⟩, hkids⟩ := hx
 have hll : (indexOf cs).lists.length = (setOfL (allOf cs)).length := by simp [indexOf]
 have hvl : (indexOf cs).vals.length = (setOfL (allOf cs)).length := rfl
 have HLR := hid hlr
 have HVR : Hid (∀ q, q < (setOfL (allOf cs)).length → ∃ b o, va = some ⟨b, o, none⟩ ∧ b < B ∧ w.cell? ⟨b, o + q, none⟩ = some (.string ((setOfL (allOf cs)).getD q ⟨#[]⟩))) := hid (fun q hq => by
  obtain ⟨b, o, e3, hb, hc⟩ := hvr (by rw [hvl]; omega)
  have h4 := hc q (by rw [hvl]; exact hq) 0 (by omega)
  simp only [Nat.mul_one, Nat.add_zero] at h4
  exact ⟨b, o, e3, hb, h4⟩)
 have HKI := hid (fun q (hq : q < (setOfL (allOf cs)).length) => (show InN w (· < B) (lf q) (listOfV cs ((setOfL (allOf cs)).getD q ⟨#[]⟩)) from by
  have h1 := hkids q (by rw [hll]; exact hq)
  rwa [show (indexOf cs).lists.getD q [] = listOfV cs ((setOfL (allOf cs)).getD q ⟨#[]⟩) from by simp [indexOf, List.getD, hq]] at h1))
 have HCT := hid (fun s => listOfV_contains hi s)
 have HFIN : Hid (((setOfL (allOf cs)).take (setOfL (allOf cs)).length).filter (hasL (cs.getD i Cv.z).2) = (cs.getD i Cv.z).2) := hid (by rw [List.take_length]; exact vals_filter hok hi)
 have hvals : (setOfL (allOf cs)).length ≤ 268435456 := by
  have h1 := setOfL_len (allOf cs)
  have h2 := all_len (m := 4096) hok.len
  have h3 := hok.many
  have h4 : cs.length * 4096 ≤ 65536 * 4096 := Nat.mul_le_mul_right _ h3
  omega
 rw [hll] at HLR hlc ⊢
 rw [hvl] at hvc ⊢
 clear hlr hvr hkids hll hvl hok
 have HFT := hid (fun q (h : q < (setOfL (allOf cs)).length) => filter_take (hasL (cs.getD i Cv.z).2) h)
 have HFL := hid (fun q => (show (((setOfL (allOf cs)).take q).filter (hasL (cs.getD i Cv.z).2)).length ≤ q from Nat.le_trans (List.length_filter_le _ _) (List.length_take_le _ _)))
 generalize (cs.getD i Cv.z).2 = X at *
 generalize hvs : setOfL (allOf cs) = vs at *
 clear hvs
 generalize hnv : vs.length = n at *
 have HNV := hid hnv
 clear hnv
 generalize (indexOf cs).ents.length = n1 at *
 unfold maxLen at hlm
 have hx0 := BoxN.new w #[.slice ea n1 ec, .slice va n vc, .slice la n lc] 30
 have x1 := hx0.cell 2 rfl
 have HX0 := hid hx0
 have HB0 := hid ((Below.refl w.heap.size w).alloc (Nat.le_refl _) (.cells #[.slice ea n1 ec, .slice va n vc, .slice la n lc] 30))
 clear hx0
 go_enter Tryz.func125, Tryz.ntmps125
 go_wp2_with fail
 clear x1
 generalize w.alloc (.cells #[.slice ea n1 ec, .slice va n vc, .slice la n lc] 30) = W0 at *
 go_loopg [5, 11] n (fun N v i wr => ∃ q : Nat, q + N = n ∧ i = .int .i64 (q : Int) ∧ Hid (Below w.heap.size w wr ∧ BoxN wr w.heap.size 30 #[.slice ea n1 ec, .slice va n vc, .slice la n lc] ∧ wr.ownsRow (w.heap.size + 1) 9 1 v ((vs.take q).filter (hasL X)).length (((vs.take q).filter (hasL X)).map Value.string)))
 case atStart => exact ⟨0, by omega, rfl, hid ⟨HB0.out, HX0.out, World.ownsRow_nil _ _ _ _⟩⟩
 case round =>
  obtain ⟨q, hq, rfl, HST⟩ := hrel
  obtain ⟨oa, oc, rfl⟩ := own_slice HST.out.2.2
  have hwz := HST.out.1.size
  have hxz := HST.out.2.1.lt
  have hfl := HFL.out q
  by_cases hp : 0 < gk
  ·obtain ⟨b, o, rfl, hb, hcell⟩ := HLR.out (by omega)
   have hbw : b < w.heap.size := by have : b < B := hb; omega
   obtain ⟨b2, o2, rfl, hb2, hs2⟩ := HVR.out q (by omega)
   obtain ⟨qa, qc, hlq, -⟩ := HKI.out q (by omega)
   have HCQ := hid (lib_ContainsN (lf q) _ i B wr ((HKI.out q (by omega)).keep fun p (hp : p.block < B) => HST.out.1.cell (p := p) (by omega)))
   rw [HCT.out] at HCQ
   have k0 : wr.cell? ⟨b, o + q, none⟩ = some (lf q) := (HST.out.1.cell (p := ⟨b, o + q, none⟩) hbw).trans (by have := hcell q (by omega) 0 (by omega); simpa using this)
   have k1 : wr.cell? ⟨b2, o2 + q, none⟩ = some (.string (vs.getD q ⟨#[]⟩)) := (HST.out.1.cell (p := ⟨b2, o2 + q, none⟩) (by show b2 < _; omega)).trans hs2
   have x1 := HST.out.2.1.cell 1 rfl
   have HFQ := hid (HFT.out q (by omega))
   rw [hlq] at k0 HCQ
   clear hcell hlq hs2
   generalize (listOfV cs (vs.getD q ⟨#[]⟩)).length = ll at *
   generalize vs.getD q ⟨#[]⟩ = s at *
   generalize hcur : (vs.take q).filter (hasL X) = cur at *
   have hqn : (q : Int) < (n : Int) := by omega
   have hqd : decide ((q : Int) < (n : Int)) = true := decide_eq_true hqn
   generalize hcb : hasL X s = cb at *
   clear hcur hcb
   have HO := hid HST.out.2.2
   generalize hcl : cur.length = m at *
   have HCL := hid hcl
   clear hcl
   cases cb
   ·go_wp2_with fail
    with_reducible refine HCQ.out.mono ?_
    rintro e w1 ⟨rfl, rfl⟩
    have HEQ : Hid ((vs.take (q + 1)).filter (hasL X) = cur) := hid (by rw [HFQ.out]; simp)
    clear k0 k1 x1
    go_wp2_with fail
    go_roundg (gk - 1)
    case rel => exact ⟨q + 1, by omega, by go_num, hid ⟨HST.out.1, HST.out.2.1, by rw [HEQ.out, HCL.out]; exact HO.out⟩⟩
    case measure => omega
   ·go_wp2_with fail
    with_reducible refine HCQ.out.mono ?_
    rintro e w1 ⟨rfl, rfl⟩
    have HEQ : Hid ((vs.take (q + 1)).filter (hasL X) = cur ++ [s]) := hid (by rw [HFQ.out]; simp)
    go_wp2_with (at_builtin; refine wpList_append_form _ rfl (.tmp 26) (.tmp 32) 27 27 rfl (w.heap.size + 1) 9 9 i0 (.string ⟨#[]⟩) 1 16 Tryz.underlying27 Tryz.underlying27 hi0 hz0 hz1 hz2 rfl (by decide) (.slice oa m oc) m (cur.map Value.string) rfl (HO.out.alloc _) (some ⟨_, 0, none⟩) 1 1 [.string s] rfl rfl (fun _ => ⟨_, rfl, cell_one_new _ _ _⟩) (smap_one [s]) (by omega) (by unfold maxLen; omega) (by omega) (by simp; omega) ?_; intro p7 cap7 w7 hown7 hg7 hat7 hlt7; have HOWN7 := hid hown7; have HG7 := hid hg7; clear hown7 hg7 hat7)
    have HBW := hid (HST.out.1.alloc hwz (.cells #[.string s] 9))
    have HB7 := hid (below_grownQ HBW.out HG7.out (fun k hk => by have := (HO.out.lt k hk).1; omega))
    have HX7 := hid ((HST.out.2.1.alloc (.cells #[.string s] 9)).grown HG7.out (fun e => by have := (HO.out.lt _ e.symm).1; omega))
    clear k0 k1 x1
    go_wp2
    go_roundg (gk - 1)
    case rel => exact ⟨q + 1, by omega, by go_num, hid ⟨HB7.out, HX7.out, by rw [HEQ.out, List.length_append, List.length_singleton, HCL.out, List.map_append]; exact HOWN7.out⟩⟩
    case measure => omega
  ·obtain rfl : q = n := by omega
   rw [HFIN.out] at HST
   go_wp2
   go_ret
   exact ⟨oa, oc, (by rw [HFIN.out]; rfl), own_base HST.out.2.2 (by omega), HST.out.1⟩
end Go.Proofs.YtikiimlmoalbcaaGreatDoor
