/- Plain: which pairs of columns have enough in common, and how the law counts it. No program in sight. The walk of SignaturePairs. -/
import Derived.Test.YtabemneoobbnaaaGreatDoorKq
import Derived.Test.YtabemneoobbnaaaGreatDoorKs
import Derived.Test.YtabemneoobbnaaaGreatDoorKr
import Derived.Test.YtabemneoobbnaaaGreatDoorKw
namespace Go.Proofs.YtabemneoobbnaaaGreatDoor
open Go.RowKit

theorem outL_mono (cs : List Cv) (n : Nat) (l : List (Nat × Nat)) : (outL cs (n + 1) l).length ≤ (outL cs n l).length := by
  unfold outL
  rw [List.length_map, List.length_map, ← List.countP_eq_length_filter, ← List.countP_eq_length_filter]
  refine List.countP_mono_left fun p _ h => ?_
  rw [decide_eq_true_iff] at *
  omega
theorem prN_mem {n a b : Nat} : (a, b) ∈ prN n ↔ a < b ∧ b < n := by
  unfold prN prK
  rw [List.mem_flatMap]
  constructor
  · rintro ⟨q, hq, h⟩
    obtain ⟨j, hj, e⟩ := List.mem_map.1 h
    rw [Prod.mk.injEq] at e
    have h1 := List.mem_range.1 hq
    have h2 := List.mem_range.1 hj
    omega
  · rintro ⟨h1, h2⟩
    exact ⟨b, List.mem_range.2 h2, List.mem_map.2 ⟨a, List.mem_range.2 h1, rfl⟩⟩
theorem rlt_iffX (a b : Int × Int) : rlt a b = true ↔ a.1 < b.1 ∨ (a.1 = b.1 ∧ a.2 < b.2) := by
  unfold rlt
  simp
theorem refs_ascX {ts : List Ta} (h : ts.Pairwise (fun a b => a.id < b.id)) : (refsL ts).Pairwise (fun a b => rlt (a.1, (a.2 : Int)) (b.1, (b.2 : Int)) = true) := by
  unfold refsL
  rw [List.pairwise_flatMap]
  refine ⟨fun t _ => ?_, h.imp fun {a b} hab x hx y hy => ?_⟩
  · unfold refs1
    refine List.pairwise_map.2 (List.pairwise_lt_range.imp fun h => ?_)
    rw [rlt_iffX]
    right
    exact ⟨rfl, by simp only; omega⟩
  · obtain ⟨i, -, rfl⟩ := List.mem_map.1 hx
    obtain ⟨j, -, rfl⟩ := List.mem_map.1 hy
    rw [rlt_iffX]
    exact .inl hab
theorem cv_ref {ts : List Ta} {i : Nat} (hi : i < (refsL ts).length) : ((cvsL ts).getD i Cv.z).1 = (refsL ts).getD i (0, 0) := by
  simp [cvsL, cvsK, cvOf, List.getD, hi]
theorem refs_inj {ts : List Ta} (h : ListV ts) {i j : Nat} (hi : i < (refsL ts).length) (hj : j < (refsL ts).length) (e : (refsL ts).getD i (0, 0) = (refsL ts).getD j (0, 0)) : i = j := by
  have hp := refs_ascX h.2.2
  have key : ∀ a b, a < b → (ha : a < (refsL ts).length) → (hb : b < (refsL ts).length) → (refsL ts).getD a (0, 0) = (refsL ts).getD b (0, 0) → False := fun a b hab ha hb e => by
    have h1 := List.pairwise_iff_getElem.1 hp a b ha hb hab
    have e1 : (refsL ts).getD a (0, 0) = (refsL ts)[a] := by simp [List.getD, ha]
    have e2 : (refsL ts).getD b (0, 0) = (refsL ts)[b] := by simp [List.getD, hb]
    rw [← e1, ← e2, e, rlt_iffX] at h1
    omega
  rcases Nat.lt_trichotomy i j with h1 | h1 | h1
  · exact absurd (key i j h1 hi hj e) id
  · exact h1
  · exact absurd (key j i h1 hj hi e.symm) id
theorem out_mem {ts : List Ta} (h : ListV ts) {n i j : Nat} (hij : i < j) (hj : j < (refsL ts).length) :
    ((refsL ts).getD i (0, 0), (refsL ts).getD j (0, 0)) ∈ outL (cvsL ts) n (prN (cvsL ts).length) ↔ n ≤ comN ((cvsL ts).getD i Cv.z).2 ((cvsL ts).getD j Cv.z).2 := by
  have hl : (cvsL ts).length = (refsL ts).length := by simp [cvsL, cvsK]
  have hi : i < (refsL ts).length := by omega
  unfold outL
  rw [List.mem_map]
  constructor
  · rintro ⟨⟨a, b⟩, hp, e⟩
    rw [List.mem_filter, decide_eq_true_iff] at hp
    obtain ⟨h1, h2⟩ := hp
    rw [prN_mem] at h1
    rw [Prod.mk.injEq] at e
    simp only at h2 e
    rw [cv_ref (by omega), cv_ref (by omega)] at e
    obtain rfl := refs_inj h (by omega) hi e.1
    obtain rfl := refs_inj h (by omega) hj e.2
    exact h2
  · intro h1
    exact ⟨(i, j), List.mem_filter.2 ⟨prN_mem.2 ⟨hij, by omega⟩, by simpa using h1⟩, by simp only; rw [cv_ref hi, cv_ref hj]⟩
theorem comN_take {X Y : List ByteArray} {k : Nat} (h : k < X.length) : comN (X.take (k + 1)) Y = comN (X.take k) Y + if hasL Y (X.getD k ⟨#[]⟩) = true then 1 else 0 := by
  unfold comN
  rw [List.take_add_one, List.getElem?_eq_getElem h, Option.toList_some, List.filter_append, List.length_append]
  have e : X.getD k ⟨#[]⟩ = X[k] := by simp [List.getD, h]
  rw [e, List.filter_cons, List.filter_nil]
  split <;> rfl
theorem comN_le (X Y : List ByteArray) : comN X Y ≤ X.length := List.length_filter_le _ _
/-- whether a pair is among the first ones of a list -/
def fndP (L : List Rp) (x : Rp) (k : Nat) : Bool := (L.take k).any fun y => decide (y = x)
theorem fnd_zero (L : List Rp) (x : Rp) : fndP L x 0 = false := rfl
theorem fnd_succ {L : List Rp} (x : Rp) {k : Nat} (h : k < L.length) : fndP L x (k + 1) = (fndP L x k || decide (L.getD k ((0, 0), (0, 0)) = x)) := by
  unfold fndP
  rw [List.take_add_one, List.getElem?_eq_getElem h, Option.toList_some, List.any_append]
  have e : L.getD k ((0, 0), (0, 0)) = L[k] := by simp [List.getD, h]
  rw [e]
  simp
theorem fnd_all (L : List Rp) (x : Rp) : fndP L x L.length = true ↔ x ∈ L := by
  unfold fndP
  rw [List.take_length, List.any_eq_true]
  constructor
  · rintro ⟨y, hy, e⟩
    have : y = x := by simpa using e
    exact this ▸ hy
  · intro h
    exact ⟨x, h, by simp⟩
theorem fnd_law {ts : List Ta} (h : ListV ts) {L : List Rp} {n : Nat} (hp : L.Perm (outL (cvsL ts) n (prN (cvsL ts).length))) {i j : Nat} (hij : i < j) (hj : j < (refsL ts).length) :
    fndP L ((refsL ts).getD i (0, 0), (refsL ts).getD j (0, 0)) L.length = decide (n ≤ comN ((cvsL ts).getD i Cv.z).2 ((cvsL ts).getD j Cv.z).2) := by
  rw [Bool.eq_iff_iff, fnd_all, hp.mem_iff, out_mem h hij hj, decide_eq_true_iff]

end Go.Proofs.YtabemneoobbnaaaGreatDoor

namespace Go.Proofs.YtabemneoobbnaaaGreatDoor
open Go.RowKit Go.Shelf

theorem rdU_latY {w w1 : World} {sa : Option Addr} {sn sc : Nat} (h : RdU w w.heap.size sa sn sc) (hb1 : Below w.heap.size w w1) : RdU w1 w1.heap.size sa sn sc := by
  obtain ⟨h1, h2, h3⟩ := h
  refine ⟨h1, h2, fun hp => ?_⟩
  obtain ⟨b, o, e, hlt, hc⟩ := h3 hp
  exact ⟨b, o, e, by have := hb1.size; omega, fun i hi => by
    obtain ⟨x, hx, hcx⟩ := hc i hi
    exact ⟨x, hx, (hb1.cell (p := ⟨b, o + i, none⟩) hlt).trans hcx⟩⟩

set_option maxRecDepth 100000 in
set_option maxHeartbeats 4000000 in
theorem law17_pairs (sa : Option Addr) (sn sc nd : Nat) (hnd : nd < 256) (w : World) (hs : RdU w w.heap.size sa sn sc) (hT : Tabs w) :
    Calls Tryz.prog 6 #[.slice sa sn sc, .int .u8 (nd : Int)] w (Ret w (.bool true)) := by
  have HS := hid hs
  have HT := hid hT
  clear hs hT
  go_enter Tryz.func6, Tryz.ntmps6
  generalize hLA : Code.loop _ = LA
  go_wp2_with fail
  with_reducible refine (law17_sane _ HT.out).mono ?_
  rintro e w1 ⟨rfl, hb1⟩
  have HB1 := hid hb1
  have HU1 := hid (rdU_latY HS.out hb1)
  have hz1 := hb1.size
  clear hb1
  go_wp2_with fail
  with_reducible refine (mill_New sa sn sc _ HU1.out).mono ?_
  rintro e w2 ⟨rfl, hd2, hb2⟩
  have HD2 := hid hd2
  have HB2 := hid (HB1.out.trans (hb2.mono HB1.out.size))
  clear hd2 hb2 HU1
  generalize hgg : w1.heap.size = g at *
  clear hgg
  have hLL := hid (dice_List g 3 4 7 _ HD2.out (by omega) (by omega) (by omega))
  rw [show (((3 : Nat)) : Int) = 3 from rfl, show (((4 : Nat)) : Int) = 4 from rfl, show (((7 : Nat)) : Int) = 7 from rfl] at hLL
  obtain ⟨m, hm⟩ : ∃ m : Nat, m = nd % 4 := ⟨_, rfl⟩
  obtain ⟨need, hnn⟩ : ∃ need : Nat, need = 1 + m := ⟨_, rfl⟩
  have hm1 : (nd : Int) % 4 = (m : Int) := by omega
  have hm2 : Int.tmod (nd : Int) 4 = (m : Int) := by rw [hm]; rfl
  have hn1 : (1 : Int) + (m : Int) = (need : Int) := by omega
  have hn5 : 1 ≤ need ∧ need ≤ 5 := by omega
  have hn6 : (need : Int) + 1 = ((need + 1 : Nat) : Int) := by omega
  clear hm hnn
  obtain ⟨hn5a, hn5b⟩ := hn5
  go_wp2_with fail
  with_reducible refine hLL.out.mono ?_
  clear hLL
  rintro e w3 ⟨ts, ta, tc, rfl, hrd, hok, hd3, hr3⟩
  have hlv := listV_of hok (by omega) (by omega) (by omega)
  have HLV := hid hlv
  have HB3 := hid (HB2.out.trans (hr3.below (B' := w.heap.size) (by omega) (HB2.out.size)))
  have HRD := hid (hrd.more (S' := (· < w3.heap.size)) fun b hb => And.right hb)
  have HPA := hid (fun W (hW : Below w3.heap.size w3 W) => sig_Pairs (.slice ta ts.length tc) ts w3.heap.size need W hlv (HRD.out.keep fun p (hp : p.block < w3.heap.size) => hW.cell (p := p) hp) hW.size ((HT.out.below HB3.out).below hW) hn5a (by omega))
  have HPB := hid (fun W (hW : Below w3.heap.size w3 W) => (show Calls Tryz.prog 30 #[.slice ta ts.length tc, .int .i64 ((need : Int) + 1)] W (PairsP W (outL (cvsL ts) (need + 1) (prN (cvsL ts).length))) from by
    have h := sig_Pairs (.slice ta ts.length tc) ts w3.heap.size (need + 1) W hlv (HRD.out.keep fun p (hp : p.block < w3.heap.size) => hW.cell (p := p) hp) hW.size ((HT.out.below HB3.out).below hW) (by omega) (by omega)
    rwa [← hn6] at h))
  have HTR := hid (fun W (hW : Below w3.heap.size w3 W) => sig_Tried (.slice ta ts.length tc) ts w3.heap.size need W hlv (HRD.out.keep fun p (hp : p.block < w3.heap.size) => hW.cell (p := p) hp) hW.size ((HT.out.below HB3.out).below hW) hn5a (by omega))
  have HRF := hid (fun W (hW : Below w3.heap.size w3 W) => ref_Refs (.slice ta ts.length tc) ts w3.heap.size W HLV.out (HRD.out.keep fun p (hp : p.block < w3.heap.size) => hW.cell (p := p) hp) hW.size)
  have HGT := hid (fun q (hq : q < (refsL ts).length) W (hW : Below w3.heap.size w3 W) => ref_Get_at (.slice ta ts.length tc) ts w3.heap.size q W HLV.out hq (HRD.out.keep fun p (hp : p.block < w3.heap.size) => hW.cell (p := p) hp) hW.size)
  have HQ3 := hid (Below.refl w3.heap.size w3)
  have HRS := hid (cvsL_lenR ts)
  have HMANY := hid (colsV_of hlv).many
  clear hrd hok hd3 hr3 hlv hn6
  generalize hL : ts.length = L at *
  have HL := hid hL
  clear hL
  go_wp2_with fail
  with_reducible refine (HPA.out _ HQ3.out).mono ?_
  rintro e w4 ⟨pa, pc, P, rfl, hp4, hrd4, hb4⟩
  have HP4 := hid hp4
  have HRP := hid hrd4
  have HB4 := hid hb4
  have HQ4 := hid (Below.refl w4.heap.size w4)
  have HPLE := hid hp4.length_eq
  have HMX : Hid ((prN (cvsL ts).length).length ≤ 4294967296) := hid (by
    have h2 := prN_len (cvsL ts).length
    have h3 : (cvsL ts).length * (cvsL ts).length ≤ 65536 * 65536 := Nat.mul_le_mul HMANY.out HMANY.out
    omega)
  have hpm : P.length ≤ 4294967296 := by
    have h1 := outL_len (cvsL ts) need (prN (cvsL ts).length)
    have h2 := HPLE.out
    have h3 := HMX.out
    omega
  clear hp4 hrd4 hb4
  go_wp2_with fail
  with_reducible refine (HPB.out _ HB4.out).mono ?_
  rintro e w5 ⟨qa, qc, Q, rfl, hp5, -, hb5⟩
  have HB5 := hid (HB4.out.trans (hb5.mono HB4.out.size))
  have HB45 := hid hb5
  have hqp : Q.length ≤ P.length := by
    have h1 := hp5.length_eq
    have h2 := outL_mono (cvsL ts) need (prN (cvsL ts).length)
    have h3 := HPLE.out
    omega
  clear hp5 hb5
  go_wp2_with fail
  with_reducible refine (HTR.out _ HB5.out).mono ?_
  rintro e w6 ⟨mt, rfl, hmt1, hmt2, hb6⟩
  have HB6 := hid (HB5.out.trans (hb6.mono HB5.out.size))
  have HB46 := hid (HB45.out.trans (hb6.mono HB45.out.size))
  have hpt : P.length ≤ mt := by have h3 := HPLE.out; omega
  have hmt : mt ≤ 4294967296 := by have h3 := HMX.out; omega
  clear hb6 HPA HPB HTR hmt1 hmt2
  generalize hpln : P.length = pl at *
  have HPL := hid hpln
  clear hpln
  generalize Q.length = ql at *
  have hd1 : decide ((pl : Int) < (ql : Int)) = false := decide_eq_false (by omega)
  have hd2 : decide ((mt : Int) < (pl : Int)) = false := decide_eq_false (by omega)
  have hd3 : decide (pl < ql) = false := decide_eq_false (by omega)
  have hd4 : decide (mt < pl) = false := decide_eq_false (by omega)
  go_wp2_with fail
  with_reducible refine (HRF.out _ HB6.out).mono ?_
  rintro e w7 ⟨ra, rc, rfl, hrr, hb7⟩
  have HB7 := hid (HB6.out.trans (hb7.mono HB6.out.size))
  have HRR := hid hrr
  have HB67 := hid hb7
  have HB47 := hid (HB46.out.trans (hb7.mono HB46.out.size))
  have hz47 := HB47.out.size
  have HPC : Hid (∀ j, j < pl → ∃ b o, pa = some ⟨b, o, none⟩ ∧ b < w7.heap.size ∧ ∀ i, i < pl → ∀ t, t < 4 → w7.cell? ⟨b, o + i * 4 + t, none⟩ = some (rpF P i t)) := hid (fun j hj => by
    obtain ⟨a', c', e, -, -, hr⟩ := HRP.out
    obtain ⟨rfl, -, rfl⟩ := Value.slice.inj e
    obtain ⟨b, o, rfl, hb, hc⟩ := hr (by omega)
    exact ⟨b, o, rfl, Nat.lt_of_lt_of_le hb.2 hz47, fun i hi t ht => (HB47.out.cell (p := ⟨b, o + i * 4 + t, none⟩) hb.2).trans (hc i hi t ht)⟩)
  have HCL := hid (fun q (hq : q < (refsL ts).length) => (show ((colsL ts).getD q Co.z).cells.length ≤ 1048576 from by
    obtain ⟨i, k, hi, hk, -, h4⟩ := refs_at ts q hq
    rw [h4]
    obtain ⟨m, hm, hc⟩ := (HLV.out.2.1 _ (getD_mem hi Ta.z)).2.2.2.2
    have := (hc _ (getD_mem hk Co.z)).2.1
    omega))
  have HVA := hid (fun q (hq : q < (refsL ts).length) => (show valuesL ((colsL ts).getD q Co.z).cells = ((cvsL ts).getD q Cv.z).2 from by simp [cvsL, cvsK, cvOf, List.getD, hq]))
  have hn64 : (refsL ts).length ≤ 65536 := by have h1 := HRS.out; have h2 := HMANY.out; omega
  clear hb7 hrr
  generalize hnn : (refsL ts).length = n at *
  have HNN := hid hnn
  clear hnn
  go_wp2_with fail
  subst hLA
  go_loopg [85] n (fun N i wr => ∃ q : Nat, q + N = n ∧ i = .int .i64 (q : Int) ∧ Hid (Below w7.heap.size w7 wr))
  case atStart => exact ⟨0, by omega, rfl, hid (Below.refl _ _)⟩
  case round =>
    obtain ⟨q, hq, rfl, HB⟩ := hrel
    by_cases hp : 0 < gk
    · have hqn : q < n := by omega
      obtain ⟨ra', rc', er, hrc1, hrc2, hrd⟩ := HRR.out
      rw [HNN.out] at er hrc1 hrd
      obtain ⟨rfl, -, rfl⟩ := Value.slice.inj er
      obtain ⟨b2, o2, rfl, hb2, hcell⟩ := hrd (by omega)
      have hbw : b2 < w7.heap.size := hb2.2
      have HRC : Hid (∀ W, Below w7.heap.size w7 W → ∀ j, j < n → W.cell? ⟨b2, o2 + j * 2, none⟩ = some (.int .i64 ((refsL ts).getD j (0, 0)).1) ∧ W.cell? ⟨b2, o2 + j * 2 + 1, none⟩ = some (.int .i64 (((refsL ts).getD j (0, 0)).2 : Int))) := hid (fun W hW j hj =>
        ⟨(hW.cell (p := ⟨b2, o2 + j * 2, none⟩) hbw).trans (hcell j hj 0 (by omega)), (hW.cell (p := ⟨b2, o2 + j * 2 + 1, none⟩) hbw).trans (hcell j hj 1 (by omega))⟩)
      obtain ⟨r0, r1⟩ := HRC.out wr HB.out q hqn
      clear hcell hrd er
      generalize hrq : (refsL ts).getD q (0, 0) = rq at r0 r1
      have HRQ := hid hrq
      clear hrq
      obtain ⟨ri, rk⟩ := rq
      simp only at r0 r1
      have HXA := hid (BoxN.new wr #[.int .i64 ri, .int .i64 (rk : Int)] 47)
      have hwz := HB.out.size
      have HBA : Hid (Below w7.heap.size w7 (wr.alloc (.cells #[.int .i64 ri, .int .i64 (rk : Int)] 47))) := hid (HB.out.alloc hwz _)
      obtain ⟨q1, hq1⟩ : ∃ q1, q1 = q + 1 := ⟨_, rfl⟩
      obtain ⟨n2, hn2⟩ : ∃ n2, n2 = n - q1 := ⟨_, rfl⟩
      obtain ⟨c2, hc2⟩ : ∃ c2, c2 = rc - q1 := ⟨_, rfl⟩
      have e1 : (q : Int) + 1 = (q1 : Int) := by omega
      have e2 : IntKind.i64.wrap (q1 : Int) = (q1 : Int) := IntWalk.i64_in _ (by omega)
      have e3 : (q1 : Int) ≤ (n : Int) := by omega
      have e4 : (0 : Int) ≤ (q1 : Int) := Int.natCast_nonneg _
      have e5 : q1 ≤ n := by omega
      have e6 : q1 ≤ rc := Nat.le_trans e5 hrc1
      have HQ1 := hid hq1
      have HN2 := hid hn2
      have HC2 := hid hc2
      clear hq1 hn2 hc2
      generalize hLC : Code.loop _ = LC
      go_wp2_with fail
      · obtain rfl : rc = q1 := by assumption
        obtain rfl : n = rc := by omega
        rw [Nat.sub_self]
        subst hLC
        obtain ⟨wo, rfl⟩ : ∃ wo, wo = wr := ⟨wr, rfl⟩
        obtain ⟨ko, rfl⟩ : ∃ ko, ko = gk := ⟨gk, rfl⟩
        generalize wo.alloc (.cells #[.int .i64 ri, .int .i64 (rk : Int)] 47) = wA at *
        go_loopg [95] 0 (fun N i W => i = .int .i64 0 ∧ W = wA)
        case atStart => exact ⟨rfl, rfl⟩
        case round =>
          obtain ⟨rfl, rfl⟩ := hrel
          go_wp2_with fail
          go_roundg (ko - 1)
          case rel => exact ⟨q + 1, by have := HQ1.out; omega, by go_num, HBA⟩
          case measure => omega
      · have hrq1 : ¬ rc = q1 := by assumption
        have hAD : Hid (∀ j, j < n - q1 → o2 + q1 * 2 + j * 2 = o2 + (q1 + j) * 2) := hid (fun j _ => by omega)
        have hA1 : Hid (q1 + (n - q1) = n) := hid (by omega)
        generalize n - q1 = m2 at *
        have hm2 : m2 ≤ 65536 := by have := hA1.out; omega
        subst hLC
        obtain ⟨wo, rfl⟩ : ∃ wo, wo = wr := ⟨wr, rfl⟩
        obtain ⟨ko, rfl⟩ : ∃ ko, ko = gk := ⟨gk, rfl⟩
        generalize hab : wo.heap.size = ab at *
        generalize wo.alloc (.cells #[.int .i64 ri, .int .i64 (rk : Int)] 47) = wA at *
        have hzA := HBA.out.size
        have habl := HXA.out.lt
        go_loopg [95] m2 (fun N i W => ∃ p : Nat, p + N = m2 ∧ i = .int .i64 (p : Int) ∧ Hid (Below wA.heap.size wA W))
        case atStart => exact ⟨0, by omega, rfl, hid (Below.refl _ _)⟩
        case round =>
          obtain ⟨p, hpm, rfl, HBi⟩ := hrel
          have HB7r := hid (HBA.out.trans (HBi.out.mono hzA))
          have hzi := HBi.out.size
          by_cases hpp : 0 < gk
          · have hp2 : p < m2 := by omega
            have hqp : q1 + p < n := by have := hA1.out; omega
            have hqq : q < q1 + p := by have := HQ1.out; omega
            obtain ⟨s0, s1⟩ := HRC.out wr HB7r.out (q1 + p) hqp
            rw [← hAD.out p hp2] at s0 s1
            generalize hrp : (refsL ts).getD (q1 + p) (0, 0) = rp at s0 s1
            have HRPQ := hid hrp
            clear hrp
            obtain ⟨si, sk⟩ := rp
            simp only at s0 s1
            have HXB := hid (BoxN.new wr #[.int .i64 si, .int .i64 (sk : Int)] 47)
            have hxa2 := (HXA.out.below HBi.out habl).alloc (.cells #[.int .i64 si, .int .i64 (sk : Int)] 47)
            have a0 := hxa2.cell 0 rfl
            have a1 := hxa2.cell 1 rfl
            have HXA2 := hid hxa2
            clear hxa2
            have HB7b : Hid (Below w7.heap.size w7 (wr.alloc (.cells #[.int .i64 si, .int .i64 (sk : Int)] 47))) := hid (HB7r.out.alloc HB7r.out.size _)
            have HB3b := hid (HB67.out.trans (HB7b.out.mono HB67.out.size))
            have HG1 := hid (HGT.out q hqn _ ((HB6.out.trans (HB3b.out.mono HB6.out.size))))
            rw [HRQ.out] at HG1
            have HC1 := hid (HCL.out q hqn)
            have HC2 := hid (HCL.out (q1 + p) hqp)
            have HV1 := hid (HVA.out q hqn)
            have HV2 := hid (HVA.out (q1 + p) hqp)
            have HG2 := hid (fun W (hW : Below w3.heap.size w3 W) => HGT.out (q1 + p) hqp W hW)
            rw [HRPQ.out] at HG2
            generalize (colsL ts).getD q Co.z = x at *
            generalize (colsL ts).getD (q1 + p) Co.z = y at *
            obtain ⟨xn, xcl⟩ := x
            obtain ⟨yn, ycl⟩ := y
            have HX64 : Hid ((valuesL xcl).length ≤ 1048576) := hid (Nat.le_trans (values_len xcl) HC1.out)
            generalize hLD : Code.loop _ = LD
            go_wp2_with fail
            with_reducible refine HG1.out.mono ?_
            have hzB : (wr.alloc (.cells #[.int .i64 si, .int .i64 (sk : Int)] 47)).heap.size = wr.heap.size + 1 := by simp
            have HBAb : Hid (Below wA.heap.size wA (wr.alloc (.cells #[.int .i64 si, .int .i64 (sk : Int)] 47))) := hid (HBi.out.alloc hzi _)
            clear a0 a1 s0 s1
            generalize wr.alloc (.cells #[.int .i64 si, .int .i64 (sk : Int)] 47) = wB at *
            rintro e w8 ⟨u, rfl, hru, hb8⟩
            have HB8 := hid hb8
            have HB3B := hid (HB6.out.trans (HB3b.out.mono HB6.out.size))
            have HB38 := hid ((HB6.out.trans (HB3b.out.mono HB6.out.size)).trans (hb8.mono (by have := (HB6.out.trans (HB3b.out.mono HB6.out.size)).size; exact this)))
            have HVX := hid (fun W (hW : Below w8.heap.size w8 W) => ref_Values xn xcl u w3.heap.size W (hru.keep fun p (hp : p.block < w3.heap.size) => (HB8.out.trans (hW.mono HB8.out.size)).cell (p := p) (Nat.lt_of_lt_of_le hp HB3B.out.size)) (Nat.le_trans HB38.out.size hW.size) HC1.out)
            obtain ⟨ua, uc, rfl, -⟩ := hru
            simp only
            generalize xcl.length = un at *
            have hzb8 := hb8.size
            have HXX := hid (BoxN.new w8 #[.string xn, .slice ua un uc] 52)
            have HXB8 := hid ((HXB.out.below hb8 HXB.out.lt).alloc (.cells #[.string xn, .slice ua un uc] 52))
            have b0 := HXB8.out.cell 0 rfl
            have b1 := HXB8.out.cell 1 rfl
            have HB39 := hid (HB38.out.alloc HB38.out.size (.cells #[.string xn, .slice ua un uc] 52))
            have HB99 := hid ((Below.refl w8.heap.size w8).alloc (Nat.le_refl _) (.cells #[.string xn, .slice ua un uc] 52))
            have hz99 : (w8.alloc (.cells #[.string xn, .slice ua un uc] 52)).heap.size = w8.heap.size + 1 := by simp
            clear hb8
            go_wp2_with fail
            with_reducible refine (HG2.out _ HB39.out).mono ?_
            clear b0 b1
            generalize w8.alloc (.cells #[.string xn, .slice ua un uc] 52) = w9 at *
            rintro e w10 ⟨v, rfl, hrv, hb10⟩
            have HB310 := hid (HB39.out.trans (hb10.mono HB39.out.size))
            have HVY := hid (fun W (hW : Below w10.heap.size w10 W) => ref_Values yn ycl v w3.heap.size W (hrv.keep fun p (hp : p.block < w3.heap.size) => (hb10.trans (hW.mono hb10.size)).cell (p := p) (Nat.lt_of_lt_of_le hp HB39.out.size)) (Nat.le_trans HB310.out.size hW.size) HC2.out)
            obtain ⟨va, vc, rfl, -⟩ := hrv
            simp only
            generalize ycl.length = vn at *
            have hz910 := hb10.size
            have HXY := hid (BoxN.new w10 #[.string yn, .slice va vn vc] 52)
            have HXX1 := hid ((HXX.out.below hb10 HXX.out.lt).alloc (.cells #[.string yn, .slice va vn vc] 52))
            have x0 := HXX1.out.cell 0 rfl
            have x1 := HXX1.out.cell 1 rfl
            have HB8y := hid ((HB99.out.trans (hb10.mono (by omega))).alloc (by omega) (.cells #[.string yn, .slice va vn vc] 52))
            have HB10y := hid ((Below.refl w10.heap.size w10).alloc (Nat.le_refl _) (.cells #[.string yn, .slice va vn vc] 52))
            have HBBy := hid (((HB8.out.trans (HB99.out.mono hzb8)).trans (hb10.mono (by omega))).alloc (by omega) (.cells #[.string yn, .slice va vn vc] 52))
            have hz10y : (w10.alloc (.cells #[.string yn, .slice va vn vc] 52)).heap.size = w10.heap.size + 1 := by simp
            clear hb10
            go_wp2_with fail
            with_reducible refine (HVX.out _ HB8y.out).mono ?_
            clear x0 x1
            generalize w10.alloc (.cells #[.string yn, .slice va vn vc] 52) = w11 at *
            rintro e w12 ⟨xa, xc, rfl, hown12, hb12⟩
            try simp only at hown12
            try simp only at HV1
            try simp only at HV2
            have hz12 := hb12.size
            have HXC : Hid (∀ j, j < (valuesL xcl).length → ∃ b o, xa = some ⟨b, o, none⟩ ∧ b < w12.heap.size ∧ ∀ i, i < (valuesL xcl).length → w12.cell? ⟨b, o + i, none⟩ = some (.string ((valuesL xcl).getD i ⟨#[]⟩))) := hid (fun j hj => by
              obtain ⟨a', c', e, -, -, hr⟩ := inS_of_own hown12
              obtain ⟨rfl, -, rfl⟩ := Value.slice.inj e
              obtain ⟨b, o, rfl, hb, hc⟩ := hr (by omega)
              exact ⟨b, o, rfl, (hown12.lt b hb).2, fun i hi => by
                have h := hc i hi 0 (by omega)
                simp only [Nat.mul_one, Nat.add_zero] at h
                exact h⟩)
            have HXY12 := hid (HXY.out.below hb12 HXY.out.lt)
            have HB10z := hid (HB10y.out.trans (hb12.mono (by omega)))
            have HBBz := hid (HBBy.out.trans (hb12.mono (by omega)))
            have hyl := HXY.out.lt
            clear hown12 hb12
            have hxl64 := HX64.out
            generalize valuesL xcl = X at *
            generalize hYY : valuesL ycl = Y at *
            generalize hxl : X.length = xl at *
            have HXL := hid hxl
            clear hxl
            go_wp2_with fail
            subst hLD
            obtain ⟨wi, rfl⟩ : ∃ wi, wi = wr := ⟨wr, rfl⟩
            obtain ⟨ki, rfl⟩ : ∃ ki, ki = gk := ⟨gk, rfl⟩
            go_loopg [23, 114] xl (fun N v i W => ∃ j : Nat, j + N = xl ∧ i = .int .i64 (j : Int) ∧ v = .int .i64 ((comN (X.take j) Y : Nat) : Int) ∧ Hid (Below w12.heap.size w12 W))
            case atStart => exact ⟨0, by omega, rfl, rfl, hid (Below.refl _ _)⟩
            case round =>
              obtain ⟨j, hj, rfl, rfl, HBj⟩ := hrel
              have hzj := HBj.out.size
              by_cases hpj : 0 < gk
              · have hjx : j < xl := by omega
                obtain ⟨b3, o3, rfl, hb3, hx3⟩ := HXC.out j hjx
                have k0 : wr.cell? ⟨b3, o3 + j, none⟩ = some (.string (X.getD j ⟨#[]⟩)) := (HBj.out.cell (p := ⟨b3, o3 + j, none⟩) hb3).trans (hx3 j hjx)
                have HCT := hid (comN_take (X := X) (Y := Y) (k := j) (by rw [HXL.out]; exact hjx))
                have hcl := comN_le (X.take j) Y
                have HXYj := hid (HXY12.out.below HBj.out (by omega))
                have y0 := HXYj.out.cell 0 rfl
                have y1 := HXYj.out.cell 1 rfl
                have hct : comN (X.take j) Y ≤ 1048576 := by rw [List.length_take] at hcl; omega
                have HB10j := hid (HB10z.out.trans (HBj.out.mono (by omega)))
                clear hx3 hcl
                generalize comN (X.take j) Y = ct at *
                generalize X.getD j ⟨#[]⟩ = t at *
                go_wp2_with fail
                with_reducible refine (HVY.out wr HB10j.out).mono ?_
                rintro e w13 ⟨ya, yc, rfl, hown13, hb13⟩
                have HB12w := hid (HBj.out.trans (hb13.mono hzj))
                have HHS := hid (ref_Has _ Y t w13.heap.size w13 (rdS_of_own hown13))
                clear hown13 hb13 k0 y0 y1
                cases hhas : hasL Y t with
                | true =>
                  rw [hhas] at HHS
                  have hcq := HCT.out
                  rw [if_pos hhas] at hcq
                  have HCE := hid hcq
                  clear hcq
                  go_wp2_with fail
                  with_reducible refine HHS.out.mono ?_
                  rintro e w14 ⟨rfl, k14, rfl⟩
                  go_wp2_with fail
                  go_roundg (gk - 1)
                  case rel => exact ⟨j + 1, by omega, by go_num, by rw [HCE.out]; go_num, hid (below_drewN HB12w.out)⟩
                  case measure => omega
                | false =>
                  rw [hhas] at HHS
                  have hcq := HCT.out
                  rw [if_neg (by rw [hhas]; exact Bool.false_ne_true)] at hcq
                  have HCE := hid hcq
                  clear hcq
                  go_wp2_with fail
                  with_reducible refine HHS.out.mono ?_
                  rintro e w14 ⟨rfl, k14, rfl⟩
                  go_wp2_with fail
                  go_roundg (gk - 1)
                  case rel => exact ⟨j + 1, by omega, by go_num, by rw [HCE.out]; rfl, hid (below_drewN HB12w.out)⟩
                  case measure => omega
              · obtain rfl : j = xl := by omega
                have hct := comN_le X Y
                rw [HXL.out] at hct
                have HALL : Hid (X.take j = X) := hid (by rw [← HXL.out, List.take_length])
                rw [HALL.out]
                have HBBj := hid (HBBz.out.trans (HBj.out.mono (by omega)))
                go_wp2_with fail
                obtain ⟨wj, rfl⟩ : ∃ wj, wj = wr := ⟨wr, rfl⟩
                obtain ⟨kj, rfl⟩ : ∃ kj, kj = gk := ⟨gk, rfl⟩
                have HAj := hid ((HXA.out.below HBAb.out habl).below HBBj.out (by have := HBAb.out.size; omega))
                have HBj2 := hid (HXB.out.below HBBj.out HXB.out.lt)
                have HAAj := hid (HBAb.out.trans (HBBj.out.mono HBAb.out.size))
                have hwjz := HBBj.out.size
                have hbbl := HXB.out.lt
                have hAAz := HBAb.out.size
                have HB7j := hid (HBA.out.trans ((HBAb.out.trans (HBBj.out.mono hAAz)).mono hzA))
                have HFL := hid (fnd_law HLV.out HP4.out hqq (by rw [HNN.out]; exact hqp))
                rw [HRQ.out, HRPQ.out, ← HV1.out, ← HV2.out] at HFL
                go_loopg [26, 127] pl (fun N v i W => ∃ l : Nat, l + N = pl ∧ i = .int .i64 (l : Int) ∧ v = .bool (fndP P ((ri, rk), (si, sk)) l) ∧ Hid (Below wj.heap.size wj W))
                case atStart => exact ⟨0, by omega, rfl, rfl, hid (Below.refl _ _)⟩
                case round =>
                  obtain ⟨l, hl, rfl, rfl, HBl⟩ := hrel
                  have hzl := HBl.out.size
                  by_cases hpl : 0 < gk
                  · have hlp : l < pl := by omega
                    obtain ⟨b5, o5, rfl, hb5', hx5⟩ := HPC.out l hlp
                    have hn6 : Hid (fndP P ((ri, rk), (si, sk)) (l + 1) = (fndP P ((ri, rk), (si, sk)) l || decide (P.getD l ((0, 0), (0, 0)) = ((ri, rk), (si, sk))))) := hid (fnd_succ _ (by rw [HPL.out]; exact hlp))
                    have HB7l := hid (HB7j.out.trans (HBl.out.mono (by have := HB7j.out.size; exact this)))
                    have z0 : wr.cell? ⟨b5, o5 + l * 4, none⟩ = some (.int .i64 (P.getD l ((0, 0), (0, 0))).1.1) := (HB7l.out.cell (p := ⟨b5, o5 + l * 4, none⟩) hb5').trans (hx5 l hlp 0 (by omega))
                    have z1 : wr.cell? ⟨b5, o5 + l * 4 + 1, none⟩ = some (.int .i64 ((P.getD l ((0, 0), (0, 0))).1.2 : Int)) := (HB7l.out.cell (p := ⟨b5, o5 + l * 4 + 1, none⟩) hb5').trans (hx5 l hlp 1 (by omega))
                    have z2 : wr.cell? ⟨b5, o5 + l * 4 + 2, none⟩ = some (.int .i64 (P.getD l ((0, 0), (0, 0))).2.1) := (HB7l.out.cell (p := ⟨b5, o5 + l * 4 + 2, none⟩) hb5').trans (hx5 l hlp 2 (by omega))
                    have z3 : wr.cell? ⟨b5, o5 + l * 4 + 3, none⟩ = some (.int .i64 ((P.getD l ((0, 0), (0, 0))).2.2 : Int)) := (HB7l.out.cell (p := ⟨b5, o5 + l * 4 + 3, none⟩) hb5').trans (hx5 l hlp 3 (by omega))
                    clear hx5
                    generalize P.getD l ((0, 0), (0, 0)) = zp at *
                    obtain ⟨⟨g1, g2⟩, ⟨g3, g4⟩⟩ := zp
                    simp only at z0 z1 z2 z3
                    generalize hfo : fndP P ((ri, rk), (si, sk)) l = fo at *
                    clear hfo
                    have HFN := hn6
                    clear hn6
                    cases fo with
                    | true =>
                      have hal := (HAj.out.below HBl.out HAj.out.lt).alloc (.cells #[.int .i64 g1, .int .i64 (g2 : Int), .int .i64 g3, .int .i64 (g4 : Int)] 72)
                      have hbl := (HBj2.out.below HBl.out HBj2.out.lt).alloc (.cells #[.int .i64 g1, .int .i64 (g2 : Int), .int .i64 g3, .int .i64 (g4 : Int)] 72)
                      have a0 := hal.cell 0 rfl
                      have a1 := hal.cell 1 rfl
                      have b0 := hbl.cell 0 rfl
                      have b1 := hbl.cell 1 rfl
                      have HBn := hid (HBl.out.alloc hzl (.cells #[.int .i64 g1, .int .i64 (g2 : Int), .int .i64 g3, .int .i64 (g4 : Int)] 72))
                      clear hal hbl
                      go_wp2_with fail
                      go_roundg (gk - 1)
                      case rel => exact ⟨l + 1, by omega, by go_num, by rw [HFN.out]; rfl, HBn⟩
                      case measure => omega
                    | false =>
                      by_cases f1 : g1 = ri
                      · subst f1
                        by_cases f2 : g2 = rk
                        · subst f2
                          by_cases f3 : g3 = si
                          · subst f3
                            by_cases f4 : g4 = sk
                            · subst f4
                              have hal := (HAj.out.below HBl.out HAj.out.lt).alloc (.cells #[.int .i64 g1, .int .i64 (g2 : Int), .int .i64 g3, .int .i64 (g4 : Int)] 72)
                              have hbl := (HBj2.out.below HBl.out HBj2.out.lt).alloc (.cells #[.int .i64 g1, .int .i64 (g2 : Int), .int .i64 g3, .int .i64 (g4 : Int)] 72)
                              have a0 := hal.cell 0 rfl
                              have a1 := hal.cell 1 rfl
                              have b0 := hbl.cell 0 rfl
                              have b1 := hbl.cell 1 rfl
                              have HBn := hid (HBl.out.alloc hzl (.cells #[.int .i64 g1, .int .i64 (g2 : Int), .int .i64 g3, .int .i64 (g4 : Int)] 72))
                              clear hal hbl
                              have HFD : Hid (decide (((g1, g2), (g3, g4)) = ((g1, g2), (g3, g4))) = true) := hid (decide_eq_true rfl)
                              go_wp2_with fail
                              go_roundg (gk - 1)
                              case rel => exact ⟨l + 1, by omega, by go_num, by rw [HFN.out, HFD.out]; rfl, HBn⟩
                              case measure => omega
                            · have f4' : ¬ (g4 : Int) = (sk : Int) := by omega
                              have hal := (HAj.out.below HBl.out HAj.out.lt).alloc (.cells #[.int .i64 g1, .int .i64 (g2 : Int), .int .i64 g3, .int .i64 (g4 : Int)] 72)
                              have hbl := (HBj2.out.below HBl.out HBj2.out.lt).alloc (.cells #[.int .i64 g1, .int .i64 (g2 : Int), .int .i64 g3, .int .i64 (g4 : Int)] 72)
                              have a0 := hal.cell 0 rfl
                              have a1 := hal.cell 1 rfl
                              have b0 := hbl.cell 0 rfl
                              have b1 := hbl.cell 1 rfl
                              have HBn := hid (HBl.out.alloc hzl (.cells #[.int .i64 g1, .int .i64 (g2 : Int), .int .i64 g3, .int .i64 (g4 : Int)] 72))
                              clear hal hbl
                              have HFD : Hid (decide (((g1, g2), (g3, g4)) = ((g1, g2), (g3, sk))) = false) := hid (decide_eq_false (fun e => f4 (by injection e with e1 e2; injection e2)))
                              go_wp2_with fail
                              go_roundg (gk - 1)
                              case rel => exact ⟨l + 1, by omega, by go_num, by rw [HFN.out, HFD.out]; rfl, HBn⟩
                              case measure => omega
                          · skip
                            have hal := (HAj.out.below HBl.out HAj.out.lt).alloc (.cells #[.int .i64 g1, .int .i64 (g2 : Int), .int .i64 g3, .int .i64 (g4 : Int)] 72)
                            have hbl := (HBj2.out.below HBl.out HBj2.out.lt).alloc (.cells #[.int .i64 g1, .int .i64 (g2 : Int), .int .i64 g3, .int .i64 (g4 : Int)] 72)
                            have a0 := hal.cell 0 rfl
                            have a1 := hal.cell 1 rfl
                            have b0 := hbl.cell 0 rfl
                            have b1 := hbl.cell 1 rfl
                            have HBn := hid (HBl.out.alloc hzl (.cells #[.int .i64 g1, .int .i64 (g2 : Int), .int .i64 g3, .int .i64 (g4 : Int)] 72))
                            clear hal hbl
                            have HFD : Hid (decide (((g1, g2), (g3, g4)) = ((g1, g2), (si, sk))) = false) := hid (decide_eq_false (fun e => f3 (by injection e with e1 e2; injection e2)))
                            go_wp2_with fail
                            go_roundg (gk - 1)
                            case rel => exact ⟨l + 1, by omega, by go_num, by rw [HFN.out, HFD.out]; rfl, HBn⟩
                            case measure => omega
                        · have f2' : ¬ (g2 : Int) = (rk : Int) := by omega
                          have hal := (HAj.out.below HBl.out HAj.out.lt).alloc (.cells #[.int .i64 g1, .int .i64 (g2 : Int), .int .i64 g3, .int .i64 (g4 : Int)] 72)
                          have hbl := (HBj2.out.below HBl.out HBj2.out.lt).alloc (.cells #[.int .i64 g1, .int .i64 (g2 : Int), .int .i64 g3, .int .i64 (g4 : Int)] 72)
                          have a0 := hal.cell 0 rfl
                          have a1 := hal.cell 1 rfl
                          have b0 := hbl.cell 0 rfl
                          have b1 := hbl.cell 1 rfl
                          have HBn := hid (HBl.out.alloc hzl (.cells #[.int .i64 g1, .int .i64 (g2 : Int), .int .i64 g3, .int .i64 (g4 : Int)] 72))
                          clear hal hbl
                          have HFD : Hid (decide (((g1, g2), (g3, g4)) = ((g1, rk), (si, sk))) = false) := hid (decide_eq_false (fun e => f2 (by injection e with e1 e2; injection e1)))
                          go_wp2_with fail
                          go_roundg (gk - 1)
                          case rel => exact ⟨l + 1, by omega, by go_num, by rw [HFN.out, HFD.out]; rfl, HBn⟩
                          case measure => omega
                      · skip
                        have hal := (HAj.out.below HBl.out HAj.out.lt).alloc (.cells #[.int .i64 g1, .int .i64 (g2 : Int), .int .i64 g3, .int .i64 (g4 : Int)] 72)
                        have hbl := (HBj2.out.below HBl.out HBj2.out.lt).alloc (.cells #[.int .i64 g1, .int .i64 (g2 : Int), .int .i64 g3, .int .i64 (g4 : Int)] 72)
                        have a0 := hal.cell 0 rfl
                        have a1 := hal.cell 1 rfl
                        have b0 := hbl.cell 0 rfl
                        have b1 := hbl.cell 1 rfl
                        have HBn := hid (HBl.out.alloc hzl (.cells #[.int .i64 g1, .int .i64 (g2 : Int), .int .i64 g3, .int .i64 (g4 : Int)] 72))
                        clear hal hbl
                        have HFD : Hid (decide (((g1, g2), (g3, g4)) = ((ri, rk), (si, sk))) = false) := hid (decide_eq_false (fun e => f1 (by injection e with e1 e2; injection e1)))
                        go_wp2_with fail
                        go_roundg (gk - 1)
                        case rel => exact ⟨l + 1, by omega, by go_num, by rw [HFN.out, HFD.out]; rfl, HBn⟩
                        case measure => omega
                  · obtain rfl : l = pl := by omega
                    have HFE := HFL.out
                    rw [HPL.out] at HFE
                    rw [HFE]
                    have HB7l := hid (HBAb.out.trans ((HBBj.out.trans (HBl.out.mono hwjz)).mono hAAz))
                    go_wp2_with fail
                    go_roundg (ki - 1)
                    case rel => exact ⟨p + 1, by omega, by go_num, HB7l⟩
                    case measure => omega
          · obtain rfl : p = m2 := by omega
            go_wp2_with fail
            go_roundg (ko - 1)
            case rel => exact ⟨q + 1, by have := HQ1.out; omega, by go_num, HB7r⟩
            case measure => omega
    · obtain rfl : q = n := by omega
      go_wp2
      go_ret
      exact ⟨rfl, (HB3.out.trans (HB6.out.mono HB3.out.size)).trans ((HB67.out.trans (HB.out.mono HB67.out.size)).mono (by have := HB6.out.size; have := HB3.out.size; omega))⟩

end Go.Proofs.YtabemneoobbnaaaGreatDoor
