/- Contracts of ref01.Same, ref01.SameFraction at equal fractions; ref19.SameHits at hits of the same columns. Contract of ref19.SameHits at hits of the same columns. Columns of rolled tables; all hits in order exist; law20's query. -/
import Derived.Deep.RegionHeld3
import Derived.Deep.Cut
import Derived.Test.YtikiimlmoalbcaaGreatDoorCoFah
import Derived.Test.YtikiimlmoalbcaaGreatDoorCoFbl
import Derived.Test.YtikiimlmoalbcaaGreatDoorCoFar
set_option linter.unusedVariables false
set_option linter.unusedSimpArgs false
namespace Go.Proofs.YtikiimlmoalbcaaGreatDoor
open Go.RowKit
set_option maxRecDepth 100000 in
set_option maxHeartbeats 2000000 in
theorem ref_SameI (n : Nat) (a b : Option Addr) (c d : Nat) (w : World) (hx : Fr.Rd32 w (.slice a (Fr.dig n).length c) (Fr.dig n)) (hy : Fr.Rd32 w (.slice b (Fr.dig n).length d) (Fr.dig n)) :
    Calls Tryz.prog 93 #[.agg #[.bool false, .slice a (Fr.dig n).length c], .agg #[.bool false, .slice b (Fr.dig n).length d]] w (Ret w (.bool true)) := by
  have HCM := hid (fun W (hW : Below w.heap.size w W) => Fr.ref_cmp _ _ (Fr.dig n) (Fr.dig n) W (hx.kept hW) (hy.kept hW))
  have hb0 : Below w.heap.size w ((w.alloc (.cells #[.bool false, .slice a (Fr.dig n).length c] 43)).alloc (.cells #[.bool false, .slice b (Fr.dig n).length d] 43)) := ((Below.refl w.heap.size w).alloc (Nat.le_refl _) _).alloc (by rw [World.size_alloc]; omega) _
  have hX := (BoxN.new w #[.bool false, .slice a (Fr.dig n).length c] 43).alloc (.cells #[.bool false, .slice b (Fr.dig n).length d] 43)
  have hY := BoxN.new (w.alloc (.cells #[.bool false, .slice a (Fr.dig n).length c] 43)) #[.bool false, .slice b (Fr.dig n).length d] 43
  rw [World.size_alloc] at hY
  have x0 := hX.cell 0 rfl
  have x1 := hX.cell 1 rfl
  have y0 := hY.cell 0 rfl
  have y1 := hY.cell 1 rfl
  have HB0 := hid hb0
  have HZ : Hid (Fr.cmpL (Fr.dig n) (Fr.dig n) = 0) := hid (by rw [Fr.cmpL_dig, Fr.sgn_self])
  clear hx hy hX hY hb0
  generalize Fr.dig n = L at *
  generalize Fr.cmpL L L = z at *
  go_enter Tryz.func93, Tryz.ntmps93
  go_wp2_with fail
  with_reducible refine (HCM.out _ HB0.out).mono ?_
  rintro e w2 hq
  have hr := hq.ret
  rw [HZ.out] at hr
  obtain ⟨rfl, hb2⟩ := hr
  have HB2 := hid (HB0.out.trans (hb2.mono HB0.out.size))
  clear hb2 hq x0 x1 y0 y1
  go_wp2
  go_ret
  exact ⟨rfl, HB2.out⟩
set_option maxRecDepth 100000 in
set_option maxHeartbeats 2000000 in
theorem ref_SameF (p q : Nat) (a b a' b' : Option Addr) (c d c' d' : Nat) (w : World) (hu : Fr.RdF w (.agg #[.bool false, .slice a (Fr.dig p).length c, .bool false, .slice b (Fr.dig q).length d]) false p q) (hv : Fr.RdF w (.agg #[.bool false, .slice a' (Fr.dig p).length c', .bool false, .slice b' (Fr.dig q).length d']) false p q) :
  Calls Tryz.prog 45 #[.agg #[.bool false, .slice a (Fr.dig p).length c, .bool false, .slice b (Fr.dig q).length d], .agg #[.bool false, .slice a' (Fr.dig p).length c', .bool false, .slice b' (Fr.dig q).length d']] w (Ret w (.bool true)) := by
 have key : ∀ {v : Value} {a b : Option Addr} {c d : Nat}, v = .agg #[.bool false, .slice a (Fr.dig p).length c, .bool false, .slice b (Fr.dig q).length d] → Fr.RdF w v false p q → Fr.Rd32 w (.slice a (Fr.dig p).length c) (Fr.dig p) ∧ Fr.Rd32 w (.slice b (Fr.dig q).length d) (Fr.dig q) := by
  rintro v a b c d rfl ⟨a1, c1, b1, d1, e, h1, h2⟩
  simp only [Value.agg.injEq, Array.mk.injEq, List.cons.injEq, Value.slice.injEq, true_and, and_true] at e
  obtain ⟨⟨rfl, rfl⟩, rfl, rfl⟩ := e
  exact ⟨h1, h2⟩
 obtain ⟨u1, u2⟩ := key rfl hu
 obtain ⟨v1, v2⟩ := key rfl hv
 have HP := hid (fun W (hW : Below w.heap.size w W) => ref_SameI p a a' c c' W (u1.kept hW) (v1.kept hW))
 have HQ := hid (fun W (hW : Below w.heap.size w W) => ref_SameI q b b' d d' W (u2.kept hW) (v2.kept hW))
 clear hu hv u1 u2 v1 v2 key
 generalize (Fr.dig p).length = l at *
 generalize (Fr.dig q).length = m at *
 have hb0 : Below w.heap.size w ((w.alloc (.cells #[.bool false, .slice a l c, .bool false, .slice b m d] 45)).alloc (.cells #[.bool false, .slice a' l c', .bool false, .slice b' m d'] 45)) := ((Below.refl w.heap.size w).alloc (Nat.le_refl _) _).alloc (by rw [World.size_alloc]; omega) _
 have hX := (BoxN.new w #[.bool false, .slice a l c, .bool false, .slice b m d] 45).alloc (.cells #[.bool false, .slice a' l c', .bool false, .slice b' m d'] 45)
 have hY := BoxN.new (w.alloc (.cells #[.bool false, .slice a l c, .bool false, .slice b m d] 45)) #[.bool false, .slice a' l c', .bool false, .slice b' m d'] 45
 rw [World.size_alloc] at hY
 have x0 := hX.cell 0 rfl
 have x1 := hX.cell 1 rfl
 have y0 := hY.cell 0 rfl
 have y1 := hY.cell 1 rfl
 have HX := hid hX
 have HY := hid hY
 have HB0 := hid hb0
 clear hX hY hb0
 go_enter Tryz.func45, Tryz.ntmps45
 go_wp2_with fail
 with_reducible refine (HP.out _ HB0.out).mono ?_
 rintro e w2 ⟨rfl, hb2⟩
 have hx2 := HX.out.below hb2 HX.out.lt
 have hy2 := HY.out.below hb2 HY.out.lt
 have HB2 := hid (HB0.out.trans (hb2.mono HB0.out.size))
 clear x0 x1 y0 y1 hb2
 have x2 := hx2.cell 2 rfl
 have x3 := hx2.cell 3 rfl
 have y2 := hy2.cell 2 rfl
 have y3 := hy2.cell 3 rfl
 clear hx2 hy2
 go_wp2_with fail
 with_reducible refine (HQ.out _ HB2.out).mono ?_
 rintro e w3 ⟨rfl, hb3⟩
 have HB3 := hid (HB2.out.trans (hb3.mono HB2.out.size))
 clear hb3 x2 x3 y2 y3
 go_wp2
 go_ret
 exact ⟨rfl, HB3.out⟩
end Go.Proofs.YtikiimlmoalbcaaGreatDoor

namespace Go.Proofs.YtikiimlmoalbcaaGreatDoor
open Go.RowKit
theorem neq_ref_same (a b : Int) (w : World) : (binOp .neq 51 (.agg #[.int .i64 a, .int .i64 b]) (.agg #[.int .i64 a, .int .i64 b])).run Tryz.prog w = .ok (.bool false) w := by
  simp [go_sem]
set_option maxRecDepth 100000 in
set_option maxHeartbeats 4000000 in
theorem ref_SameHits {B1 B2 : Nat} {w : World} {v1 v2 : Value} {den : Nat → Nat → Nat} {cs : List Cv} {f : Nat → Nat} {HL : List Nat} {ds1 ds2 : List Mq} (h1 : HtsRd B1 w v1 den cs f HL ds1) (h2 : HtsRd B2 w v2 den cs f HL ds2) (hl : HL.length ≤ 1048576) :
  Calls Tryz.prog 14 #[v1, v2] w (Ret w (.bool true)) := by
 have hl1 := h1.len
 have hl2 := h2.len
 have HH1 := hid h1
 have HH2 := hid h2
 obtain ⟨a1, c1, rfl, hp1, -⟩ := id h1.mem
 obtain ⟨a2, c2, rfl, hp2, -⟩ := id h2.mem
 rw [hl1] at HH1 hp1 ⊢
 rw [hl2] at HH2 hp2 ⊢
 have HL1 := hid hl1
 have HL2 := hid hl2
 clear h1 h2 hl1 hl2
 go_enter Tryz.func14, Tryz.ntmps14
 go_wp2_with fail
 go_loopg [13, 5] HL.length (fun K i u5 wr => ∃ p : Nat, i = .int .i64 (p : Int) ∧ p + K = HL.length ∧ Hid (Below w.heap.size w wr))
 case atStart => exact ⟨0, rfl, by omega, hid (Below.refl _ _)⟩
 case round =>
  obtain ⟨p, rfl, hp0, HB⟩ := hrel
  by_cases hp : 0 < gk
  ·have hpl : p < HL.length := by omega
   have hpi : (p : Int) < (HL.length : Int) := by omega
   have hr1 := HH1.out.later HB.out
   have hr2 := HH2.out.later HB.out
   have hm1 : ds1.getD p default ∈ ds1 := by rw [← List.getElem_eq_getD (h := by rw [HL1.out]; exact hpl)]; exact List.getElem_mem _
   have hm2 : ds2.getD p default ∈ ds2 := by rw [← List.getElem_eq_getD (h := by rw [HL2.out]; exact hpl)]; exact List.getElem_mem _
   have hi1 := hr1.of _ hm1
   have hi2 := hr2.of _ hm2
   have hc : colQ cs (ds1.getD p default) = colQ cs (ds2.getD p default) := by
    have e1 : colQ cs (ds1.getD p default) = HL.getD p 0 := by rw [← hr1.cols]; simp [List.getD, show p < ds1.length by rw [HL1.out]; exact hpl]
    have e2 : colQ cs (ds2.getD p default) = HL.getD p 0 := by
     conv => rhs; rw [← hr2.cols]
     simp [List.getD, show p < ds2.length by rw [HL2.out]; exact hpl]
    rw [e1, e2]
   rw [hc] at hi1
   have hd1 := hr1.rd _ hm1
   have hd2 := hr2.rd _ hm2
   obtain ⟨b1, o1, cc1, e1, -, hcell1⟩ := hit_at hr1.mem (p := p) (by rw [HL1.out]; exact hpl)
   obtain ⟨b2, o2, cc2, e2, -, hcell2⟩ := hit_at hr2.mem (p := p) (by rw [HL2.out]; exact hpl)
   obtain ⟨rfl, -, rfl⟩ := Value.slice.inj e1
   obtain ⟨rfl, -, rfl⟩ := Value.slice.inj e2
   generalize colQ cs (ds2.getD p default) = c at *
   generalize (ds1.getD p default).1 = y1 at *
   generalize (ds2.getD p default).1 = y2 at *
   obtain ⟨ta, ca, ⟨na1, nc1⟩, ⟨da1, dc1⟩, P, Q⟩ := y1
   obtain ⟨ta2, ca2, ⟨na2, nc2⟩, ⟨da2, dc2⟩, P2, Q2⟩ := y2
   have et : ta = ta2 := hi1.ta.trans hi2.ta.symm
   have ec : ca = ca2 := hi1.ca.trans hi2.ca.symm
   have ep : P = P2 := hi1.p.trans hi2.p.symm
   have eq : Q = Q2 := hi1.q.trans hi2.q.symm
   subst et ec ep eq
   clear hi1 hi2 hc hm1 hm2 e1 e2 hr1 hr2
   have HG := hid (fun W (hW : Below wr.heap.size wr W) => (by
    have k := fun j (hj : j < 6) => (hW.cell (p := ⟨b1, o1 + p * 6 + j, none⟩) (World.block_lt_of_cell? _ _ (hcell1 j hj))).trans (hcell1 j hj)
    have k' := fun j (hj : j < 6) => (hW.cell (p := ⟨b2, o2 + p * 6 + j, none⟩) (World.block_lt_of_cell? _ _ (hcell2 j hj))).trans (hcell2 j hj)
    exact ⟨k 0 (by omega), k 1 (by omega), k 2 (by omega), k 3 (by omega), k 4 (by omega), k 5 (by omega), k' 0 (by omega), k' 1 (by omega), k' 2 (by omega), k' 3 (by omega), k' 4 (by omega), k' 5 (by omega)⟩ : W.cell? ⟨b1, o1 + p * 6, none⟩ = some (.int .i64 ta) ∧ W.cell? ⟨b1, o1 + p * 6 + 1, none⟩ = some (.int .i64 ca) ∧ W.cell? ⟨b1, o1 + p * 6 + 2, none⟩ = some (.bool false) ∧ W.cell? ⟨b1, o1 + p * 6 + 3, none⟩ = some (.slice na1 (Fr.dig P).length nc1) ∧ W.cell? ⟨b1, o1 + p * 6 + 4, none⟩ = some (.bool false) ∧ W.cell? ⟨b1, o1 + p * 6 + 5, none⟩ = some (.slice da1 (Fr.dig Q).length dc1) ∧ W.cell? ⟨b2, o2 + p * 6, none⟩ = some (.int .i64 ta) ∧ W.cell? ⟨b2, o2 + p * 6 + 1, none⟩ = some (.int .i64 ca) ∧ W.cell? ⟨b2, o2 + p * 6 + 2, none⟩ = some (.bool false) ∧ W.cell? ⟨b2, o2 + p * 6 + 3, none⟩ = some (.slice na2 (Fr.dig P).length nc2) ∧ W.cell? ⟨b2, o2 + p * 6 + 4, none⟩ = some (.bool false) ∧ W.cell? ⟨b2, o2 + p * 6 + 5, none⟩ = some (.slice da2 (Fr.dig Q).length dc2)))
   have HSF := hid (fun W (hW : Below wr.heap.size wr W) => ref_SameF P Q na1 da1 na2 da2 nc1 dc1 nc2 dc2 W (hd1.kept hW) (hd2.kept hW))
   have hne := neq_ref_same ta ca
   have HD := hid ((Below.refl wr.heap.size wr).drew)
   clear hcell1 hcell2 hd1 hd2
   go_upto_region 6 with fail
   go_region_held3 (fun W => W.cell? ⟨b1, o1 + p * 6, none⟩ = some (.int .i64 ta) ∧ W.cell? ⟨b1, o1 + p * 6 + 1, none⟩ = some (.int .i64 ca) ∧ W.cell? ⟨b1, o1 + p * 6 + 2, none⟩ = some (.bool false) ∧ W.cell? ⟨b1, o1 + p * 6 + 3, none⟩ = some (.slice na1 (Fr.dig P).length nc1) ∧ W.cell? ⟨b1, o1 + p * 6 + 4, none⟩ = some (.bool false) ∧ W.cell? ⟨b1, o1 + p * 6 + 5, none⟩ = some (.slice da1 (Fr.dig Q).length dc1) ∧ W.cell? ⟨b2, o2 + p * 6, none⟩ = some (.int .i64 ta) ∧ W.cell? ⟨b2, o2 + p * 6 + 1, none⟩ = some (.int .i64 ca) ∧ W.cell? ⟨b2, o2 + p * 6 + 2, none⟩ = some (.bool false) ∧ W.cell? ⟨b2, o2 + p * 6 + 3, none⟩ = some (.slice na2 (Fr.dig P).length nc2) ∧ W.cell? ⟨b2, o2 + p * 6 + 4, none⟩ = some (.bool false) ∧ W.cell? ⟨b2, o2 + p * 6 + 5, none⟩ = some (.slice da2 (Fr.dig Q).length dc2))
    (first | exact HG.out _ HD.out | exact HG.out _ HC.out | go_keep)
    ((go_at_call 45; go_must ((with_reducible refine (HSF.out _ HD.out).mono ?_); rintro e w5 ⟨rfl, hb5⟩; have HC := hid (HD.out.trans (hb5.mono HD.out.size)); clear hb5)))
   all_goals
    go_wp2_with fail
    go_roundg (gk - 1)
    case rel => exact ⟨p + 1, by go_num, by omega, hid (HB.out.trans (HC.out.mono HB.out.size))⟩
    case measure => omega
  ·obtain rfl : gk = 0 := by omega
   obtain rfl : p = HL.length := by omega
   go_wp2
   go_ret
   exact ⟨rfl, HB.out⟩
end Go.Proofs.YtikiimlmoalbcaaGreatDoor

namespace Go.Proofs.YtikiimlmoalbcaaGreatDoor
open Go.RowKit
theorem rlt_iffB (a b : Int × Int) : rlt a b = true ↔ a.1 < b.1 ∨ (a.1 = b.1 ∧ a.2 < b.2) := by
  unfold rlt
  simp
theorem refs_ascB {ts : List Ta} (h : ts.Pairwise (fun a b => a.id < b.id)) : (refsL ts).Pairwise (fun a b => rlt (a.1, (a.2 : Int)) (b.1, (b.2 : Int)) = true) := by
  unfold refsL
  rw [List.pairwise_flatMap]
  refine ⟨fun t _ => ?_, h.imp fun {a b} hab x hx y hy => ?_⟩
  · unfold refs1
    refine List.pairwise_map.2 (List.pairwise_lt_range.imp fun h => ?_)
    rw [rlt_iffB]
    right
    exact ⟨rfl, by simp only; omega⟩
  · obtain ⟨i, -, rfl⟩ := List.mem_map.1 hx
    obtain ⟨j, -, rfl⟩ := List.mem_map.1 hy
    rw [rlt_iffB]
    exact .inl hab
theorem cvsL_refsB (ts : List Ta) : (cvsL ts).map (·.1) = refsL ts := by
  unfold cvsL cvsK
  rw [List.map_map]
  apply List.ext_getElem
  · simp
  · intro i h1 h2
    simp [cvOf, List.getD, h2]
theorem cvsL_lenB (ts : List Ta) : (cvsL ts).length = (refsL ts).length := by simp [cvsL, cvsK]
theorem refs_idB {ts : List Ta} {r : Int × Nat} (h : r ∈ refsL ts) : ∃ t ∈ ts, r.1 = t.id := by
  obtain ⟨t, ht, hr⟩ := List.mem_flatMap.1 h
  obtain ⟨k, -, rfl⟩ := List.mem_map.1 hr
  exact ⟨t, ht, rfl⟩
theorem cvsL_okB {ts : List Ta} (h : ListV ts) : CvsOk (cvsL ts) := by
  refine ⟨?_, fun c hc => ?_, fun c hc => ?_, cvs_len h, ?_⟩
  · have h1 := refs_ascB h.2.2
    rw [← cvsL_refsB, List.pairwise_map] at h1
    exact h1
  · have h1 : c.1 ∈ refsL ts := by rw [← cvsL_refsB]; exact List.mem_map_of_mem hc
    obtain ⟨t, ht, e⟩ := refs_idB h1
    have := h.2.1 t ht
    rw [e]
    exact ⟨this.1, this.2.1⟩
  · obtain ⟨q, hq, rfl⟩ := List.mem_map.1 hc
    exact setOfL_asc _
  · rw [cvsL_lenB]
    have := refs_le (ts := ts) fun t ht => (h.2.1 t ht).2.2.2.1
    have := h.1
    omega
theorem refs_leB {ts : List Ta} {c : Nat} (h : ∀ t ∈ ts, t.cols.length ≤ c) : (refsL ts).length ≤ ts.length * c := by
  induction ts with
  | nil => simp [refsL]
  | cons t ts ih =>
    have e1 : refsL (t :: ts) = refs1 t ++ refsL ts := rfl
    rw [e1, List.length_append, refs1_len, List.length_cons, Nat.succ_mul]
    have h1 := h t (by simp)
    have h2 := ih fun x hx => h x (by simp [hx])
    omega
theorem rolled_ok {ts : List Ta} (h : ListOk 4 4 7 ts) : CvsOk (cvsL ts) ∧ (setOfL (allOf (cvsL ts))).length ≤ 65536 ∧ (cvsL ts).length ≤ 16 := by
  have hv : ListV ts := listV_of h (by omega) (by omega) (by omega)
  refine ⟨cvsL_okB hv, ?_⟩
  have h1 := refs_leB (c := 4) fun t ht => (h.2.1 t ht).1.2.1
  have h2 := h.1
  have h3 := all_len (m := 4096) (cvs_len hv)
  have h4 := setOfL_len (allOf (cvsL ts))
  rw [cvsL_lenB] at h3 ⊢
  have h5 : (refsL ts).length * 4096 ≤ 16 * 4096 := Nat.mul_le_mul_right _ (by omega)
  omega
theorem hits_exist {den : Nat → Nat → Nat} {cs : List Cv} {q : List ByteArray} (hs : Sco q.length den) (hq : q.Nodup) : ∃ S, HitsOk den cs q S := by
  let T := {c : Nat // 0 < comC cs q c}
  let dn : Nat → Nat := fun c => den (comC cs q c) (sizeC cs c)
  have hd : ∀ x : T, 0 < dn x.1 := fun x => hs.pos _ _ x.2 (com_le_q x.1) (com_le_size hq x.1)
  let le : T → T → Bool := fun a b => decide (comC cs q b.1 * dn a.1 ≤ comC cs q a.1 * dn b.1 ∧ (comC cs q b.1 * dn a.1 = comC cs q a.1 * dn b.1 → a.1 ≤ b.1))
  have hle : ∀ a b : T, le a b = true ↔ (comC cs q b.1 * dn a.1 ≤ comC cs q a.1 * dn b.1 ∧ (comC cs q b.1 * dn a.1 = comC cs q a.1 * dn b.1 → a.1 ≤ b.1)) := fun a b => decide_eq_true_iff
  have htr : ∀ a b c : T, le a b = true → le b c = true → le a c = true := fun a b c h1 h2 => by
    rw [hle] at *
    have s1 : comC cs q c.1 * dn a.1 ≤ comC cs q a.1 * dn c.1 := cross_ge_ge (hd b) h1.1 h2.1
    refine ⟨s1, fun e => ?_⟩
    have s2 : comC cs q a.1 * dn b.1 ≤ comC cs q b.1 * dn a.1 := cross_ge_ge (hd c) h2.1 (Nat.le_of_eq e.symm)
    have s3 : comC cs q b.1 * dn c.1 ≤ comC cs q c.1 * dn b.1 := cross_ge_ge (hd a) (Nat.le_of_eq e.symm) h1.1
    have e1 := h1.2 (Nat.le_antisymm h1.1 s2)
    have e2 := h2.2 (Nat.le_antisymm h2.1 s3)
    omega
  have hto : ∀ a b : T, (le a b || le b a) = true := fun a b => by
    rw [Bool.or_eq_true, hle, hle]
    omega
  let F : List Nat := (List.range cs.length).filter fun c => decide (0 < comC cs q c)
  have hF : ∀ c ∈ F, 0 < comC cs q c := fun c hc => of_decide_eq_true (List.mem_filter.1 hc).2
  let L : List T := F.pmap (fun c h => ⟨c, h⟩) hF
  have hL : L.map (·.1) = F := by
    show (F.pmap (fun c h => (⟨c, h⟩ : T)) hF).map (·.1) = F
    rw [List.map_pmap]
    simp
  have hp := List.mergeSort_perm L le
  have hsrt := List.pairwise_mergeSort (le := le) htr hto L
  have hpm : ((L.mergeSort le).map (·.1)).Perm F := by rw [← hL]; exact hp.map _
  have hnd : ((L.mergeSort le).map (·.1)).Nodup := hpm.nodup_iff.2 (List.nodup_range.sublist List.filter_sublist)
  refine ⟨(L.mergeSort le).map (·.1), ?_, fun c => ?_⟩
  · have hn' : (L.mergeSort le).Pairwise (fun a b => a.1 ≠ b.1) := by
      unfold List.Nodup at hnd
      rwa [List.pairwise_map] at hnd
    rw [List.pairwise_map]
    refine (hsrt.and hn').imp fun {a b} h => ?_
    obtain ⟨h1, h2⟩ := h
    rw [hle] at h1
    unfold befH
    rcases Nat.lt_or_ge (comC cs q b.1 * dn a.1) (comC cs q a.1 * dn b.1) with h3 | h3
    · exact .inl h3
    · have e := Nat.le_antisymm h1.1 h3
      have h4 := h1.2 e
      exact .inr ⟨e, by omega⟩
  · rw [hpm.mem_iff, List.mem_filter, List.mem_range, decide_eq_true_iff]
def Q20P (w : World) (g : Nat) (e : Ending) (w' : World) : Prop :=
  ∃ (a : Option Addr) (c : Nat) (q : List ByteArray), e = .returned (.slice a q.length c) ∧ w'.ownsRow w.heap.size 9 1 (.slice a q.length c) q.length (q.map Value.string) ∧ Asc q ∧ q.length ≤ 1048576 ∧ DiceAt 89 w' g ∧ Roll w.heap.size g w w'
set_option maxRecDepth 100000 in
set_option maxHeartbeats 4000000 in
theorem law20_query (g : Nat) (ev vv lv : Value) (ix : Ix) (S : Nat → Prop) (w : World) (hd : DiceAt 89 w g) (hx : RdIx w S ev vv lv ix) (hS : ∀ k, S k → k < w.heap.size ∧ k ≠ g) (hl : ix.vals.length ≤ 65536) :
  Calls Tryz.prog 12 #[.pointer (some ⟨g, 0, none⟩), .agg #[ev, vv, lv]] w (Q20P w g) := by
 obtain ⟨i0, hi, hz0, hz1, hz2⟩ := info_parts info_str
 have hgl := hd.lt
 obtain ⟨ea, ec, rfl, -⟩ := hx.ents
 obtain ⟨lf, ⟨la, lc, rfl, -⟩, -⟩ := id hx.lists
 obtain ⟨va, vc, rfl, hvc, hvm, hvr⟩ := hx.vals
 have HVR := hid (fun i (hi : i < ix.vals.length) => (by
  obtain ⟨b, o, e, hb, hc⟩ := hvr (by omega)
  exact ⟨b, o, e, hS b hb, by have h := hc i hi 0 (by omega); simp only [Nat.mul_one, Nat.add_zero] at h; exact h⟩ : ∃ b o, va = some ⟨b, o, none⟩ ∧ (b < w.heap.size ∧ b ≠ g) ∧ w.cell? ⟨b, o + i, none⟩ = some (.string (ix.vals.getD i ⟨#[]⟩))))
 have HD := hid hd
 clear hx hvr
 generalize ix.vals.length = n at *
 have HB0 := hid ((Below.refl w.heap.size w).alloc (Nat.le_refl _) (.cells #[.slice ea ix.ents.length ec, .slice va n vc, .slice la ix.lists.length lc] 30))
 have HX0 := hid (BoxN.new w #[.slice ea ix.ents.length ec, .slice va n vc, .slice la ix.lists.length lc] 30)
 have HD0 := hid (HD.out.alloc (.cells #[.slice ea ix.ents.length ec, .slice va n vc, .slice la ix.lists.length lc] 30))
 clear hS hd
 unfold maxLen at hvm
 go_enter Tryz.func12, Tryz.ntmps12
 go_wp2_with fail
 with_reducible refine (dice_Texts g 3 _ HD0.out (by omega) (by omega)).mono ?_
 rintro e w1 ⟨a1, c1, xs, rfl, hown1, hxl, -, hd1, hr1⟩
 have HX1 := hid (show BoxN w1 w.heap.size 30 #[.slice ea ix.ents.length ec, .slice va n vc, .slice la ix.lists.length lc] from (hr1.block _ HX0.out.lt (by omega)).trans HX0.out)
 have x1 := HX1.out.cell 1 rfl
 have HO1 := hid (own_base hown1 (show w.heap.size ≤ (w.alloc (.cells #[.slice ea ix.ents.length ec, .slice va n vc, .slice la ix.lists.length lc] 30)).heap.size by rw [World.size_alloc]; omega))
 have HD1 := hid hd1
 have HR1 := hid ((Roll.of_below HB0.out g).trans (hr1.mono (by rw [World.size_alloc]; omega)))
 have hz1' := HR1.out.size
 clear hown1 hd1 hr1
 go_wp2_with fail
 go_loopg [13, 5, 7] n (fun K i o u7 wr => ∃ (p : Nat) (ys : List ByteArray) (a : Option Addr) (c : Nat), i = .int .i64 (p : Int) ∧ p + K = n ∧ o = .slice a ys.length c ∧ ys.length ≤ 3 + p ∧ Hid (wr.ownsRow w.heap.size 9 1 (.slice a ys.length c) ys.length (ys.map Value.string)) ∧ Hid (DiceAt 89 wr g) ∧ Hid (Roll w.heap.size g w wr))
 case atStart => exact ⟨0, xs, a1, c1, rfl, by omega, rfl, by omega, HO1, HD1, HR1⟩
 case round =>
  obtain ⟨p, ys, a, c, rfl, hp0, rfl, hyl, HO, HDD, HR⟩ := hrel
  have hzr := HR.out.size
  clear x1
  by_cases hp : 0 < gk
  ·have hpl : p < n := by omega
   have hpi : (p : Int) < (n : Int) := by omega
   obtain ⟨b, o, rfl, hb, k0⟩ := HVR.out p hpl
   have k0 := (HR.out.cell (p := ⟨b, o + p, none⟩) hb.1 hb.2).trans k0
   have HPK := hid (dice_Pick g 2 wr HDD.out (by omega) (by omega))
   generalize ix.vals.getD p ⟨#[]⟩ = s at *
   go_wp2_with fail
   with_reducible refine HPK.out.mono ?_
   rintro e w3 ⟨m, rfl, hm, hd3, hr3, hs3⟩
   have HD3 := hid hd3
   have HR3 := hid (HR.out.trans (hr3.mono hzr))
   have hown3 := own_roll HO.out hr3 (Nat.le_refl _) (by omega)
   have HO3 := hid hown3
   have hz3 := HR3.out.size
   clear hd3 hr3 hown3 hs3 k0
   by_cases hm0 : m = 0
   ·subst hm0
    obtain ⟨yl, hylen⟩ : ∃ yl, yl = ys.length := ⟨_, rfl⟩
    rw [← hylen] at HO3 hyl ⊢
    have HYL := hid hylen
    clear hylen
    go_wp2_with (at_builtin; refine wpList_append_form _ rfl (.tmp 20) (.tmp 22) 27 27 rfl w.heap.size 9 9 i0 (.string ⟨#[]⟩) 1 16 Tryz.underlying27 Tryz.underlying27 hi hz0 hz1 hz2 rfl (by decide) (.slice a yl c) yl (ys.map Value.string) rfl (HO3.out.alloc _) (some ⟨_, 0, none⟩) 1 1 [.string s] rfl rfl (fun _ => ⟨_, rfl, cell_one_new _ _ _⟩) (by intro u hu; simp at hu; subst hu; rfl) (by omega) (by unfold maxLen; omega) (by omega) (by simp; omega) ?_; intro g7 cap7 w7 hown7 hg7 hat7 hlt7; have HOWN7 := hid hown7; have HR7 := hid ((HR3.out.alloc hz3 (.cells #[.string s] 9)).grown hg7 (by rw [World.size_alloc]; omega) (fun k hk => (HO3.out.lt k hk).1)); have HD7 := hid (HD3.out.keep (w' := w7) (fun k hk => by
      have hgz := HD3.out.lt
      rw [hg7.block k (by rw [World.size_alloc]; omega) (fun e => by have := (HO3.out.lt k e.symm).1; omega), Below.heap_alloc _ _ _ (by omega)])); clear hown7 hg7 hat7 hlt7)
    go_wp2
    go_roundg (gk - 1)
    case rel => exact ⟨p + 1, ys ++ [s], _, cap7, by go_num, by omega, by rw [List.length_append, ← HYL.out]; rfl, by rw [List.length_append, ← HYL.out, List.length_singleton]; omega, hid (by rw [List.length_append, ← HYL.out, List.map_append]; exact HOWN7.out), HD7, HR7⟩
    case measure => omega
   ·have hmi : ((m : Int) == 0) = false := by rw [beq_eq_false_iff_ne]; omega
    have hmi2 : ¬ (m : Int) = 0 := by omega
    clear hm0
    go_wp2_with fail
    go_roundg (gk - 1)
    case rel => exact ⟨p + 1, ys, a, c, by go_num, by omega, rfl, by omega, HO3, HD3, HR3⟩
    case measure => omega
  ·obtain rfl : gk = 0 := by omega
   obtain rfl : p = n := by omega
   have HSET := hid (ref_Set _ ys wr.heap.size wr (rdS_of_own HO.out) (Nat.le_refl _) (by omega))
   have hsl := setOfL_len ys
   have HASC := hid (setOfL_asc ys)
   generalize setOfL ys = zs at *
   go_wp2_with fail
   with_reducible refine HSET.out.mono ?_
   rintro e w4 ⟨a4, c4, rfl, hown4, hb4⟩
   have HO4 := hid (own_base hown4 hzr)
   have HR4 := hid (HR.out.trans ((Roll.of_below hb4 g).mono hzr))
   have HD4 := hid (HDD.out.below hb4 HDD.out.lt)
   clear hown4 hb4
   obtain ⟨zl, hzl⟩ : ∃ zl, zl = zs.length := ⟨_, rfl⟩
   have HZL : Hid (Q20P w g (.returned (.slice a4 zl c4)) w4) := hid ⟨a4, c4, zs, by rw [hzl], HO4.out, HASC.out, by omega, HD4.out, HR4.out⟩
   rw [← hzl]
   clear hzl
   go_wp2
   go_ret
   exact HZL.out
end Go.Proofs.YtikiimlmoalbcaaGreatDoor
