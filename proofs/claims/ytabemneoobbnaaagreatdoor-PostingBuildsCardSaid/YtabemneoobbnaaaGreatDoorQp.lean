/- Contract of posting.Merge at columns that are different. Contract of posting.Merge at columns that are different. -/
import Derived.Test.YtabemneoobbnaaaGreatDoorQn
import Derived.Test.YtabemneoobbnaaaGreatDoorQd
import Derived.Test.YtabemneoobbnaaaGreatDoorQh
namespace Go.Proofs.YtabemneoobbnaaaGreatDoor
open Go.RowKit

theorem step_append_zero {P : Program} {w : World} {ops : Array Oper} {o : Oper} {a : Act} {K : Act → World → Prop} {Q : Exit → Act → World → Prop} {E : Prop} (hgd : o.guard = none) (s x : Operand) (t tx : TypeId)
    (ho : o.op = .call { callee := .builtin .append, args := #[s, x], argTypes := #[t, tx] }) (e e' : TypeId) (i : TypeInfo) (ht : P.underlying t = some (.slice e)) (hk : P.underlying tx = some (.slice e')) (hi : P.info? e = some i)
    (base : Option Addr) (n cap : Nat) (hs : a.eval s = .slice base n cap) (hn : n ≤ cap) (ao : Option Addr) (m c : Nat) (hm : m = 0) (hx : a.eval x = .slice ao m c)
    (h : K (a.put o.dst (.slice base n cap)) w) : if Region.wanted o (yielded ops a.tmps) = true then Oper.wp P o a w K Q else E := by
  subst hm
  have hw : Region.wanted o (yielded ops a.tmps) = true := by simp [Region.wanted, hgd]
  rw [if_pos hw]
  have hr : (Builtin.append_ #[t, tx] o.type #[.slice base n cap, .slice ao 0 c]).run P w = .ok (.slice base n cap) w := by
    rw [append_types w ht hk]; exact run_append_empty w ht hi base n cap c hn ao
  unfold Oper.wp execOp
  simp only [ho, resolve, invoke, builtin, Sem.run_bind, Sem.run_pure, Result.andThen_ok, List.map_toArray, List.map_cons, List.map_nil, hs, hx, hr]
  exact h

theorem flatK_app (k : Nat) (f g : Nat → Nat → Value) (n : Nat) : ∀ m, flatK k n f ++ flatK k m g = flatK k (n + m) (fun i j => if i < n then f i j else g (i - n) j)
  | 0 => by
    rw [show flatK k 0 g = [] from rfl, List.append_nil, Nat.add_zero]
    exact flatK_congr fun i hi j _ => by rw [if_pos hi]
  | m + 1 => by
    rw [flatK_succ, ← List.append_assoc, flatK_app k f g n m, ← Nat.add_assoc, flatK_succ]
    congr 1
    apply List.map_congr_left
    intro j _
    rw [if_neg (by omega), show n + m - n = m by omega]
/-- two rows of columns that are one behind the other -/
theorem merged {WA W' : World} {e : TypeId} {v : Value} {cs ds : List Cv} {vv vv2 : Nat → Value} {n m g cap : Nat} (hn : cs.length = n) (hm : ds.length = m)
    (hx : Nest 3 WA 0 e v cs.length (cvF cs vv) (fun i w S => InS w S (vv i) (cs.getD i Cv.z).2)) (hy : ∀ q, q < m → InS WA (Own WA 0 v) (vv2 q) (ds.getD q Cv.z).2)
    (hown : W'.ownsRow 0 e 3 (.slice (some ⟨g, 0, none⟩) (n + m) cap) (n + m) (flatK 3 n (cvF cs vv) ++ flatK 3 m (cvF ds vv2))) (hg : WA.grownBy W' v.ownBlock) (hat : v.ownBlock = some g ∨ g = WA.heap.size) :
    CvSt W' 0 e (.slice (some ⟨g, 0, none⟩) (n + m) cap) (cs ++ ds) := by
  subst hn hm
  have hc : ∀ p : Addr, Own WA 0 v p.block → W'.cell? p = WA.cell? p := fun p hp => World.cell?_of_block (hg.block _ hp.2.1 (fun e => hp.2.2 e.symm))
  have hs : ∀ b, Own WA 0 v b → Own W' 0 (.slice (some ⟨g, 0, none⟩) (cs.length + ds.length) cap) b := fun b hb => ⟨Nat.zero_le _, Nat.lt_of_lt_of_le hb.2.1 hg.size, fun e => by
    have e1 : g = b := by simpa [Value.ownBlock] using e
    subst e1
    rcases hat with h1 | h1
    · exact hb.2.2 h1
    · have := hb.2.1; omega⟩
  refine ⟨fun q => if q < cs.length then vv q else vv2 (q - cs.length), ?_, Nat.zero_le _, fun i hi => ?_⟩
  · rw [List.length_append]
    rw [flatK_app] at hown
    rw [show flatK 3 (cs.length + ds.length) (cvF (cs ++ ds) fun q => if q < cs.length then vv q else vv2 (q - cs.length)) = flatK 3 (cs.length + ds.length) (fun i j => if i < cs.length then cvF cs vv i j else cvF ds vv2 (i - cs.length) j) from flatK_congr fun i hi j hj => by
      unfold cvF
      by_cases h : i < cs.length
      · simp [h, List.getD, List.getElem?_append_left h]
      · simp [h, List.getD, List.getElem?_append_right (Nat.le_of_not_lt h)]]
    exact hown
  · rw [List.length_append] at hi
    dsimp only
    by_cases h : i < cs.length
    · rw [if_pos h, show (cs ++ ds).getD i Cv.z = cs.getD i Cv.z by simp [List.getD, List.getElem?_append_left h]]
      exact InK.more (InK.keep (hx.kids i h) hc) hs
    · rw [if_neg h, show (cs ++ ds).getD i Cv.z = ds.getD (i - cs.length) Cv.z by simp [List.getD, List.getElem?_append_right (Nat.le_of_not_lt h)]]
      exact InK.more (InK.keep (hy _ (by omega)) hc) hs

/-! ### ContainsFunc at Merge's own function -/
set_option maxHeartbeats 1000000 in
theorem merge_one (ds : List Cv) (e1 : Int) (e2 : Nat) (e3 : Int) (yb : Nat) (B : Nat) (ev vv lv : Value) (w : World) (hx : RdIx w (· < B) ev vv lv (indexOf ds)) (hB : B ≤ w.heap.size) (hb : BoxN w yb 40 #[ev, vv, lv]) (hm : ds.length ≤ 65536) (hr : ∀ c ∈ ds, c.1 ≠ (e1, e2)) :
    Calls Tryz.prog 75 #[.agg #[.int .i64 e1, .int .i64 (e2 : Int), .int .i64 e3], .pointer (some ⟨yb, 0, none⟩)] w (Ret w (.bool false)) := by
  have HCO := hid (fun W (hW : Below w.heap.size w W) => posting_Column (indexOf ds) ev vv lv e1 (e2 : Int) B W (hx.keep fun p (hp : p.block < B) => hW.cell (p := p) (by omega)) (by have := hW.size; omega) (by rw [show (indexOf ds).ents.length = ds.length from ents_len ds]; omega))
  have HF : Hid (findR (refsE (indexOf ds).ents) (e1, (e2 : Int)) 0 = -1) := hid (find_no (r := (e1, e2)) hr)
  rw [HF.out] at HCO
  obtain ⟨ea, ec, rfl, -⟩ := hx.ents
  obtain ⟨va, vc, rfl, -⟩ := hx.vals
  obtain ⟨lf, ⟨la, lc, rfl, -⟩, -⟩ := hx.lists
  clear hx HF
  have HB1 : Hid (Below w.heap.size w (w.alloc (.cells #[.int .i64 e1, .int .i64 (e2 : Int), .int .i64 e3] 49))) := hid ((Below.refl _ _).alloc (Nat.le_refl _) _)
  have hy := hb.alloc (.cells #[.int .i64 e1, .int .i64 (e2 : Int), .int .i64 e3] 49)
  have y0 := hy.cell 0 rfl
  have y1 := hy.cell 1 rfl
  have y2 := hy.cell 2 rfl
  clear hy hb
  go_enter Tryz.func75, Tryz.ntmps75
  go_wp2_with fail
  with_reducible refine (HCO.out _ HB1.out).mono ?_
  rintro e w1 ⟨rfl, hb1⟩
  have HB2 := hid (HB1.out.trans (hb1.mono HB1.out.size))
  clear hb1 y0 y1 y2
  go_wp2
  go_ret
  exact ⟨rfl, HB2.out⟩

set_option maxHeartbeats 1000000 in
theorem contains_none (cs ds : List Cv) (xv : Value) (yb : Nat) (B : Nat) (ev vv lv : Value) (w : World) (hxv : InK 3 w (· < B) xv (entsOf cs).length (entF (entsOf cs))) (hx : RdIx w (· < B) ev vv lv (indexOf ds)) (hB : B ≤ w.heap.size) (hb : BoxN w yb 40 #[ev, vv, lv]) (hm : ds.length ≤ 65536) (hmc : cs.length ≤ 65536) (hr : ∀ c ∈ cs, ∀ d ∈ ds, d.1 ≠ c.1) :
    Calls Tryz.prog 74 #[xv, .func (.func 75) #[] #[.pointer (some ⟨yb, 0, none⟩)]] w (Ret w (.bool false)) := by
  have hI : Calls Tryz.prog 53 #[xv, .func (.func 75) #[] #[.pointer (some ⟨yb, 0, none⟩)]] w (Ret w (.int .i64 (-1))) := by
    have hbl := hb.lt
    have HM1 := hid (fun q (hq : q < cs.length) W (hW : Below w.heap.size w W) => (show Calls Tryz.prog 75 #[.agg #[.int .i64 (cs.getD q Cv.z).1.1, .int .i64 ((cs.getD q Cv.z).1.2 : Int), .int .i64 ((cs.getD q Cv.z).2.length : Int)], .pointer (some ⟨yb, 0, none⟩)] W (Ret W (.bool false)) from
      merge_one ds (cs.getD q Cv.z).1.1 (cs.getD q Cv.z).1.2 _ yb B ev vv lv W (hx.keep fun p (hp : p.block < B) => hW.cell (p := p) (by omega)) (by have := hW.size; omega) (BoxN.below hb hW hbl) hm (fun d hd => hr _ (getD_mem hq Cv.z) d hd)))
    have HEN := hid (fun q (hq : q < cs.length) => (show (entsOf cs).getD q ((0, 0), 0) = ((cs.getD q Cv.z).1, (cs.getD q Cv.z).2.length) by simp [entsOf, List.getD, hq]))
    obtain ⟨a, k, rfl, hk, hmx, hrd⟩ := hxv
    rw [ents_len] at hk hrd ⊢
    have HRD := hid hrd
    clear hb hx hrd hr
    generalize hxl : cs.length = L at *
    clear hxl
    unfold maxLen at hmx
    go_enter Tryz.func53, Tryz.ntmps53
    go_wp2_with fail
    go_loopg [8] L (fun N i wr => ∃ q : Nat, q + N = L ∧ i = .int .i64 (q : Int) ∧ Hid (Below w.heap.size w wr))
    case atStart => exact ⟨0, by omega, rfl, hid (Below.refl _ _)⟩
    case round =>
      obtain ⟨q, hq, rfl, HB⟩ := hrel
      by_cases hp : 0 < gk
      · obtain ⟨b, o, rfl, hb, hcell⟩ := HRD.out (by omega)
        have hbw : b < w.heap.size := by have : b < B := hb; omega
        have e0 := HEN.out q (by omega)
        have k0 : wr.cell? ⟨b, o + q * 3, none⟩ = some (.int .i64 (cs.getD q Cv.z).1.1) := (HB.out.cell (p := ⟨b, o + q * 3, none⟩) hbw).trans ((hcell q (by omega) 0 (by omega)).trans (by simp only [entF, e0]; rfl))
        have k1 : wr.cell? ⟨b, o + q * 3 + 1, none⟩ = some (.int .i64 ((cs.getD q Cv.z).1.2 : Int)) := (HB.out.cell (p := ⟨b, o + q * 3 + 1, none⟩) hbw).trans ((hcell q (by omega) 1 (by omega)).trans (by simp only [entF, e0]; rfl))
        have k2 : wr.cell? ⟨b, o + q * 3 + 2, none⟩ = some (.int .i64 ((cs.getD q Cv.z).2.length : Int)) := (HB.out.cell (p := ⟨b, o + q * 3 + 2, none⟩) hbw).trans ((hcell q (by omega) 2 (by omega)).trans (by simp only [entF, e0]; rfl))
        have HVQ := hid (HM1.out q (by omega) wr HB.out)
        clear hcell e0
        generalize (cs.getD q Cv.z).2.length = l at *
        generalize (cs.getD q Cv.z).1 = r at *
        obtain ⟨r1, r2⟩ := r
        simp only at k0 k1 HVQ
        go_wp2_with fail
        with_reducible refine HVQ.out.mono ?_
        rintro e w6 ⟨rfl, hb6⟩
        have HB6 := hid (HB.out.trans (hb6.mono HB.out.size))
        clear hb6 k0 k1 k2
        go_wp2_with fail
        go_roundg (gk - 1)
        case rel => exact ⟨q + 1, by omega, by go_num, hid HB6.out⟩
        case measure => omega
      · obtain rfl : q = L := by omega
        go_wp2
        go_ret
        exact ⟨rfl, HB.out⟩
  have HI := hid hI
  obtain ⟨a, c, rfl⟩ : ∃ a c, xv = .slice a (entsOf cs).length c := by
    obtain ⟨a, c, e, -⟩ := hxv
    exact ⟨a, c, e⟩
  clear hI hb hx hxv
  generalize (entsOf cs).length = n at *
  go_enter Tryz.func74, Tryz.ntmps74
  go_wp2_with fail
  with_reducible refine HI.out.mono ?_
  rintro e w1 ⟨rfl, hb1⟩
  have HB1 := hid hb1
  clear hb1
  go_wp2
  go_ret
  exact ⟨rfl, HB1.out⟩

/-! ### One row of columns behind the other -/
theorem one_cv {cs : List Cv} {vv : Nat → Value} {w : World} {S : Nat → Prop} (h : ∀ i, i < cs.length → InS w S (vv i) (cs.getD i Cv.z).2) : ∀ u ∈ flatK 3 cs.length (cvF cs vv), u.oneCell' = true := by
  intro u hu
  obtain ⟨i, hi, hu⟩ := List.mem_flatMap.1 hu
  obtain ⟨j, hj, rfl⟩ := List.mem_map.1 hu
  have hj := List.mem_range.1 hj
  obtain ⟨a, c, e, -⟩ := h i (List.mem_range.1 hi)
  rcases (show j = 0 ∨ j = 1 ∨ j = 2 by omega) with rfl | rfl | rfl
  · rfl
  · rfl
  · show (vv i).oneCell' = true
    rw [e]; rfl

theorem cv_block {w : World} {base : Nat} {e : TypeId} {v : Value} {cs : List Cv} (h : CvSt w base e v cs) : ∀ k, v.ownBlock = some k → base ≤ k ∧ k < w.heap.size := by
  obtain ⟨vv, h⟩ := h
  exact fun k hk => h.row.lt k hk
/-- columns as a reader sees them -/
theorem CvSt.rd {w : World} {base : Nat} {e : TypeId} {v : Value} {cs : List Cv} (h : CvSt w base e v cs) : RdCv w (fun b => base ≤ b ∧ b < w.heap.size) v cs := by
  obtain ⟨vv, h⟩ := h
  exact ⟨vv, (inK_of_owns h.row).more fun b hb => h.row.lt b hb, fun i hi => (h.kids i hi).more fun b hb => ⟨hb.1, hb.2.1⟩⟩

set_option maxRecDepth 100000 in
theorem step_append_cv {w : World} {ops : Array Oper} {o : Oper} {a : Act} {K : Act → World → Prop} {Q : Exit → Act → World → Prop} {E : Prop} (hgd : o.guard = none) (s x : Operand)
    (ho : o.op = .call { callee := .builtin .append, args := #[s, x], argTypes := #[94, 94] }) {cs ds : List Cv} {sx sy : Value} (hs : a.eval s = sx) (hx : a.eval x = sy) (S : Nat → Prop) (hX : CvSt w 0 96 sx cs) (hY : RdCv w S sy ds)
    (hS : ∀ b, S b → b < w.heap.size ∧ sx.ownBlock ≠ some b) (hlen : cs.length + ds.length ≤ 65536)
    (h : ∀ v w', CvSt w' 0 96 v (cs ++ ds) → w.grownBy w' sx.ownBlock → (v.ownBlock = sx.ownBlock ∨ v.ownBlock = some w.heap.size) → K (a.put o.dst v) w') :
    if Region.wanted o (yielded ops a.tmps) = true then Oper.wp Tryz.prog o a w K Q else E := by
  obtain ⟨i0, hi, hz0, hz1, hz2⟩ := info_parts info_set
  obtain ⟨vv2, hY, hk⟩ := hY
  have h1 := one_cv hk
  obtain ⟨vv, hN⟩ := hX
  obtain ⟨ao, c, rfl, hc, hcm, hrd⟩ := hY
  by_cases h0 : 0 < cs.length + ds.length
  · refine step_append_form w hgd s x 94 94 ho 0 96 96 i0 (.agg #[.int .i64 0, .int .i64 0, .slice none 0 0]) 3 40 Tryz.underlying94 Tryz.underlying94 hi hz0 hz1 hz2 rfl (by decide)
      sx cs.length (flatK 3 cs.length (cvF cs vv)) hs hN.row ao ds.length c (flatK 3 ds.length (cvF ds vv2)) hx (flatK_len _ _ _) (fun hd => ?_) h1 h0 (by unfold maxLen; omega) (by omega) (Nat.zero_le _) ?_
    · obtain ⟨b, o', rfl, -, hcell⟩ := hrd hd
      exact ⟨_, rfl, src_of_inK (k := 3) (S := fun _ => True) (c := 0) (by decide) hcell⟩
    · intro g cap w' hown hg hat hlt
      refine h _ _ (merged rfl rfl hN (fun q hq => (hk q hq).more fun b hb => ⟨Nat.zero_le _, (hS b hb).1, (hS b hb).2⟩) hown hg hat) hg ?_
      rcases hat with e | e
      · exact .inl e.symm
      · exact .inr (by rw [e]; rfl)
  · have e1 : cs = [] := List.eq_nil_of_length_eq_zero (by omega)
    have e2 : ds = [] := List.eq_nil_of_length_eq_zero (by omega)
    subst e1 e2
    obtain ⟨a0, c0, rfl⟩ := own_slice hN.row
    have hc0 : (0 : Nat) ≤ c0 := Nat.zero_le _
    exact step_append_zero hgd s x 94 94 ho 96 96 i0 Tryz.underlying94 Tryz.underlying94 hi a0 0 c0 hs hc0 ao 0 c rfl hx
      (h _ _ ⟨vv, hN⟩ ⟨rfl, rfl, rfl, Nat.le_refl _, fun _ _ _ => rfl⟩ (.inl rfl))

theorem posting_indexed_any (cs : List Cv) (v : Value) (w : World) (hm : cs.length ≤ 65536) (h : CvSt w 0 96 v cs) (hset : ∀ c ∈ cs, Asc c.2) (hlen : ∀ c ∈ cs, c.2.length ≤ 4096) (hstr : ∀ c ∈ cs, ∀ s ∈ c.2, s.size ≤ maxLen) :
    Calls Tryz.prog 49 #[v] w (fun e w' => ∃ cs' ev vv lv, cs'.Perm cs ∧ cs'.Pairwise (fun a b => rlt (refZ b) (refZ a) = false) ∧ e = .returned (.agg #[ev, vv, lv]) ∧
      RdIx w' (News w w') ev vv lv (indexOf cs') ∧ w.grownBy w' v.ownBlock) := by
  obtain ⟨vv, hN⟩ := h
  rcases hN.row.2 with ⟨rfl, hn⟩ | ⟨g, cap, cur, rfl, -⟩
  · have e1 : cs = [] := List.eq_nil_of_length_eq_zero hn
    subst e1
    refine (posting_indexed_nil 0 w).mono ?_
    rintro e w' ⟨ev, vv, lv, rfl, hrd, hb⟩
    exact ⟨[], ev, vv, lv, .refl _, .nil, rfl, hrd, hb.os, hb.tape, hb.output, hb.size, fun k hk _ => hb.block k hk⟩
  · refine (posting_indexed cs 0 g cs.length cap w rfl hm ⟨vv, hN⟩ hset hlen hstr).mono ?_
    rintro e w' ⟨cs', ev, vv, lv, h1, h2, rfl, hrd, hg⟩
    exact ⟨cs', ev, vv, lv, h1, h2, rfl, hrd, hg⟩

end Go.Proofs.YtabemneoobbnaaaGreatDoor

namespace Go.Proofs.YtabemneoobbnaaaGreatDoor
open Go.RowKit

set_option maxRecDepth 100000 in
set_option maxHeartbeats 4000000 in
theorem posting_Merge (cs ds : List Cv) (hok : CvsOk cs) (hcs : StrOk cs) (hod : CvsOk ds) (hds : StrOk ds) (ev vv lv ev2 vv2 lv2 : Value) (B : Nat) (w : World) (hx : RdIx w (· < B) ev vv lv (indexOf cs)) (hy : RdIx w (· < B) ev2 vv2 lv2 (indexOf ds)) (hB : B ≤ w.heap.size)
    (hr : ∀ c ∈ cs, ∀ d ∈ ds, d.1 ≠ c.1) (hm : cs.length + ds.length ≤ 65536) :
    Calls Tryz.prog 38 #[.agg #[ev, vv, lv], .agg #[ev2, vv2, lv2]] w (IxP w (cs ++ ds) okV) := by
  have HAL : Hid (ColsOk (cs ++ ds)) := hid ((hok.cols hcs).app (hod.cols hds))
  have HDF : Hid (Diff (cs ++ ds)) := hid (by
    unfold Diff
    rw [List.pairwise_append]
    exact ⟨diff_of hok.up, diff_of hod.up, fun a ha b hb e => hr a ha b hb e.symm⟩)
  have HVX := hid (fun W (hW : Below w.heap.size w W) => posting_Valid cs hok ev vv lv B W (hx.keep fun p (hp : p.block < B) => hW.cell (p := p) (by omega)) (by have := hW.size; omega))
  have HVY := hid (fun W (hW : Below w.heap.size w W) => posting_Valid ds hod ev2 vv2 lv2 B W (hy.keep fun p (hp : p.block < B) => hW.cell (p := p) (by omega)) (by have := hW.size; omega))
  have HCN := hid (fun W yb (hW : Below w.heap.size w W) (hb : BoxN W yb 40 #[ev2, vv2, lv2]) => contains_none cs ds ev yb B ev2 vv2 lv2 W (by have h := hx.ents; rw [show (indexOf cs).ents = entsOf cs from rfl, ents_len] at h; rw [ents_len]; exact InK.keep h fun p (hp : p.block < B) => hW.cell (p := p) (by omega)) (hy.keep fun p (hp : p.block < B) => hW.cell (p := p) (by omega)) (by have := hW.size; omega) hb hod.many hok.many hr)
  have HSX := hid (fun W (hW : Below w.heap.size w W) => posting_sets cs hok ev vv lv B W (hx.keep fun p (hp : p.block < B) => hW.cell (p := p) (by omega)) (by have := hW.size; omega))
  have HSY := hid (fun W (hW : Below w.heap.size w W) => posting_sets ds hod ev2 vv2 lv2 B W (hy.keep fun p (hp : p.block < B) => hW.cell (p := p) (by omega)) (by have := hW.size; omega))
  have HSF : Hid (∀ c ∈ cs ++ ds, ∀ s ∈ c.2, s.size ≤ maxLen) := hid HAL.out.str
  have HL : Hid ((cs ++ ds).length ≤ 65536) := hid (by rw [List.length_append]; exact hm)
  have HM := hid hm
  obtain ⟨ea, ec, rfl, -⟩ := hx.ents
  obtain ⟨va, vc, rfl, -⟩ := hx.vals
  obtain ⟨lf, ⟨la, lc, rfl, -⟩, -⟩ := hx.lists
  obtain ⟨ea2, ec2, rfl, -⟩ := hy.ents
  obtain ⟨va2, vc2, rfl, -⟩ := hy.vals
  obtain ⟨lf2, ⟨la2, lc2, rfl, -⟩, -⟩ := hy.lists
  clear hx hy hok hcs hod hds hr hm
  generalize (indexOf cs).ents.length = n1 at *
  generalize (indexOf cs).vals.length = n2 at *
  generalize (indexOf cs).lists.length = n3 at *
  generalize (indexOf ds).ents.length = m1 at *
  generalize (indexOf ds).vals.length = m2 at *
  generalize (indexOf ds).lists.length = m3 at *
  have HB3 : Hid (Below w.heap.size w (((w.alloc (.cells #[.slice ea n1 ec, .slice va n2 vc, .slice la n3 lc] 40)).alloc (.cells #[.slice ea2 m1 ec2, .slice va2 m2 vc2, .slice la2 m3 lc2] 40)).alloc (.cells #[.slice none 0 0, .slice none 0 0, .slice none 0 0] 40))) := hid (by have := Below.refl w.heap.size w; repeat' (first | (with_reducible exact Below.refl _ _) | (with_reducible assumption) | (with_reducible refine below_drewN ?_) | (with_reducible refine Below.alloc ?_ ?_ _) | (with_reducible refine Below.drew ?_) | (with_reducible refine Below.setCell ?_ ?_ _) | (with_reducible refine Below.trans ?_ (Below.mono (by with_reducible assumption) ?_)) | go_size))
  have HX3 := hid (((BoxN.new w #[.slice ea n1 ec, .slice va n2 vc, .slice la n3 lc] 40).alloc (.cells #[.slice ea2 m1 ec2, .slice va2 m2 vc2, .slice la2 m3 lc2] 40)).alloc (.cells #[.slice none 0 0, .slice none 0 0, .slice none 0 0] 40))
  have HR3 := hid ((BoxN.new (w.alloc (.cells #[.slice ea n1 ec, .slice va n2 vc, .slice la n3 lc] 40)) #[.slice ea2 m1 ec2, .slice va2 m2 vc2, .slice la2 m3 lc2] 40).alloc (.cells #[.slice none 0 0, .slice none 0 0, .slice none 0 0] 40))
  have HO3 := hid (BoxN.new ((w.alloc (.cells #[.slice ea n1 ec, .slice va n2 vc, .slice la n3 lc] 40)).alloc (.cells #[.slice ea2 m1 ec2, .slice va2 m2 vc2, .slice la2 m3 lc2] 40)) #[.slice none 0 0, .slice none 0 0, .slice none 0 0] 40)
  rw [World.size_alloc] at HR3
  rw [World.size_alloc, World.size_alloc] at HO3
  go_enter Tryz.func38, Tryz.ntmps38
  go_upto_region 1 with fail
  generalize ((w.alloc (.cells #[.slice ea n1 ec, .slice va n2 vc, .slice la n3 lc] 40)).alloc (.cells #[.slice ea2 m1 ec2, .slice va2 m2 vc2, .slice la2 m3 lc2] 40)).alloc (.cells #[.slice none 0 0, .slice none 0 0, .slice none 0 0] 40) = W3 at *
  have x0 := HX3.out.cell 0 rfl
  have x1 := HX3.out.cell 1 rfl
  have x2 := HX3.out.cell 2 rfl
  go_wp2_with fail
  with_reducible refine (HVX.out _ HB3.out).mono ?_
  rintro e w4 ⟨rfl, hb4⟩
  have HB4 := hid (HB3.out.trans (hb4.mono HB3.out.size))
  have HX4 := hid (HX3.out.below hb4 HX3.out.lt)
  have HR4 := hid (HR3.out.below hb4 HR3.out.lt)
  have HO4 := hid (HO3.out.below hb4 HO3.out.lt)
  clear hb4 x0 x1 x2 HVX HB3 HX3 HR3 HO3
  have y0 := HR4.out.cell 0 rfl
  have y1 := HR4.out.cell 1 rfl
  have y2 := HR4.out.cell 2 rfl
  go_wp2_with fail
  with_reducible refine (HVY.out _ HB4.out).mono ?_
  rintro e w5 ⟨rfl, hb5⟩
  have HB5 := hid (HB4.out.trans (hb5.mono HB4.out.size))
  have HX5 := hid (HX4.out.below hb5 HX4.out.lt)
  have HR5 := hid (HR4.out.below hb5 HR4.out.lt)
  have HO5 := hid (HO4.out.below hb5 HO4.out.lt)
  clear hb5 y0 y1 y2 HVY HB4 HX4 HR4 HO4
  have x0 := HX5.out.cell 0 rfl
  have x1 := HX5.out.cell 1 rfl
  have x2 := HX5.out.cell 2 rfl
  go_wp2_with fail
  with_reducible refine (HCN.out _ _ HB5.out HR5.out).mono ?_
  rintro e w7 ⟨rfl, hb7⟩
  have HB7 := hid (HB5.out.trans (hb7.mono HB5.out.size))
  have HX7 := hid (HX5.out.below hb7 HX5.out.lt)
  have HR7 := hid (HR5.out.below hb7 HR5.out.lt)
  have HO7 := hid (HO5.out.below hb7 HO5.out.lt)
  clear hb7 x0 x1 x2 HCN HB5 HX5 HR5 HO5
  go_wp2_with fail
  have hz7 := HB7.out.size
  have hzo := HO7.out.lt
  have x0 := HX7.out.cell 0 rfl
  have x1 := HX7.out.cell 1 rfl
  have x2 := HX7.out.cell 2 rfl
  have y0 := HR7.out.cell 0 rfl
  have y1 := HR7.out.cell 1 rfl
  have y2 := HR7.out.cell 2 rfl
  have HB77 := hid (Below.refl w7.heap.size w7)
  have HXW := hid (fun W (hW : Below w7.heap.size w7 W) => HX7.out.below hW HX7.out.lt)
  have HRW := hid (fun W (hW : Below w7.heap.size w7 W) => HR7.out.below hW HR7.out.lt)
  have HOW := hid (fun W (hW : Below w7.heap.size w7 W) => HO7.out.below hW HO7.out.lt)
  go_region_held3 (fun w' => w'.cell? ⟨w.heap.size, 0, none⟩ = some (.slice ea n1 ec) ∧ w'.cell? ⟨w.heap.size, 1, none⟩ = some (.slice va n2 vc) ∧ w'.cell? ⟨w.heap.size, 2, none⟩ = some (.slice la n3 lc) ∧ w'.cell? ⟨w.heap.size + 1, 0, none⟩ = some (.slice ea2 m1 ec2) ∧ w'.cell? ⟨w.heap.size + 1, 1, none⟩ = some (.slice va2 m2 vc2) ∧ w'.cell? ⟨w.heap.size + 1, 2, none⟩ = some (.slice la2 m3 lc2))
    (first | exact ⟨v0, v1, v2, v3, v4, v5⟩ | exact ⟨u0, u1, u2, u3, u4, u5⟩ | exact ⟨p0, p1, p2, p3, p4, p5⟩ | exact ⟨t0, t1, t2, t3, t4, t5⟩ | exact ⟨s0, s1, s2, s3, s4, s5⟩ | go_keep)
    (first
      | (go_at_call 68; go_must (first | ((with_reducible refine (HSX.out _ (by have h1 := HB7.out; repeat' (first | (with_reducible exact Below.refl _ _) | (with_reducible assumption) | (with_reducible refine below_drewN ?_) | (with_reducible refine Below.alloc ?_ ?_ _) | (with_reducible refine Below.drew ?_) | (with_reducible refine Below.setCell ?_ ?_ _) | (with_reducible refine Below.trans ?_ (Below.mono (by with_reducible assumption) ?_)) | go_size))).mono ?_); rintro e ws ⟨vs, rfl, hcv, hbs⟩; have HBS : Hid (Below w7.heap.size w7 ws) := hid (by have h1 := HB77.out; repeat' (first | (with_reducible exact Below.refl _ _) | (with_reducible assumption) | (with_reducible refine below_drewN ?_) | (with_reducible refine Below.alloc ?_ ?_ _) | (with_reducible refine Below.drew ?_) | (with_reducible refine Below.setCell ?_ ?_ _) | (with_reducible refine Below.trans ?_ (Below.mono (by with_reducible assumption) ?_)) | go_size)); have HCX := hid (fun W' (hW : Below ws.heap.size ws W') => (hcv.later hW (Nat.succ_pos _)).base (base' := 0) (Nat.zero_le _)); have HKX : Hid (∀ k, vs.ownBlock = some k → w7.heap.size ≤ k ∧ k < ws.heap.size) := hid (fun k hk => ⟨Nat.le_trans (by first | go_size | (simp; omega) | omega) (cv_block hcv k hk).1, (cv_block hcv k hk).2⟩); have hxs := HXW.out _ HBS.out; have hrs := HRW.out _ HBS.out; have s0 := hxs.cell 0 rfl; have s1 := hxs.cell 1 rfl; have s2 := hxs.cell 2 rfl; have s3 := hrs.cell 0 rfl; have s4 := hrs.cell 1 rfl; have s5 := hrs.cell 2 rfl; have hzs := HBS.out.size; clear hcv hbs hxs hrs) | ((with_reducible refine (HSY.out _ (by have h0 := HB7.out; have h1 := HBS.out; repeat' (first | (with_reducible exact Below.refl _ _) | (with_reducible assumption) | (with_reducible refine below_drewN ?_) | (with_reducible refine Below.alloc ?_ ?_ _) | (with_reducible refine Below.drew ?_) | (with_reducible refine Below.setCell ?_ ?_ _) | (with_reducible refine Below.trans ?_ (Below.mono (by with_reducible assumption) ?_)) | go_size))).mono ?_); rintro e wt ⟨vt, rfl, hct, hbt⟩; have HBT : Hid (Below w7.heap.size w7 wt) := hid (by have h1 := HBS.out; repeat' (first | (with_reducible exact Below.refl _ _) | (with_reducible assumption) | (with_reducible refine below_drewN ?_) | (with_reducible refine Below.alloc ?_ ?_ _) | (with_reducible refine Below.drew ?_) | (with_reducible refine Below.setCell ?_ ?_ _) | (with_reducible refine Below.trans ?_ (Below.mono (by with_reducible assumption) ?_)) | go_size)); have HBU : Hid (Below ws.heap.size ws wt) := hid (by have h1 := Below.refl ws.heap.size ws; repeat' (first | (with_reducible exact Below.refl _ _) | (with_reducible assumption) | (with_reducible refine below_drewN ?_) | (with_reducible refine Below.alloc ?_ ?_ _) | (with_reducible refine Below.drew ?_) | (with_reducible refine Below.setCell ?_ ?_ _) | (with_reducible refine Below.trans ?_ (Below.mono (by with_reducible assumption) ?_)) | go_size)); have HBV := hid (Below.refl wt.heap.size wt); have HCY := hid (fun W' (hW : Below wt.heap.size wt W') => ((hct.later hW (Nat.succ_pos _)).base (base' := ws.heap.size) (by first | go_size | (simp; omega) | omega)).rd); have hxt := HXW.out _ HBT.out; have hrt := HRW.out _ HBT.out; have t0 := hxt.cell 0 rfl; have t1 := hxt.cell 1 rfl; have t2 := hxt.cell 2 rfl; have t3 := hrt.cell 0 rfl; have t4 := hrt.cell 1 rfl; have t5 := hrt.cell 2 rfl; have hzt := HBT.out.size; clear hct hbt hxt hrt)))
      | (go_at_call 49; go_must (((with_reducible refine (posting_indexed_any (cs ++ ds) v8 _ HL.out HCV8.out HAL.out.sets HAL.out.len HSF.out).mono ?_); rintro e w9 ⟨cs', ev', vv', lv', hp9, hu9, rfl, hrx9, hg9⟩; obtain ⟨ea9, ec9, rfl, -⟩ := hrx9.ents; obtain ⟨va9, vc9, rfl, -⟩ := hrx9.vals; obtain ⟨lf9, ⟨la9, lc9, rfl, -⟩, -⟩ := hrx9.lists; have hx9 := HX8.out.grown hg9 (fun e => by have := HP8.out _ e.symm; omega); have hr9 := HR8.out.grown hg9 (fun e => by have := HP8.out _ e.symm; omega); have ho9 := HO8.out.grown hg9 (fun e => by have := HP8.out _ e.symm; omega); have u0 := hx9.cell 0 rfl; have u1 := hx9.cell 1 rfl; have u2 := hx9.cell 2 rfl; have u3 := hr9.cell 0 rfl; have u4 := hr9.cell 1 rfl; have u5 := hr9.cell 2 rfl; have o0 := ho9.cell 0 rfl; have o1 := ho9.cell 1 rfl; have o2 := ho9.cell 2 rfl; have o3 := ho9.frozen 0; have o4 := ho9.frozen 1; have o5 := ho9.frozen 2; have hx10 := (((hx9.other (p := ⟨w.heap.size + 1 + 1, 0, none⟩) (by show w.heap.size + 1 + 1 ≠ w.heap.size; omega) (.slice ea9 (indexOf cs').ents.length ec9)).other (p := ⟨w.heap.size + 1 + 1, 1, none⟩) (by show w.heap.size + 1 + 1 ≠ w.heap.size; omega) (.slice va9 (indexOf cs').vals.length vc9)).other (p := ⟨w.heap.size + 1 + 1, 2, none⟩) (by show w.heap.size + 1 + 1 ≠ w.heap.size; omega) (.slice la9 (indexOf cs').lists.length lc9)); have hr10 := (((hr9.other (p := ⟨w.heap.size + 1 + 1, 0, none⟩) (by show w.heap.size + 1 + 1 ≠ w.heap.size + 1; omega) (.slice ea9 (indexOf cs').ents.length ec9)).other (p := ⟨w.heap.size + 1 + 1, 1, none⟩) (by show w.heap.size + 1 + 1 ≠ w.heap.size + 1; omega) (.slice va9 (indexOf cs').vals.length vc9)).other (p := ⟨w.heap.size + 1 + 1, 2, none⟩) (by show w.heap.size + 1 + 1 ≠ w.heap.size + 1; omega) (.slice la9 (indexOf cs').lists.length lc9)); have v0 := hx10.cell 0 rfl; have v1 := hx10.cell 1 rfl; have v2 := hx10.cell 2 rfl; have v3 := hr10.cell 0 rfl; have v4 := hr10.cell 1 rfl; have v5 := hr10.cell 2 rfl; have HO9 := hid ho9; have HB9 := hid (below_grown HB8.out hg9 (fun k hk => by have := HP8.out k hk; omega)); have HZ9 := hid hg9.size; have HP9 := hid hp9; have HU9 := hid hu9; have HRX9 := hid hrx9; clear hx9 hr9 ho9 hg9 hp9 hu9 hrx9 hx10 hr10)))
      | (((refine step_append_cv (cs := cs) (ds := ds) (sx := vs) (sy := vt) rfl (.tmp 23) (.tmp 25) rfl rfl rfl _ (HCX.out _ (by have h1 := HBU.out; repeat' (first | (with_reducible exact Below.refl _ _) | (with_reducible assumption) | (with_reducible refine below_drewN ?_) | (with_reducible refine Below.alloc ?_ ?_ _) | (with_reducible refine Below.drew ?_) | (with_reducible refine Below.setCell ?_ ?_ _) | (with_reducible refine Below.trans ?_ (Below.mono (by with_reducible assumption) ?_)) | go_size))) (HCY.out _ (by have h1 := HBV.out; repeat' (first | (with_reducible exact Below.refl _ _) | (with_reducible assumption) | (with_reducible refine below_drewN ?_) | (with_reducible refine Below.alloc ?_ ?_ _) | (with_reducible refine Below.drew ?_) | (with_reducible refine Below.setCell ?_ ?_ _) | (with_reducible refine Below.trans ?_ (Below.mono (by with_reducible assumption) ?_)) | go_size))) (fun b hb => ⟨hb.2, fun e => by have q := (HKX.out _ e).2; have q2 := hb.1; omega⟩) HM.out ?_); intro v8 w8 hcv8 hg8 hat8; have HP8 : Hid (∀ k, v8.ownBlock = some k → w7.heap.size ≤ k) := hid (fun k hk => by rcases hat8 with e | e <;> first | exact (HKX.out k (e.symm.trans hk)).1 | (rw [hk] at e; injection e with e; rw [e]; have q1 := HBT.out.size; first | go_size | (simp; omega) | omega)); have HCV8 := hid hcv8; have HB8 : Hid (Below w.heap.size w w8) := hid (below_grown (by have h0 := HB7.out; have h1 := HBT.out; repeat' (first | (with_reducible exact Below.refl _ _) | (with_reducible assumption) | (with_reducible refine below_drewN ?_) | (with_reducible refine Below.alloc ?_ ?_ _) | (with_reducible refine Below.drew ?_) | (with_reducible refine Below.setCell ?_ ?_ _) | (with_reducible refine Below.trans ?_ (Below.mono (by with_reducible assumption) ?_)) | go_size)) hg8 (fun k hk => by have := (HKX.out k hk).1; omega)); have hx8 := (HXW.out _ (by have h0 := HB77.out; have h1 := HBT.out; repeat' (first | (with_reducible exact Below.refl _ _) | (with_reducible assumption) | (with_reducible refine below_drewN ?_) | (with_reducible refine Below.alloc ?_ ?_ _) | (with_reducible refine Below.drew ?_) | (with_reducible refine Below.setCell ?_ ?_ _) | (with_reducible refine Below.trans ?_ (Below.mono (by with_reducible assumption) ?_)) | go_size))).grown hg8 (fun e => by have := (HKX.out _ e.symm).1; omega); have hr8 := (HRW.out _ (by have h0 := HB77.out; have h1 := HBT.out; repeat' (first | (with_reducible exact Below.refl _ _) | (with_reducible assumption) | (with_reducible refine below_drewN ?_) | (with_reducible refine Below.alloc ?_ ?_ _) | (with_reducible refine Below.drew ?_) | (with_reducible refine Below.setCell ?_ ?_ _) | (with_reducible refine Below.trans ?_ (Below.mono (by with_reducible assumption) ?_)) | go_size))).grown hg8 (fun e => by have := (HKX.out _ e.symm).1; omega); have ho8 := (HOW.out _ (by have h0 := HB77.out; have h1 := HBT.out; repeat' (first | (with_reducible exact Below.refl _ _) | (with_reducible assumption) | (with_reducible refine below_drewN ?_) | (with_reducible refine Below.alloc ?_ ?_ _) | (with_reducible refine Below.drew ?_) | (with_reducible refine Below.setCell ?_ ?_ _) | (with_reducible refine Below.trans ?_ (Below.mono (by with_reducible assumption) ?_)) | go_size))).grown hg8 (fun e => by have := (HKX.out _ e.symm).1; omega); have HX8 := hid hx8; have HR8 := hid hr8; have HO8 := hid ho8; have p0 := hx8.cell 0 rfl; have p1 := hx8.cell 1 rfl; have p2 := hx8.cell 2 rfl; have p3 := hr8.cell 0 rfl; have p4 := hr8.cell 1 rfl; have p5 := hr8.cell 2 rfl; clear hx8 hr8 ho8 hg8 hat8 hcv8)))
  all_goals
    have HPM := HP9.out
    have HDF9 := HDF.out.perm HPM
    have HUP9 := up_of HU9.out HDF9
    have HCO9 : Hid (CvsOk cs' ∧ StrOk cs') := hid ⟨(HAL.out.perm fun c hc => HPM.mem_iff.1 hc).cvs HUP9 (by rw [HPM.length_eq]; exact HL.out), fun c hc => HAL.out.str c (HPM.mem_iff.1 hc)⟩
    clear HPM HDF9 HUP9
    have hq := ((HO9.out.set 0 (.slice ea9 (indexOf cs').ents.length ec9)).set 1 (.slice va9 (indexOf cs').vals.length vc9)).set 2 (.slice la9 (indexOf cs').lists.length lc9)
    have q0 := hq.cell 0 rfl
    have q1 := hq.cell 1 rfl
    have q2 := hq.cell 2 rfl
    clear hq
    go_wp2_with fail
    refine bodyPost_ret (v := okV (.agg #[.slice ea9 (indexOf cs').ents.length ec9, .slice va9 (indexOf cs').vals.length vc9, .slice la9 (indexOf cs').lists.length lc9])) (by simp [results, Tryz.results38, go_sem, q0, q1, q2]; done) rfl ⟨cs', _, _, _, HCO9.out.1, HCO9.out.2, HP9.out, rfl, ?_, ?_⟩
    · exact ix_stored HRX9.out HB9.out (by have := HB8.out.size; omega) (by have := HOW.out; have := HO8.out.lt; omega) _ _ _
    · exact ((HB9.out.setCell (by show w.heap.size ≤ w.heap.size + 1 + 1; omega) _).setCell (by show w.heap.size ≤ w.heap.size + 1 + 1; omega) _).setCell (by show w.heap.size ≤ w.heap.size + 1 + 1; omega) _

end Go.Proofs.YtabemneoobbnaaaGreatDoor
