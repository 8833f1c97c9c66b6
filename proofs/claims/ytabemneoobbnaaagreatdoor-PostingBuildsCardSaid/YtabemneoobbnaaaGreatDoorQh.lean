/- Contract of posting.indexed at no columns. Contract of posting.Build at valid tables. -/
import Derived.Test.YtabemneoobbnaaaGreatDoorOh
import Derived.Shelf.SlSortCmp.NoneTotal
import Derived.Test.YtabemneoobbnaaaGreatDoorQf
namespace Go.Proofs.YtabemneoobbnaaaGreatDoor
open Go.RowKit Go.Shelf

theorem maps_own_made (w : World) : (w.alloc (.map #[] 0)).ownsMap (H := Unit) Tryz.prog 9 (rowElem (w.alloc (.map #[] 0)) 0 3 .i64) w.heap.size 0 (.map []) := World.ownsMap_made w Tryz.prog 9 _

set_option maxRecDepth 100000 in
set_option maxHeartbeats 2000000 in
theorem posting_indexed_nil (c : Nat) (w : World) :
    Calls Tryz.prog 49 #[.slice none 0 c] w (fun e w' => ∃ ev vv lv, e = .returned (.agg #[ev, vv, lv]) ∧ RdIx w' (News w w') ev vv lv (indexOf []) ∧ Below w.heap.size w w') := by
  have hmm := @run_makeMap Tryz.prog
  have HSO : Hid (∀ W, Calls Tryz.prog 89 #[.slice none 0 c, .func (.func 90) #[] #[]] W fun e w' => e = .returned (.tuple #[]) ∧ w' = W) := hid (fun W => AnyF.slices_SortFunc_none Tryz.sortSets none c (.func (.func 90) #[] #[]) W)
  have HB2 : Hid (Below w.heap.size w ((w.alloc (.cells #[.slice none 0 0, .slice none 0 0, .slice none 0 0] 40)).alloc (.cells #[.slice none 0 0, .slice none 0 0, .slice none 0 0] 40))) := hid (by have := Below.refl w.heap.size w; repeat' (first | (with_reducible exact Below.refl _ _) | (with_reducible assumption) | (with_reducible refine below_drewN ?_) | (with_reducible refine Below.alloc ?_ ?_ _) | (with_reducible refine Below.drew ?_) | (with_reducible refine Below.setCell ?_ ?_ _) | (with_reducible refine Below.trans ?_ (Below.mono (by with_reducible assumption) ?_)) | go_size))
  have HX0 := hid (BoxN.new (w.alloc (.cells #[.slice none 0 0, .slice none 0 0, .slice none 0 0] 40)) #[.slice none 0 0, .slice none 0 0, .slice none 0 0] 40)
  have HY0 := hid ((BoxN.new w #[.slice none 0 0, .slice none 0 0, .slice none 0 0] 40).alloc (.cells #[.slice none 0 0, .slice none 0 0, .slice none 0 0] 40))
  rw [World.size_alloc] at HX0
  go_enter Tryz.func49, Tryz.ntmps49
  generalize hLA : Code.loop _ = LA
  generalize hLB : Code.loop _ = LB
  go_wp2_with fail
  with_reducible refine (HSO.out _).mono ?_
  generalize (w.alloc (.cells #[.slice none 0 0, .slice none 0 0, .slice none 0 0] 40)).alloc (.cells #[.slice none 0 0, .slice none 0 0, .slice none 0 0] 40) = W2 at *
  rintro e w2 ⟨rfl, rfl⟩
  obtain ⟨w2, rfl⟩ : ∃ W, W = w2 := ⟨_, rfl⟩
  have HOM := hid (maps_own_made w2)
  have HB3 := hid (HB2.out.alloc HB2.out.size (.map #[] 0))
  have HX3 := hid (HX0.out.alloc (.map #[] 0))
  have HY3 := hid (HY0.out.alloc (.map #[] 0))
  have HSOR := hid (lib_Sorted w2.heap.size 0 _ _ (w2.alloc (.map #[] 0)) HOM.out (by simp [Go.Maps.size]))
  rw [World.size_alloc w2] at HSOR
  have HKS := hid (fun ss hp => keys_sorted (F := fun _ => []) GrpOk.start HOM.out [] (by simp) (ss := ss) hp)
  have HB4 := hid (HB3.out.alloc HB3.out.size (.cells #[.map (some w2.heap.size)] 141))
  have HX4 := hid (HX3.out.alloc (.cells #[.map (some w2.heap.size)] 141))
  have HY4 := hid (HY3.out.alloc (.cells #[.map (some w2.heap.size)] 141))
  clear HOM
  go_wp2_with fail
  subst hLA
  refine wp_loop_rounds 1 ?_
  rw [rounds_succ]
  go_wp2_with (first | (go_at_call 91; refine (lib_Keys _ _).mono ?_; rintro e w5 ⟨rfl, rfl⟩) | fail)
  with_reducible refine HSOR.out.mono ?_
  generalize hW5 : (w2.alloc (.map #[] 0)).alloc (.cells #[.map (some w2.heap.size)] 141) = W5 at *
  clear hW5
  rintro e w6 ⟨v, ss, rfl, hp6, hown6, hb6⟩
  have hss := HKS.out ss hp6
  rw [setOf_nil] at hss
  have hsl : ss.length = 0 := by have := congrArg List.length hss; simpa using this
  rw [hss, hsl] at hown6
  have HB6 := hid (HB4.out.trans (hb6.mono HB4.out.size))
  have HX6 := hid (HX4.out.below hb6 HX4.out.lt)
  have HY6 := hid (HY4.out.below hb6 HY4.out.lt)
  have HO6 := hid (own_base (base' := w.heap.size) hown6 HB4.out.size)
  clear hss hsl hp6 hown6 hb6
  obtain ⟨sa, sc, rfl⟩ := own_slice HO6.out
  have x1 := HX6.out.cell 1 rfl
  have f1 := HX6.out.frozen 1
  have HX7 := hid (HX6.out.set 1 (.slice sa 0 sc))
  have HY7 := hid (HY6.out.other (p := ⟨w.heap.size + 1, 1, none⟩) (by show w.heap.size + 1 ≠ w.heap.size; omega) (.slice sa 0 sc))
  have y0 := HX7.out.cell 0 rfl
  have y1 := HX7.out.cell 1 rfl
  have y2 := HX7.out.cell 2 rfl
  have z0 := HY7.out.cell 0 rfl
  have z1 := HY7.out.cell 1 rfl
  have z2 := HY7.out.cell 2 rfl
  have g0 := HY7.out.frozen 0
  have g1 := HY7.out.frozen 1
  have g2 := HY7.out.frozen 2
  go_wp2_with fail
  subst hLB
  refine wp_loop_rounds 1 ?_
  rw [rounds_succ]
  go_wp2_with fail
  have hq := ((HY7.out.set 0 (.slice none 0 0)).set 1 (.slice sa 0 sc)).set 2 (.slice none 0 0)
  have q0 := hq.cell 0 rfl
  have q1 := hq.cell 1 rfl
  have q2 := hq.cell 2 rfl
  clear x1 f1 y0 y1 y2 z0 z1 z2 g0 g1 g2 hq
  refine bodyPost_ret (v := .agg #[.slice none 0 0, .slice sa 0 sc, .slice none 0 0]) (by simp [results, Tryz.results49, go_sem, q0, q1, q2]; done) rfl ⟨_, _, _, rfl, ?_, ?_⟩
  · have e1 : indexOf [] = ⟨[], [], []⟩ := by simp [indexOf, entsOf, allOf, setOf_nil]
    rw [e1]
    obtain ⟨a', c', e2, h2, h3, -⟩ := inS_of_own (xs := []) HO6.out
    exact ⟨InK.nil, ⟨a', c', e2, h2, h3, fun h => absurd h (by simp)⟩, fun _ => .bool false, InK.nil, fun i hi => absurd hi (by simp)⟩
  · have h0 : w.heap.size ≤ w.heap.size := Nat.le_refl _
    have h1 : w.heap.size ≤ w.heap.size + 1 := by omega
    exact (((HB6.out.setCell h1 _).setCell h0 _).setCell h0 _).setCell h0 _

end Go.Proofs.YtabemneoobbnaaaGreatDoor

namespace Go.Proofs.YtabemneoobbnaaaGreatDoor
open Go.RowKit

theorem refs_asc {ts : List Ta} (h : ts.Pairwise (fun a b => a.id < b.id)) : (refsL ts).Pairwise (fun a b => rlt (a.1, (a.2 : Int)) (b.1, (b.2 : Int)) = true) := by
  unfold refsL
  rw [List.pairwise_flatMap]
  refine ⟨fun t _ => ?_, h.imp fun {a b} hab x hx y hy => ?_⟩
  · unfold refs1
    refine List.pairwise_map.2 (List.pairwise_lt_range.imp fun h => ?_)
    rw [rlt_iff]
    right
    exact ⟨rfl, by simp only; omega⟩
  · obtain ⟨i, -, rfl⟩ := List.mem_map.1 hx
    obtain ⟨j, -, rfl⟩ := List.mem_map.1 hy
    rw [rlt_iff]
    exact .inl hab
theorem cvsL_refs (ts : List Ta) : (cvsL ts).map (·.1) = refsL ts := by
  unfold cvsL cvsK
  rw [List.map_map]
  apply List.ext_getElem
  · simp
  · intro i h1 h2
    simp [cvOf, List.getD, h2]
theorem cvsL_len (ts : List Ta) : (cvsL ts).length = (refsL ts).length := by simp [cvsL, cvsK]
theorem refs_id {ts : List Ta} {r : Int × Nat} (h : r ∈ refsL ts) : ∃ t ∈ ts, r.1 = t.id := by
  obtain ⟨t, ht, hr⟩ := List.mem_flatMap.1 h
  obtain ⟨k, -, rfl⟩ := List.mem_map.1 hr
  exact ⟨t, ht, rfl⟩
theorem cvsL_ok {ts : List Ta} (h : ListV ts) : CvsOk (cvsL ts) := by
  refine ⟨?_, fun c hc => ?_, fun c hc => ?_, cvs_len h, ?_⟩
  · have h1 := refs_asc h.2.2
    rw [← cvsL_refs, List.pairwise_map] at h1
    exact h1
  · have h1 : c.1 ∈ refsL ts := by rw [← cvsL_refs]; exact List.mem_map_of_mem hc
    obtain ⟨t, ht, e⟩ := refs_id h1
    have := h.2.1 t ht
    rw [e]
    exact ⟨this.1, this.2.1⟩
  · obtain ⟨q, hq, rfl⟩ := List.mem_map.1 hc
    exact setOfL_asc _
  · rw [cvsL_len]
    have := refs_le (ts := ts) fun t ht => (h.2.1 t ht).2.2.2.1
    have := h.1
    omega
theorem cvsL_str {ts : List Ta} (h : ListV ts) : StrOk (cvsL ts) := by
  intro c hc s hs
  obtain ⟨q, hq, rfl⟩ := List.mem_map.1 hc
  obtain ⟨i, k, hi, hk, -, h4⟩ := refs_at ts q (List.mem_range.1 hq)
  unfold cvOf at hs
  simp only at hs
  rw [h4] at hs
  obtain ⟨n, hn, hcs⟩ := (h.2.1 _ (getD_mem hi Ta.z)).2.2.2.2
  unfold valuesL at hs
  rw [setOfL_mem_iff] at hs
  unfold textsL at hs
  obtain ⟨cl, hcl, rfl⟩ := List.mem_map.1 hs
  have := ((hcs _ (getD_mem hk Co.z)).2.2 cl (List.mem_filter.1 hcl).1).2.1
  unfold maxLen
  omega

/-- Get at the q-th reference -/
theorem table_Get_at (v : Value) (ts : List Ta) (B q : Nat) (w : World) (h : ListV ts) (hq : q < (refsL ts).length) (hv : RdTa w (· < B) v ts) (hB : B ≤ w.heap.size) :
    Calls Tryz.prog 47 #[v, .agg #[.int .i64 ((refsL ts).getD q (0, 0)).1, .int .i64 (((refsL ts).getD q (0, 0)).2 : Int)]] w (GetN w ((colsL ts).getD q Co.z)) := by
  obtain ⟨i, k, hi, hk, h3, h4⟩ := refs_at ts q hq
  have hlen : ((ts.getD i Ta.z).cols.getD k Co.z).cells.length ≤ 1048576 := by
    obtain ⟨n, hn, hc⟩ := (h.2.1 _ (getD_mem hi Ta.z)).2.2.2.2
    have := (hc _ (getD_mem hk Co.z)).2.1
    omega
  rw [h3, h4]
  exact table_Get v ts B i k w hi (fun j hj => by have := ids_up h.2.2 hj hi; omega) (by have := h.1; omega) hk hv hB hlen

set_option maxRecDepth 100000 in
set_option maxHeartbeats 4000000 in
theorem posting_Build (v : Value) (ts : List Ta) (B : Nat) (w : World) (h : ListV ts) (hv : RdTa w (· < B) v ts) (hB : B ≤ w.heap.size) (hT : Tabs w) :
    Calls Tryz.prog 18 #[v] w (BuildP w (indexOf (cvsL ts))) := by
  obtain ⟨i0, hi, hz0, hz1, hz2⟩ := info_parts info_set
  have HVL := hid (fun W (hW : Below w.heap.size w W) => table_ValidList v ts B W h (hv.keep fun p hp => hW.cell (by have : p.block < B := hp; omega)) (by have := hW.size; omega) (hT.below hW))
  have HRF := hid (fun W (hW : Below w.heap.size w W) => table_Refs v ts B W h (hv.keep fun p hp => hW.cell (by have : p.block < B := hp; omega)) (by have := hW.size; omega))
  have HGT := hid (fun q (hq : q < (refsL ts).length) W (hW : Below w.heap.size w W) => table_Get_at v ts B q W h hq (hv.keep fun p hp => hW.cell (by have : p.block < B := hp; omega)) (by have := hW.size; omega))
  have HRL := hid (refs_le (ts := ts) fun t ht => (h.2.1 t ht).2.2.2.1)
  have HCL := hid (fun q hq => cvOf_len h (q := q) hq)
  have HCC := hid (fun q (hq : q < (refsL ts).length) => (show ((colsL ts).getD q Co.z).cells.length ≤ 4096 from by
    obtain ⟨i, k, hi, hk, -, h4⟩ := refs_at ts q hq
    rw [h4]
    obtain ⟨n, hn, hc⟩ := (h.2.1 _ (getD_mem hi Ta.z)).2.2.2.2
    have := (hc _ (getD_mem hk Co.z)).2.1
    omega))
  have HTS := hid (fun q (hq : q < (refsL ts).length) => (show ∀ c ∈ ((colsL ts).getD q Co.z).cells, c.text.size ≤ maxLen from by
    obtain ⟨i, k, hi, hk, -, h4⟩ := refs_at ts q hq
    rw [h4]
    obtain ⟨n, hn, hc⟩ := (h.2.1 _ (getD_mem hi Ta.z)).2.2.2.2
    intro c hcc
    have := ((hc _ (getD_mem hk Co.z)).2.2 c hcc).2.1
    unfold maxLen
    omega))
  have HCOK := hid (cvsL_ok h)
  have HCST := hid (cvsL_str h)
  have hl := h.1
  have HKS := hid (cvsK_succ ts)
  have HKL := hid (cvsK_len ts)
  have HALL : Hid (cvsL ts = cvsK ts (refsL ts).length) := hid rfl
  have HOF : Hid (∀ q, cvOf ts q = ((refsL ts).getD q (0, 0), valuesL ((colsL ts).getD q Co.z).cells)) := hid (fun _ => rfl)
  obtain ⟨a, c, rfl⟩ : ∃ a c, v = .slice a ts.length c := by
    obtain ⟨tv, ⟨a, c, e, -⟩, -⟩ := hv
    exact ⟨a, c, e⟩
  clear h hv hT
  generalize hrs : refsL ts = rs at *
  generalize hnn : rs.length = n at *
  have HN := hid hnn
  clear hrs hnn
  generalize ts.length = L at *
  have hn64 : n ≤ 65536 := by have := HRL.out; omega
  go_enter Tryz.func18, Tryz.ntmps18
  generalize hLA : Code.loop _ = LA
  go_wp2_with fail
  have HR0 := hid (BoxN.new w #[.slice none 0 0, .slice none 0 0, .slice none 0 0] 40)
  have HB0 := hid ((Below.refl w.heap.size w).alloc (Nat.le_refl _) (.cells #[.slice none 0 0, .slice none 0 0, .slice none 0 0] 40))
  have hz0' : (w.alloc (.cells #[.slice none 0 0, .slice none 0 0, .slice none 0 0] 40)).heap.size = w.heap.size + 1 := by simp
  with_reducible refine (HVL.out _ HB0.out).mono ?_
  generalize w.alloc (.cells #[.slice none 0 0, .slice none 0 0, .slice none 0 0] 40) = W0 at *
  rintro e w1 ⟨rfl, hb1⟩
  have HR1 := hid (HR0.out.below hb1 (by omega))
  have HB1 := hid (HB0.out.trans (hb1.mono (by omega)))
  have hz1' := hb1.size
  clear hb1
  go_wp2_with fail
  with_reducible refine (HRF.out _ HB1.out).mono ?_
  rintro e w2 ⟨ra, rc, rfl, hrr, hb2⟩
  have HR2 := hid (HR1.out.below hb2 (by omega))
  have HB2 := hid (HB1.out.trans (hb2.mono HB1.out.size))
  have HRR := hid hrr
  have hz2' := hb2.size
  rw [HN.out]
  clear hb2 hrr
  go_wp2_with fail
  subst hLA
  go_loopg [4, 16] n (fun N v i wr => ∃ q : Nat, q + N = n ∧ i = .int .i64 (q : Int) ∧ Hid (Below w2.heap.size w2 wr ∧ CvSt wr w2.heap.size 96 v (cvsK ts q)))
  case atStart => exact ⟨0, by omega, rfl, hid ⟨Below.refl _ _, CvSt.start (Nat.le_refl _)⟩⟩
  case round =>
    obtain ⟨q, hq, rfl, HST⟩ := hrel
    obtain ⟨L0, hL0⟩ := HST.out.2.owns
    obtain ⟨va, vc, rfl⟩ := own_slice hL0
    rw [HKL.out] at hL0
    have HL0 := hid hL0
    have HST' : Hid (Below w2.heap.size w2 wr ∧ CvSt wr w2.heap.size 96 (.slice va q vc) (cvsK ts q)) := hid ⟨HST.out.1, by have := HST.out.2; rw [HKL.out] at this; exact this⟩
    clear HST
    have HST := HST'
    have hwz := HST.out.1.size
    clear hL0 HST'
    rw [HKL.out]
    by_cases hp : 0 < gk
    · obtain ⟨ra', rc', er, -, -, hrd⟩ := HRR.out
      rw [HN.out] at er hrd
      obtain ⟨rfl, -, rfl⟩ := Value.slice.inj er
      obtain ⟨b, o, rfl, hb, hcell⟩ := hrd (by omega)
      have hbw : b < w2.heap.size := hb.2
      have k0 : wr.cell? ⟨b, o + q * 2, none⟩ = some (.int .i64 (rs.getD q (0, 0)).1) := (HST.out.1.cell (p := ⟨b, o + q * 2, none⟩) hbw).trans (hcell q (by omega) 0 (by omega))
      have k1 : wr.cell? ⟨b, o + q * 2 + 1, none⟩ = some (.int .i64 ((rs.getD q (0, 0)).2 : Int)) := (HST.out.1.cell (p := ⟨b, o + q * 2 + 1, none⟩) hbw).trans (hcell q (by omega) 1 (by omega))
      have HGQ := hid (HGT.out q (by omega))
      have hcc := HCC.out q (by omega)
      have HTX := hid (HTS.out q (by omega))
      have HOQ := hid (HOF.out q)
      have HKQ := hid (HKS.out q)
      have HBW := hid (HB2.out.trans (HST.out.1.mono HB2.out.size))
      clear hcell hrd er
      generalize (colsL ts).getD q Co.z = x at *
      generalize rs.getD q (0, 0) = r at *
      obtain ⟨ri, rk⟩ := r
      obtain ⟨xn, xc⟩ := x
      simp only at k0 k1 hcc
      have HB3 : Hid (Below w.heap.size w (wr.alloc (.cells #[.int .i64 ri, .int .i64 (rk : Int)] 47))) := hid (HBW.out.alloc HBW.out.size _)
      have HRX := hid (BoxN.new wr #[.int .i64 ri, .int .i64 (rk : Int)] 47)
      have HBS3 := hid ((Below.refl wr.heap.size wr).alloc (Nat.le_refl _) (.cells #[.int .i64 ri, .int .i64 (rk : Int)] 47))
      have hz3 : wr.heap.size < (wr.alloc (.cells #[.int .i64 ri, .int .i64 (rk : Int)] 47)).heap.size := by simp
      go_wp2_with fail
      with_reducible refine (HGQ.out _ HB3.out).mono ?_
      clear k0 k1
      generalize wr.alloc (.cells #[.int .i64 ri, .int .i64 (rk : Int)] 47) = W3 at *
      rintro e w4 ⟨u, rfl, hru, hb4⟩
      have HRX4 := hid (HRX.out.below hb4 hz3)
      have HBS4 := hid (HBS3.out.trans (hb4.mono (by omega)))
      have HB4 := hid (HB3.out.trans (hb4.mono HB3.out.size))
      have HVAL := hid (fun W (hW : Below w4.heap.size w4 W) => profile_Values xn xc u w4.heap.size W ((hru.more (S' := (· < w4.heap.size)) fun b hb => And.right hb).keep fun p hp => hW.cell (p := p) hp) hW.size (by omega) HTX.out)
      obtain ⟨ua, uc, rfl, -, -, -⟩ := hru
      have hz4 := hb4.size
      have HQ4 := hid (Below.refl w4.heap.size w4)
      generalize hxl : xc.length = xl at *
      have HXL := hid hxl
      clear hxl
      have HCX := hid (BoxN.new w4 #[.string xn, .slice ua xl uc] 52)
      have HRX5 := hid (HRX4.out.alloc (.cells #[.string xn, .slice ua xl uc] 52))
      have HBS5 := hid (HBS4.out.alloc (by omega) (.cells #[.string xn, .slice ua xl uc] 52))
      have HQ5 := hid (HQ4.out.alloc (Nat.le_refl _) (.cells #[.string xn, .slice ua xl uc] 52))
      have HB5 := hid (HB4.out.alloc HB4.out.size (.cells #[.string xn, .slice ua xl uc] 52))
      have hz5 : w4.heap.size < (w4.alloc (.cells #[.string xn, .slice ua xl uc] 52)).heap.size := by simp
      clear hb4
      go_wp2_with fail
      generalize w4.alloc (.cells #[.string xn, .slice ua xl uc] 52) = W5 at *
      have s0 := HRX5.out.cell 0 rfl
      have s1 := HRX5.out.cell 1 rfl
      have c0 := HCX.out.cell 0 rfl
      have c1 := HCX.out.cell 1 rfl
      have HVLEN : Hid ((valuesL xc).length ≤ 1048576) := hid (Nat.le_trans (values_len xc) (by have h1 := HXL.out; omega))
      have HST5 := hid (HST.out.2.later HBS5.out (by omega))
      have HL5 := hid (own_roll HL0.out (Roll.of_below HBS5.out 0) (Nat.le_refl _) (by omega))
      generalize valuesL xc = vals at *
      have hws5 := HBS5.out.size
      have hhb5 := HB5.out.size
      go_region_law (first
        | (go_simp; go_at_call 48; go_must (((with_reducible refine (HVAL.out _ (by have := HQ5.out; repeat' (first | (with_reducible exact Below.refl _ _) | (with_reducible assumption) | (with_reducible refine below_drewN ?_) | (with_reducible refine Below.alloc ?_ ?_ _) | (with_reducible refine Below.drew ?_) | (with_reducible refine Below.setCell ?_ ?_ _) | (with_reducible refine Below.trans ?_ (Below.mono (by with_reducible assumption) ?_)) | go_size))).mono ?_); rintro e w6 ⟨ca, cc, rfl, hown6, hb6⟩; have hb6' : Below W5.heap.size W5 w6 := (by repeat' (first | (with_reducible exact Below.refl _ _) | (with_reducible assumption) | (with_reducible refine below_drewN ?_) | (with_reducible refine Below.alloc ?_ ?_ _) | (with_reducible refine Below.drew ?_) | (with_reducible refine Below.setCell ?_ ?_ _) | (with_reducible refine Below.trans ?_ (Below.mono (by with_reducible assumption) ?_)) | go_size)); have HB6 := hid hb6'; have HOWN6 := hid hown6; have hz6 := hb6'.size; have HL6 := hid (own_roll HL5.out (Roll.of_below hb6' 0) (Nat.le_refl _) (by omega)); have HST6 := hid (HST5.out.later hb6' (by omega)); have s0' := (HRX5.out.below hb6' (by omega)).cell 0 rfl; have s1' := (HRX5.out.below hb6' (by omega)).cell 1 rfl; clear hown6 hb6 hb6')))
        | ((refine step_append_form _ rfl (.tmp 26) (.tmp 31) 94 94 rfl w2.heap.size 96 96 i0 (.agg #[.int .i64 0, .int .i64 0, .slice none 0 0]) 3 40 Tryz.underlying94 Tryz.underlying94 hi hz0 hz1 hz2 rfl (by decide) (.slice va q vc) q L0 rfl (HL6.out.alloc _) (some ⟨_, 0, none⟩) 1 1 [.int .i64 ri, .int .i64 (rk : Int), .slice ca vals.length cc] rfl rfl (fun _ => ⟨_, rfl, cell_three_at _ _ _ _ (by simp)⟩) (by intro u hu; simp at hu; rcases hu with rfl | rfl | rfl <;> rfl) (by omega) (by unfold maxLen; omega) (by omega) (by simp; omega) ?_); intro p7 cap7 w7 hown7 hg7 hat7 hlt7; have HG7 := hid hg7; have HOWN7 := hid hown7; have HAT7 := hid hat7; clear hown7 hg7 hat7))
      all_goals
        have HNEW : Hid (InS (w6.alloc (.cells #[.int .i64 ri, .int .i64 (rk : Int), .slice ca vals.length cc] 96)) (Own (w6.alloc (.cells #[.int .i64 ri, .int .i64 (rk : Int), .slice ca vals.length cc] 96)) w2.heap.size (.slice va q vc)) (.slice ca vals.length cc) vals) := hid (by
          refine (InK.keep (inS_of_own HOWN6.out) fun p hp => World.cell?_alloc_lt _ _ _ (HOWN6.out.lt _ hp).2).more fun b hb => ?_
          have h1 := HOWN6.out.lt b hb
          have h2 : W5.heap.size ≤ b := h1.1
          have h3 := h1.2
          exact ⟨by omega, by simp; omega, fun e => by have := (HL5.out.lt _ e).2; omega⟩)
        have HL8 : Hid ((w6.alloc (.cells #[.int .i64 ri, .int .i64 (rk : Int), .slice ca vals.length cc] 96)).ownsRow w2.heap.size 96 3 (.slice va q vc) (cvsK ts q).length L0) := hid (by
          rw [HKL.out]
          exact HL6.out.alloc _)
        have HST7 := hid ((HST6.out.later ((Below.refl _ _).alloc (Nat.le_refl _) (.cells #[.int .i64 ri, .int .i64 (rk : Int), .slice ca vals.length cc] 96)) (by omega)).push (x := ((ri, rk), vals)) (n := q + 1) HL8.out (by rw [HKL.out]) HOWN7.out HG7.out HAT7.out HNEW.out)
        have HB7 : Hid (Below w2.heap.size w2 w7) := hid (by
          refine (((HST.out.1.trans (HBS5.out.mono hwz)).trans (HB6.out.mono (by omega))).alloc (by omega) _).grown HG7.out (by simp; omega) (fun k hk => ?_)
          have := (HL6.out.lt k hk).1
          omega)
        clear s0 s1 c0 c1 s0' s1'
        go_wp2
        go_roundg (gk - 1)
        case rel => exact ⟨q + 1, by omega, by go_num, hid ⟨HB7.out, by rw [HKQ.out, HOQ.out]; exact HST7.out⟩⟩
        case measure => omega
    · obtain rfl : q = n := by omega
      have hb0 := HR2.out.below HST.out.1 HR2.out.lt
      have hrz := HR2.out.lt
      have HR3 := hid hb0
      clear hb0
      have HIX : Hid (Calls Tryz.prog 49 #[.slice va q vc] wr (fun e w' => ∃ ev vv lv, e = .returned (.agg #[ev, vv, lv]) ∧ RdIx w' (News wr w') ev vv lv (indexOf (cvsL ts)) ∧ Below w2.heap.size wr w')) := hid (by
        rw [HALL.out]
        have hst := HST.out.2
        have hklen := HKL.out q
        have hcok := HCOK.out
        have hcst := HCST.out
        rw [HALL.out] at hcok hcst
        rcases Nat.eq_zero_or_pos q with h0 | hp
        · subst h0
          obtain ⟨vvf, hst2⟩ := hst
          have hz := hst2.row
          rw [hklen] at hz
          have hempty : cvsK ts 0 = [] := List.eq_nil_of_length_eq_zero hklen
          rw [hempty]
          rcases hz.2 with ⟨e1, -⟩ | ⟨g, cap, cur, e1, hrest⟩
          · rw [e1]
            refine (posting_indexed_nil 0 wr).mono ?_
            rintro e w' ⟨ev, vv, lv, h1, h2, h3⟩
            exact ⟨ev, vv, lv, h1, h2, h3.mono hwz⟩
          · have hst3 : CvSt wr w2.heap.size 96 (.slice va 0 vc) (cvsK ts 0) := ⟨vvf, hst2⟩
            rw [hempty] at hst3
            rw [e1] at hst3 ⊢
            have hgl := (hz.lt g (by rw [e1]; rfl)).1
            refine (posting_indexed [] w2.heap.size g 0 cap wr rfl (by omega) hst3 (by simp) (by simp) (by simp)).mono ?_
            rintro e w' ⟨cs', ev, vv, lv, hpm, -, h1, h2, h3⟩
            rw [hpm.eq_nil] at h2
            exact ⟨ev, vv, lv, h1, h2, ⟨h3.os, h3.tape, h3.output, h3.size, fun k hk => h3.block k (Nat.lt_of_lt_of_le hk hwz) (fun e => by injection e with e; omega)⟩⟩
        · obtain ⟨L0', hL0'⟩ := hst.owns
          rw [hklen] at hL0'
          obtain ⟨g, cap, e1, hgl, -⟩ := hL0'.form hp
          rw [e1] at hst ⊢
          refine (posting_indexed (cvsK ts q) w2.heap.size g q cap wr hklen hn64 hst hcok.sets hcok.len (fun c hc s hs => hcst c hc s hs)).mono ?_
          rintro e w' ⟨cs', ev, vv, lv, hpm, hup, h1, h2, h3⟩
          have e2 : cs' = cvsK ts q := cvs_unique (up_of hup ((diff_of hcok.up).perm hpm)) hcok.up hpm
          rw [e2] at h2
          exact ⟨ev, vv, lv, h1, h2, ⟨h3.os, h3.tape, h3.output, h3.size, fun k hk => h3.block k (Nat.lt_of_lt_of_le hk hwz) (fun e => by injection e with e; omega)⟩⟩)
      go_wp2_with fail
      with_reducible refine HIX.out.mono ?_
      rintro e w5 ⟨ev, vv, lv, rfl, hrx, hb5⟩
      have hb0 := HR3.out.below hb5 hrz
      have c0 := hb0.cell 0 rfl
      have c1 := hb0.cell 1 rfl
      have c2 := hb0.cell 2 rfl
      have f0 := hb0.frozen 0
      have f1 := hb0.frozen 1
      have f2 := hb0.frozen 2
      have hbF := (((hb0.set 0 ev).set 1 vv).set 2 lv)
      have D0 := hid (hbF.cell 0 rfl)
      have D1 := hid (hbF.cell 1 rfl)
      have D2 := hid (hbF.cell 2 rfl)
      have HB9 := hid ((HB2.out.trans (HST.out.1.mono HB2.out.size)).trans (hb5.mono HB2.out.size))
      have HRXX := hid hrx
      obtain ⟨ea, ec, rfl, -⟩ := hrx.ents
      obtain ⟨va', vc', rfl, -⟩ := hrx.vals
      obtain ⟨lf, ⟨la, lc, rfl, -⟩, -⟩ := hrx.lists
      clear hb0 hbF hrx hb5
      generalize (indexOf (cvsL ts)).ents.length = n1 at *
      generalize (indexOf (cvsL ts)).vals.length = n2 at *
      generalize (indexOf (cvsL ts)).lists.length = n3 at *
      go_wp2
      have d0 := D0.out
      have d1 := D1.out
      have d2 := D2.out
      refine bodyPost_ret (v := .tuple #[.agg #[.slice ea n1 ec, .slice va' n2 vc', .slice la n3 lc], .int .i64 0]) (by simp [results, Tryz.results18, go_sem, d0, d1, d2]) rfl ⟨_, _, _, rfl, ?_, ?_⟩
      · refine (HRXX.out.keep fun p hp => ?_).more fun b hb => ⟨by have := hb.1; omega, by have := hb.2; simpa using this⟩
        have h1 := hp.1
        rw [World.cell?_setCell_other _ _ _ _ (by intro e; subst e; simp at h1; omega), World.cell?_setCell_other _ _ _ _ (by intro e; subst e; simp at h1; omega), World.cell?_setCell_other _ _ _ _ (by intro e; subst e; simp at h1; omega)]
      · have := HB9.out
        repeat' (first | (with_reducible exact Below.refl _ _) | (with_reducible assumption) | (with_reducible refine below_drewN ?_) | (with_reducible refine Below.alloc ?_ ?_ _) | (with_reducible refine Below.drew ?_) | (with_reducible refine Below.setCell ?_ ?_ _) | (with_reducible refine Below.trans ?_ (Below.mono (by with_reducible assumption) ?_)) | go_size)

end Go.Proofs.YtabemneoobbnaaaGreatDoor
