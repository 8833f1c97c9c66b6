/- Contract of signature.sets: all columns of valid tables with their values. -/
import Derived.Test.YtabemneoobbnaaaGreatDoorQf
import Derived.Test.YtabemneoobbnaaaGreatDoorKf
import Derived.Test.YtabemneoobbnaaaGreatDoorNi
namespace Go.Proofs.YtabemneoobbnaaaGreatDoor
open Go.RowKit Go.Shelf

theorem cvsL_strR {ts : List Ta} (h : ListV ts) : ∀ c ∈ cvsL ts, ∀ s ∈ c.2, s.size ≤ maxLen := by
  intro c hc s hs
  obtain ⟨q, hq, rfl⟩ := List.mem_map.1 hc
  obtain ⟨i, k, hi, hk, -, h4⟩ := refs_at ts q (List.mem_range.1 hq)
  unfold cvOf at hs
  simp only at hs
  rw [h4] at hs
  obtain ⟨n, hn, hcs⟩ := (h.2.1 _ (getD_mem hi Ta.z)).2.2.2.2
  unfold valuesL at hs
  rw [setOfL_mem_iff] at hs
  unfold textsL at hs
  obtain ⟨cl, hcl, rfl⟩ := List.mem_map.1 hs
  have := ((hcs _ (getD_mem hk Co.z)).2.2 cl (List.mem_filter.1 hcl).1).2.1
  unfold maxLen
  omega

theorem table_Get_atR (v : Value) (ts : List Ta) (B q : Nat) (w : World) (h : ListV ts) (hq : q < (refsL ts).length) (hv : RdTa w (· < B) v ts) (hB : B ≤ w.heap.size) :
    Calls Tryz.prog 47 #[v, .agg #[.int .i64 ((refsL ts).getD q (0, 0)).1, .int .i64 (((refsL ts).getD q (0, 0)).2 : Int)]] w (GetN w ((colsL ts).getD q Co.z)) := by
  obtain ⟨i, k, hi, hk, h3, h4⟩ := refs_at ts q hq
  have hlen : ((ts.getD i Ta.z).cols.getD k Co.z).cells.length ≤ 1048576 := by
    obtain ⟨n, hn, hc⟩ := (h.2.1 _ (getD_mem hi Ta.z)).2.2.2.2
    have := (hc _ (getD_mem hk Co.z)).2.1
    omega
  rw [h3, h4]
  exact table_Get v ts B i k w hi (fun j hj => by have := ids_up h.2.2 hj hi; omega) (by have := h.1; omega) hk hv hB hlen


theorem cvsL_lenR (ts : List Ta) : (cvsL ts).length = (refsL ts).length := by simp [cvsL, cvsK]
theorem CvSt.baseR {w : World} {base base' : Nat} {e : TypeId} {v : Value} {cs : List Cv} (h : CvSt w base e v cs) (hb : base' ≤ base) : CvSt w base' e v cs := by
  obtain ⟨vv, h⟩ := h
  exact ⟨vv, own_base h.row hb, Nat.le_trans hb h.low, fun i hi => InK.more (h.kids i hi) fun b hb' => ⟨Nat.le_trans hb hb'.1, hb'.2.1, hb'.2.2⟩⟩
/-- what all columns of valid tables have -/
structure ColsV (cs : List Cv) : Prop where
  sets : ∀ c ∈ cs, Asc c.2
  len : ∀ c ∈ cs, c.2.length ≤ 4096
  str : ∀ c ∈ cs, ∀ s ∈ c.2, s.size ≤ maxLen
  many : cs.length ≤ 65536
theorem colsV_of {ts : List Ta} (h : ListV ts) : ColsV (cvsL ts) := by
  refine ⟨fun c hc => ?_, cvs_len h, cvsL_strR h, ?_⟩
  · obtain ⟨q, -, rfl⟩ := List.mem_map.1 hc
    exact setOfL_asc _
  · rw [cvsL_lenR]
    have h1 := refs_le (ts := ts) fun t ht => (h.2.1 t ht).2.2.2.1
    have := h.1
    omega
theorem info_sset : (Tryz.prog.info? 145).map (fun i => (i.zero, i.size, i.bytes)) = some (some (.agg #[.int .i64 0, .int .i64 0, .slice none 0 0]), 3, 40) := by kernel_rfl
def SetsP (w : World) (cs : List Cv) (e : Ending) (w' : World) : Prop := ∃ a c, e = .returned (.slice a cs.length c) ∧ CvSt w' w.heap.size 145 (.slice a cs.length c) cs ∧ Below w.heap.size w w'

set_option maxRecDepth 100000 in
set_option maxHeartbeats 4000000 in
theorem sig_sets (v : Value) (ts : List Ta) (B : Nat) (w : World) (h : ListV ts) (hv : RdTa w (· < B) v ts) (hB : B ≤ w.heap.size) :
    Calls Tryz.prog 57 #[v] w (SetsP w (cvsL ts)) := by
  obtain ⟨i0, hi, hz0, hz1, hz2⟩ := info_parts info_sset
  have HRF := hid (fun W (hW : Below w.heap.size w W) => table_Refs v ts B W h (hv.keep fun p hp => hW.cell (by have : p.block < B := hp; omega)) (by have := hW.size; omega))
  have HGT := hid (fun q (hq : q < (refsL ts).length) W (hW : Below w.heap.size w W) => table_Get_atR v ts B q W h hq (hv.keep fun p hp => hW.cell (by have : p.block < B := hp; omega)) (by have := hW.size; omega))
  have HRL := hid (refs_le (ts := ts) fun t ht => (h.2.1 t ht).2.2.2.1)
  have HCL := hid (fun q hq => cvOf_len h (q := q) hq)
  have HCC := hid (fun q (hq : q < (refsL ts).length) => (show ((colsL ts).getD q Co.z).cells.length ≤ 4096 from by
    obtain ⟨i, k, hi, hk, -, h4⟩ := refs_at ts q hq
    rw [h4]
    obtain ⟨n, hn, hc⟩ := (h.2.1 _ (getD_mem hi Ta.z)).2.2.2.2
    have := (hc _ (getD_mem hk Co.z)).2.1
    omega))
  have HTS := hid (fun q (hq : q < (refsL ts).length) => (show ∀ c ∈ ((colsL ts).getD q Co.z).cells, c.text.size ≤ maxLen from by
    obtain ⟨i, k, hi, hk, -, h4⟩ := refs_at ts q hq
    rw [h4]
    obtain ⟨n, hn, hc⟩ := (h.2.1 _ (getD_mem hi Ta.z)).2.2.2.2
    intro c hcc
    have := ((hc _ (getD_mem hk Co.z)).2.2 c hcc).2.1
    unfold maxLen
    omega))
  have hl := h.1
  have HKS := hid (cvsK_succ ts)
  have HKL := hid (cvsK_len ts)
  have HALL : Hid (cvsL ts = cvsK ts (refsL ts).length) := hid rfl
  have HOF : Hid (∀ q, cvOf ts q = ((refsL ts).getD q (0, 0), valuesL ((colsL ts).getD q Co.z).cells)) := hid (fun _ => rfl)
  obtain ⟨a, c, rfl⟩ : ∃ a c, v = .slice a ts.length c := by
    obtain ⟨tv, ⟨a, c, e, -⟩, -⟩ := hv
    exact ⟨a, c, e⟩
  clear h hv
  generalize hrs : refsL ts = rs at *
  generalize hnn : rs.length = n at *
  have HN := hid hnn
  clear hrs hnn
  generalize ts.length = L at *
  have hn64 : n ≤ 65536 := by have := HRL.out; omega
  have HB1 := hid (Below.refl w.heap.size w)
  go_enter Tryz.func57, Tryz.ntmps57
  generalize hLA : Code.loop _ = LA
  go_wp2_with fail
  with_reducible refine (HRF.out _ HB1.out).mono ?_
  rintro e w2 ⟨ra, rc, rfl, hrr, hb2⟩
  have HB2 := hid (HB1.out.trans (hb2.mono HB1.out.size))
  have HRR := hid hrr
  have hz2' := hb2.size
  rw [HN.out]
  clear hb2 hrr
  go_wp2_with fail
  subst hLA
  go_loopg [3, 11] n (fun N v i wr => ∃ q : Nat, q + N = n ∧ i = .int .i64 (q : Int) ∧ Hid (Below w2.heap.size w2 wr ∧ CvSt wr w2.heap.size 145 v (cvsK ts q)))
  case atStart => exact ⟨0, by omega, rfl, hid ⟨Below.refl _ _, CvSt.start (Nat.le_refl _)⟩⟩
  case round =>
    obtain ⟨q, hq, rfl, HST⟩ := hrel
    obtain ⟨L0, hL0⟩ := HST.out.2.owns
    obtain ⟨va, vc, rfl⟩ := own_slice hL0
    rw [HKL.out] at hL0
    have HL0 := hid hL0
    have HST' : Hid (Below w2.heap.size w2 wr ∧ CvSt wr w2.heap.size 145 (.slice va q vc) (cvsK ts q)) := hid ⟨HST.out.1, by have := HST.out.2; rw [HKL.out] at this; exact this⟩
    clear HST
    have HST := HST'
    have hwz := HST.out.1.size
    clear hL0 HST'
    rw [HKL.out]
    by_cases hp : 0 < gk
    · obtain ⟨ra', rc', er, -, -, hrd⟩ := HRR.out
      rw [HN.out] at er hrd
      obtain ⟨rfl, -, rfl⟩ := Value.slice.inj er
      obtain ⟨b, o, rfl, hb, hcell⟩ := hrd (by omega)
      have hbw : b < w2.heap.size := hb.2
      have k0 : wr.cell? ⟨b, o + q * 2, none⟩ = some (.int .i64 (rs.getD q (0, 0)).1) := (HST.out.1.cell (p := ⟨b, o + q * 2, none⟩) hbw).trans (hcell q (by omega) 0 (by omega))
      have k1 : wr.cell? ⟨b, o + q * 2 + 1, none⟩ = some (.int .i64 ((rs.getD q (0, 0)).2 : Int)) := (HST.out.1.cell (p := ⟨b, o + q * 2 + 1, none⟩) hbw).trans (hcell q (by omega) 1 (by omega))
      have HGQ := hid (HGT.out q (by omega))
      have hcc := HCC.out q (by omega)
      have HTX := hid (HTS.out q (by omega))
      have HOQ := hid (HOF.out q)
      have HKQ := hid (HKS.out q)
      have HBW := hid (HB2.out.trans (HST.out.1.mono HB2.out.size))
      clear hcell hrd er
      generalize (colsL ts).getD q Co.z = x at *
      generalize rs.getD q (0, 0) = r at *
      obtain ⟨ri, rk⟩ := r
      obtain ⟨xn, xc⟩ := x
      simp only at k0 k1 hcc
      have HB3 : Hid (Below w.heap.size w (wr.alloc (.cells #[.int .i64 ri, .int .i64 (rk : Int)] 47))) := hid (HBW.out.alloc HBW.out.size _)
      have HRX := hid (BoxN.new wr #[.int .i64 ri, .int .i64 (rk : Int)] 47)
      have HBS3 := hid ((Below.refl wr.heap.size wr).alloc (Nat.le_refl _) (.cells #[.int .i64 ri, .int .i64 (rk : Int)] 47))
      have hz3 : wr.heap.size < (wr.alloc (.cells #[.int .i64 ri, .int .i64 (rk : Int)] 47)).heap.size := by simp
      go_wp2_with fail
      with_reducible refine (HGQ.out _ HB3.out).mono ?_
      clear k0 k1
      generalize wr.alloc (.cells #[.int .i64 ri, .int .i64 (rk : Int)] 47) = W3 at *
      rintro e w4 ⟨u, rfl, hru, hb4⟩
      have HRX4 := hid (HRX.out.below hb4 hz3)
      have HBS4 := hid (HBS3.out.trans (hb4.mono (by omega)))
      have HB4 := hid (HB3.out.trans (hb4.mono HB3.out.size))
      have HVAL := hid (fun W (hW : Below w4.heap.size w4 W) => profile_Values xn xc u w4.heap.size W ((hru.more (S' := (· < w4.heap.size)) fun b hb => And.right hb).keep fun p hp => hW.cell (p := p) hp) hW.size (by omega) HTX.out)
      obtain ⟨ua, uc, rfl, -, -, -⟩ := hru
      have hz4 := hb4.size
      have HQ4 := hid (Below.refl w4.heap.size w4)
      generalize hxl : xc.length = xl at *
      have HXL := hid hxl
      clear hxl
      have HCX := hid (BoxN.new w4 #[.string xn, .slice ua xl uc] 52)
      have HRX5 := hid (HRX4.out.alloc (.cells #[.string xn, .slice ua xl uc] 52))
      have HBS5 := hid (HBS4.out.alloc (by omega) (.cells #[.string xn, .slice ua xl uc] 52))
      have HQ5 := hid (HQ4.out.alloc (Nat.le_refl _) (.cells #[.string xn, .slice ua xl uc] 52))
      have HB5 := hid (HB4.out.alloc HB4.out.size (.cells #[.string xn, .slice ua xl uc] 52))
      have hz5 : w4.heap.size < (w4.alloc (.cells #[.string xn, .slice ua xl uc] 52)).heap.size := by simp
      clear hb4
      go_wp2_with fail
      generalize w4.alloc (.cells #[.string xn, .slice ua xl uc] 52) = W5 at *
      have s0 := HRX5.out.cell 0 rfl
      have s1 := HRX5.out.cell 1 rfl
      have c0 := HCX.out.cell 0 rfl
      have c1 := HCX.out.cell 1 rfl
      have HVLEN : Hid ((valuesL xc).length ≤ 1048576) := hid (Nat.le_trans (values_len xc) (by have h1 := HXL.out; omega))
      have HST5 := hid (HST.out.2.later HBS5.out (by omega))
      have HL5 := hid (own_roll HL0.out (Roll.of_below HBS5.out 0) (Nat.le_refl _) (by omega))
      generalize valuesL xc = vals at *
      have hws5 := HBS5.out.size
      have hhb5 := HB5.out.size
      go_region_law (first
        | (go_simp; go_at_call 48; go_must (((with_reducible refine (HVAL.out _ (by have := HQ5.out; repeat' (first | (with_reducible exact Below.refl _ _) | (with_reducible assumption) | (with_reducible refine below_drewN ?_) | (with_reducible refine Below.alloc ?_ ?_ _) | (with_reducible refine Below.drew ?_) | (with_reducible refine Below.setCell ?_ ?_ _) | (with_reducible refine Below.trans ?_ (Below.mono (by with_reducible assumption) ?_)) | go_size))).mono ?_); rintro e w6 ⟨ca, cc, rfl, hown6, hb6⟩; have hb6' : Below W5.heap.size W5 w6 := (by repeat' (first | (with_reducible exact Below.refl _ _) | (with_reducible assumption) | (with_reducible refine below_drewN ?_) | (with_reducible refine Below.alloc ?_ ?_ _) | (with_reducible refine Below.drew ?_) | (with_reducible refine Below.setCell ?_ ?_ _) | (with_reducible refine Below.trans ?_ (Below.mono (by with_reducible assumption) ?_)) | go_size)); have HB6 := hid hb6'; have HOWN6 := hid hown6; have hz6 := hb6'.size; have HL6 := hid (own_roll HL5.out (Roll.of_below hb6' 0) (Nat.le_refl _) (by omega)); have HST6 := hid (HST5.out.later hb6' (by omega)); have s0' := (HRX5.out.below hb6' (by omega)).cell 0 rfl; have s1' := (HRX5.out.below hb6' (by omega)).cell 1 rfl; clear hown6 hb6 hb6')))
        | ((refine step_append_form _ rfl (.tmp 21) (.tmp 26) 105 105 rfl w2.heap.size 145 145 i0 (.agg #[.int .i64 0, .int .i64 0, .slice none 0 0]) 3 40 Tryz.underlying105 Tryz.underlying105 hi hz0 hz1 hz2 rfl (by decide) (.slice va q vc) q L0 rfl (HL6.out.alloc _) (some ⟨_, 0, none⟩) 1 1 [.int .i64 ri, .int .i64 (rk : Int), .slice ca vals.length cc] rfl rfl (fun _ => ⟨_, rfl, cell_three_at _ _ _ _ (by simp)⟩) (by intro u hu; simp at hu; rcases hu with rfl | rfl | rfl <;> rfl) (by omega) (by unfold maxLen; omega) (by omega) (by simp; omega) ?_); intro p7 cap7 w7 hown7 hg7 hat7 hlt7; have HG7 := hid hg7; have HOWN7 := hid hown7; have HAT7 := hid hat7; clear hown7 hg7 hat7))
      all_goals
        have HNEW : Hid (InS (w6.alloc (.cells #[.int .i64 ri, .int .i64 (rk : Int), .slice ca vals.length cc] 145)) (Own (w6.alloc (.cells #[.int .i64 ri, .int .i64 (rk : Int), .slice ca vals.length cc] 145)) w2.heap.size (.slice va q vc)) (.slice ca vals.length cc) vals) := hid (by
          refine (InK.keep (inS_of_own HOWN6.out) fun p hp => World.cell?_alloc_lt _ _ _ (HOWN6.out.lt _ hp).2).more fun b hb => ?_
          have h1 := HOWN6.out.lt b hb
          have h2 : W5.heap.size ≤ b := h1.1
          have h3 := h1.2
          exact ⟨by omega, by simp; omega, fun e => by have := (HL5.out.lt _ e).2; omega⟩)
        have HL8 : Hid ((w6.alloc (.cells #[.int .i64 ri, .int .i64 (rk : Int), .slice ca vals.length cc] 145)).ownsRow w2.heap.size 145 3 (.slice va q vc) (cvsK ts q).length L0) := hid (by
          rw [HKL.out]
          exact HL6.out.alloc _)
        have HST7 := hid ((HST6.out.later ((Below.refl _ _).alloc (Nat.le_refl _) (.cells #[.int .i64 ri, .int .i64 (rk : Int), .slice ca vals.length cc] 145)) (by omega)).push (x := ((ri, rk), vals)) (n := q + 1) HL8.out (by rw [HKL.out]) HOWN7.out HG7.out HAT7.out HNEW.out)
        have HB7 : Hid (Below w2.heap.size w2 w7) := hid (by
          refine (((HST.out.1.trans (HBS5.out.mono hwz)).trans (HB6.out.mono (by omega))).alloc (by omega) _).grown HG7.out (by simp; omega) (fun k hk => ?_)
          have := (HL6.out.lt k hk).1
          omega)
        clear s0 s1 c0 c1 s0' s1'
        go_wp2
        go_roundg (gk - 1)
        case rel => exact ⟨q + 1, by omega, by go_num, hid ⟨HB7.out, by rw [HKQ.out, HOQ.out]; exact HST7.out⟩⟩
        case measure => omega
    · obtain rfl : q = n := by omega
      have HF : Hid (SetsP w (cvsL ts) (.returned (.slice va q vc)) wr) := hid (by
        rw [HALL.out]
        exact ⟨va, vc, by rw [HKL.out], by rw [HKL.out]; exact HST.out.2.baseR hz2', HB2.out.trans (HST.out.1.mono HB2.out.size)⟩)
      go_wp2
      go_ret
      exact HF.out

end Go.Proofs.YtabemneoobbnaaaGreatDoor
