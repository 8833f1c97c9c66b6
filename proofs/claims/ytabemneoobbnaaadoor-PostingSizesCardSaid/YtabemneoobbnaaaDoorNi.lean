/- Contracts of the reference's Build of an index, and of the dice's Index. -/
import Derived.Test.YtabemneoobbnaaaDoorNh
namespace Go.Proofs.YtabemneoobbnaaaDoor
open Go.RowKit

/-- columns with their values that grow -/
def CvSt (w : World) (base : Nat) (e : TypeId) (v : Value) (cs : List Cv) : Prop :=
  ∃ vv : Nat → Value, Nest 3 w base e v cs.length (cvF cs vv) (fun i w S => InS w S (vv i) (cs.getD i Cv.z).2)
section
variable {w w' : World} {base : Nat} {e : TypeId} {v : Value} {cs : List Cv}
theorem CvSt.start (hb : base ≤ w.heap.size) : CvSt w base e (.slice none 0 0) [] := ⟨fun _ => .bool false, Nest.start hb⟩
theorem CvSt.later (h : CvSt w base e v cs) (hb : Below w.heap.size w w') (hp : 0 < base) : CvSt w' base e v cs := by
  obtain ⟨vv, h⟩ := h
  exact ⟨vv, h.below (fun i _ => keeps_s _ _) hb (Nat.le_refl _) hp⟩
theorem CvSt.owns (h : CvSt w base e v cs) : ∃ L, w.ownsRow base e 3 v cs.length L := by
  obtain ⟨vv, h⟩ := h
  exact ⟨_, h.row⟩
theorem CvSt.push (h : CvSt w base e v cs) {L : List Value} (hL : w.ownsRow base e 3 v cs.length L) {x : Cv} {u : Value} {g n cap : Nat} (hn : n = cs.length + 1)
    (hown : w'.ownsRow base e 3 (.slice (some ⟨g, 0, none⟩) n cap) n (L ++ [.int .i64 x.1.1, .int .i64 (x.1.2 : Int), u])) (hg : w.grownBy w' v.ownBlock) (hat : v.ownBlock = some g ∨ g = w.heap.size)
    (hnew : InS w (Own w base v) u x.2) : CvSt w' base e (.slice (some ⟨g, 0, none⟩) n cap) (cs ++ [x]) := by
  obtain ⟨vv, h⟩ := h
  subst hn
  have hLL := own_same hL h.row
  subst hLL
  refine ⟨fun i => if i = cs.length then u else vv i, ?_⟩
  rw [List.length_append, List.length_singleton]
  refine h.push (fun i _ => keeps_s _ _) hown hg hat ?_ (keeps_s _ _) ?_ ?_ ?_
  · simpa [List.getD] using hnew
  · intro i hi j hj
    have : i ≠ cs.length := by omega
    simp [cvF, List.getD, List.getElem?_append_left hi, this]
  · simp [cvF, List.getD, List.range_succ, three]
  · intro i hi
    have : i ≠ cs.length := by omega
    simp [List.getD, List.getElem?_append_left hi, this]
theorem CvSt.read (h : CvSt w base e v cs) : RdCv w (fun b => base ≤ b ∧ b < w.heap.size) v cs := by
  obtain ⟨vv, h⟩ := h
  exact ⟨vv, (inK_of_owns h.row).more fun b hb => h.row.lt b hb, fun i hi => InK.more (h.kids i hi) fun b hb => ⟨hb.1, hb.2.1⟩⟩
theorem CvSt.low (h : CvSt w base e v cs) : base ≤ w.heap.size := by
  obtain ⟨vv, h⟩ := h
  exact h.low
end

/-- the columns of tables with their values -/
def cvOf (ts : List Ta) (q : Nat) : Cv := ((refsL ts).getD q (0, 0), valuesL ((colsL ts).getD q Co.z).cells)
def cvsK (ts : List Ta) (k : Nat) : List Cv := (List.range k).map (cvOf ts)
def cvsL (ts : List Ta) : List Cv := cvsK ts (refsL ts).length
theorem cvsK_succ (ts : List Ta) (k : Nat) : cvsK ts (k + 1) = cvsK ts k ++ [cvOf ts k] := by simp [cvsK, List.range_succ]
theorem cvsK_len (ts : List Ta) (k : Nat) : (cvsK ts k).length = k := by simp [cvsK]
theorem refs_le {ts : List Ta} (h : ∀ t ∈ ts, t.cols.length ≤ 64) : (refsL ts).length ≤ ts.length * 64 := by
  induction ts with
  | nil => simp [refsL]
  | cons t ts ih =>
    have e1 : refsL (t :: ts) = refs1 t ++ refsL ts := rfl
    rw [e1, List.length_append, refs1_len, List.length_cons, Nat.succ_mul]
    have h1 := h t (by simp)
    have h2 := ih fun x hx => h x (by simp [hx])
    omega
theorem cvOf_len {ts : List Ta} (h : ListV ts) {q : Nat} (hq : q < (refsL ts).length) : (cvOf ts q).2.length ≤ 4096 := by
  obtain ⟨i, k, hi, hk, -, h4⟩ := refs_at ts q hq
  unfold cvOf
  simp only
  rw [h4]
  obtain ⟨n, hn, hc⟩ := (h.2.1 _ (getD_mem hi Ta.z)).2.2.2.2
  have := (hc _ (getD_mem hk Co.z)).2.1
  have := values_len ((ts.getD i Ta.z).cols.getD k Co.z).cells
  omega
theorem cvs_len {ts : List Ta} (h : ListV ts) : ∀ c ∈ cvsL ts, c.2.length ≤ 4096 := by
  intro c hc
  obtain ⟨q, hq, rfl⟩ := List.mem_map.1 hc
  exact cvOf_len h (List.mem_range.1 hq)
theorem info_cv : (Tryd.prog.info? 75).map (fun i => (i.zero, i.size, i.bytes)) = some (some (.agg #[.int .i64 0, .int .i64 0, .slice none 0 0]), 3, 40) := by kernel_rfl

def BuildP (w : World) (x : Ix) (e : Ending) (w' : World) : Prop :=
  ∃ ev vv lv, e = .returned (.tuple #[.agg #[ev, vv, lv], .int .i64 0]) ∧ RdIx w' (News w w') ev vv lv x ∧ Below w.heap.size w w'

/-- Get at the q-th reference -/
theorem ref_Get_at (v : Value) (ts : List Ta) (B q : Nat) (w : World) (h : ListV ts) (hq : q < (refsL ts).length) (hv : RdTa w (· < B) v ts) (hB : B ≤ w.heap.size) :
    Calls Tryd.prog 27 #[v, .agg #[.int .i64 ((refsL ts).getD q (0, 0)).1, .int .i64 (((refsL ts).getD q (0, 0)).2 : Int)]] w (GetP w B ((colsL ts).getD q Co.z)) := by
  obtain ⟨i, k, hi, hk, h3, h4⟩ := refs_at ts q hq
  rw [h3, h4]
  exact ref_Get v ts B i k w hi (fun j hj => by have := ids_up h.2.2 hj hi; omega) (by have := h.1; omega) hk hv hB

set_option maxRecDepth 100000 in
set_option maxHeartbeats 4000000 in
theorem ref_Build (v : Value) (ts : List Ta) (B : Nat) (w : World) (h : ListV ts) (hv : RdTa w (· < B) v ts) (hB : B ≤ w.heap.size) (hT : Tabs w) :
    Calls Tryd.prog 14 #[v] w (BuildP w (indexOf (cvsL ts))) := by
  obtain ⟨i0, hi, hz0, hz1, hz2⟩ := info_parts info_cv
  have HVL := hid (fun W (hW : Below w.heap.size w W) => ref_ValidList v ts B W h (hv.keep fun p hp => hW.cell (by have : p.block < B := hp; omega)) (by have := hW.size; omega) (hT.below hW))
  have HRF := hid (fun W (hW : Below w.heap.size w W) => ref_Refs v ts B W h (hv.keep fun p hp => hW.cell (by have : p.block < B := hp; omega)) (by have := hW.size; omega))
  have HGT := hid (fun q (hq : q < (refsL ts).length) W (hW : Below w.heap.size w W) => ref_Get_at v ts B q W h hq (hv.keep fun p hp => hW.cell (by have : p.block < B := hp; omega)) (by have := hW.size; omega))
  have HRL := hid (refs_le (ts := ts) fun t ht => (h.2.1 t ht).2.2.2.1)
  have HCL := hid (fun q hq => cvOf_len h (q := q) hq)
  have HCC := hid (fun q (hq : q < (refsL ts).length) => (show ((colsL ts).getD q Co.z).cells.length ≤ 4096 from by
    obtain ⟨i, k, hi, hk, -, h4⟩ := refs_at ts q hq
    rw [h4]
    obtain ⟨n, hn, hc⟩ := (h.2.1 _ (getD_mem hi Ta.z)).2.2.2.2
    have := (hc _ (getD_mem hk Co.z)).2.1
    omega))
  have HCS := hid (cvs_len h)
  have hl := h.1
  have HKS := hid (cvsK_succ ts)
  have HKL := hid (cvsK_len ts)
  have HALL : Hid (cvsL ts = cvsK ts (refsL ts).length) := hid rfl
  have HOF : Hid (∀ q, cvOf ts q = ((refsL ts).getD q (0, 0), valuesL ((colsL ts).getD q Co.z).cells)) := hid (fun _ => rfl)
  obtain ⟨a, c, rfl⟩ : ∃ a c, v = .slice a ts.length c := by
    obtain ⟨tv, ⟨a, c, e, -⟩, -⟩ := hv
    exact ⟨a, c, e⟩
  clear h hv hT
  generalize hrs : refsL ts = rs at *
  generalize hnn : rs.length = n at *
  have HN := hid hnn
  clear hrs hnn
  generalize ts.length = L at *
  have hn64 : n ≤ 65536 := by have := HRL.out; omega
  go_enter Tryd.func14, Tryd.ntmps14
  generalize hLA : Code.loop _ = LA
  go_wp2_with fail
  have HR0 := hid (BoxN.new w #[.slice none 0 0, .slice none 0 0, .slice none 0 0] 30)
  have HB0 := hid ((Below.refl w.heap.size w).alloc (Nat.le_refl _) (.cells #[.slice none 0 0, .slice none 0 0, .slice none 0 0] 30))
  have hz0' : (w.alloc (.cells #[.slice none 0 0, .slice none 0 0, .slice none 0 0] 30)).heap.size = w.heap.size + 1 := by simp
  with_reducible refine (HVL.out _ HB0.out).mono ?_
  generalize w.alloc (.cells #[.slice none 0 0, .slice none 0 0, .slice none 0 0] 30) = W0 at *
  rintro e w1 ⟨rfl, hb1⟩
  have HR1 := hid (HR0.out.below hb1 (by omega))
  have HB1 := hid (HB0.out.trans (hb1.mono (by omega)))
  have hz1' := hb1.size
  clear hb1
  go_wp2_with fail
  with_reducible refine (HRF.out _ HB1.out).mono ?_
  rintro e w2 ⟨ra, rc, rfl, hrr, hb2⟩
  have HR2 := hid (HR1.out.below hb2 (by omega))
  have HB2 := hid (HB1.out.trans (hb2.mono HB1.out.size))
  have HRR := hid hrr
  have hz2' := hb2.size
  rw [HN.out]
  clear hb2 hrr
  go_wp2_with fail
  subst hLA
  go_loopg [4, 16] n (fun N v i wr => ∃ q : Nat, q + N = n ∧ i = .int .i64 (q : Int) ∧ Hid (Below w2.heap.size w2 wr ∧ CvSt wr w2.heap.size 75 v (cvsK ts q)))
  case atStart => exact ⟨0, by omega, rfl, hid ⟨Below.refl _ _, CvSt.start (Nat.le_refl _)⟩⟩
  case round =>
    obtain ⟨q, hq, rfl, HST⟩ := hrel
    obtain ⟨L0, hL0⟩ := HST.out.2.owns
    obtain ⟨va, vc, rfl⟩ := own_slice hL0
    rw [HKL.out] at hL0
    have HL0 := hid hL0
    have HST' : Hid (Below w2.heap.size w2 wr ∧ CvSt wr w2.heap.size 75 (.slice va q vc) (cvsK ts q)) := hid ⟨HST.out.1, by have := HST.out.2; rw [HKL.out] at this; exact this⟩
    clear HST
    have HST := HST'
    have hwz := HST.out.1.size
    clear hL0 HST'
    rw [HKL.out]
    by_cases hp : 0 < gk
    · obtain ⟨ra', rc', er, -, -, hrd⟩ := HRR.out
      rw [HN.out] at er hrd
      obtain ⟨rfl, -, rfl⟩ := Value.slice.inj er
      obtain ⟨b, o, rfl, hb, hcell⟩ := hrd (by omega)
      have hbw : b < w2.heap.size := hb.2
      have k0 : wr.cell? ⟨b, o + q * 2, none⟩ = some (.int .i64 (rs.getD q (0, 0)).1) := (HST.out.1.cell (p := ⟨b, o + q * 2, none⟩) hbw).trans (hcell q (by omega) 0 (by omega))
      have k1 : wr.cell? ⟨b, o + q * 2 + 1, none⟩ = some (.int .i64 ((rs.getD q (0, 0)).2 : Int)) := (HST.out.1.cell (p := ⟨b, o + q * 2 + 1, none⟩) hbw).trans (hcell q (by omega) 1 (by omega))
      have HGQ := hid (HGT.out q (by omega))
      have hcc := HCC.out q (by omega)
      have HOQ := hid (HOF.out q)
      have HKQ := hid (HKS.out q)
      have HBW := hid (HB2.out.trans (HST.out.1.mono HB2.out.size))
      clear hcell hrd er
      generalize (colsL ts).getD q Co.z = x at *
      generalize rs.getD q (0, 0) = r at *
      obtain ⟨ri, rk⟩ := r
      obtain ⟨xn, xc⟩ := x
      simp only at k0 k1 hcc
      have HB3 : Hid (Below w.heap.size w (wr.alloc (.cells #[.int .i64 ri, .int .i64 (rk : Int)] 35))) := hid (HBW.out.alloc HBW.out.size _)
      have HRX := hid (BoxN.new wr #[.int .i64 ri, .int .i64 (rk : Int)] 35)
      have HBS3 := hid ((Below.refl wr.heap.size wr).alloc (Nat.le_refl _) (.cells #[.int .i64 ri, .int .i64 (rk : Int)] 35))
      have hz3 : wr.heap.size < (wr.alloc (.cells #[.int .i64 ri, .int .i64 (rk : Int)] 35)).heap.size := by simp
      go_wp2_with fail
      with_reducible refine (HGQ.out _ HB3.out).mono ?_
      clear k0 k1
      generalize wr.alloc (.cells #[.int .i64 ri, .int .i64 (rk : Int)] 35) = W3 at *
      rintro e w4 ⟨u, rfl, hru, hb4⟩
      have HRX4 := hid (HRX.out.below hb4 hz3)
      have HBS4 := hid (HBS3.out.trans (hb4.mono (by omega)))
      have HB4 := hid (HB3.out.trans (hb4.mono HB3.out.size))
      have HVAL := hid (fun W (hW : Below W3.heap.size W3 W) => ref_Values xn xc u B W (hru.keep fun p (hp : p.block < B) => hW.cell (p := p) (by omega)) (by have := hW.size; omega) (by omega))
      obtain ⟨ua, uc, rfl, -, -, -⟩ := hru
      have hz4 := hb4.size
      have HQ4 := hid hb4
      generalize hxl : xc.length = xl at *
      have HXL := hid hxl
      clear hxl
      have HCX := hid (BoxN.new w4 #[.string xn, .slice ua xl uc] 70)
      have HRX5 := hid (HRX4.out.alloc (.cells #[.string xn, .slice ua xl uc] 70))
      have HBS5 := hid (HBS4.out.alloc (by omega) (.cells #[.string xn, .slice ua xl uc] 70))
      have HQ5 := hid (HQ4.out.alloc hz4 (.cells #[.string xn, .slice ua xl uc] 70))
      have HB5 := hid (HB4.out.alloc HB4.out.size (.cells #[.string xn, .slice ua xl uc] 70))
      have hz5 : w4.heap.size < (w4.alloc (.cells #[.string xn, .slice ua xl uc] 70)).heap.size := by simp
      clear hb4
      go_wp2_with fail
      generalize w4.alloc (.cells #[.string xn, .slice ua xl uc] 70) = W5 at *
      have s0 := HRX5.out.cell 0 rfl
      have s1 := HRX5.out.cell 1 rfl
      have c0 := HCX.out.cell 0 rfl
      have c1 := HCX.out.cell 1 rfl
      have HVLEN : Hid ((valuesL xc).length ≤ 1048576) := hid (Nat.le_trans (values_len xc) (by have h1 := HXL.out; omega))
      have HST5 := hid (HST.out.2.later HBS5.out (by omega))
      have HL5 := hid (own_roll HL0.out (Roll.of_below HBS5.out 0) (Nat.le_refl _) (by omega))
      generalize valuesL xc = vals at *
      have hws5 := HBS5.out.size
      have hhb5 := HB5.out.size
      go_region_law (first
        | (go_simp; go_at_call 28; go_must (((with_reducible refine (HVAL.out _ (by have := HQ5.out; repeat' (first | (with_reducible exact Below.refl _ _) | (with_reducible assumption) | (with_reducible refine below_drewN ?_) | (with_reducible refine Below.alloc ?_ ?_ _) | (with_reducible refine Below.drew ?_) | (with_reducible refine Below.setCell ?_ ?_ _) | (with_reducible refine Below.trans ?_ (Below.mono (by with_reducible assumption) ?_)) | go_size))).mono ?_); rintro e w6 ⟨ca, cc, rfl, hown6, hb6⟩; have hb6' : Below W5.heap.size W5 w6 := (by repeat' (first | (with_reducible exact Below.refl _ _) | (with_reducible assumption) | (with_reducible refine below_drewN ?_) | (with_reducible refine Below.alloc ?_ ?_ _) | (with_reducible refine Below.drew ?_) | (with_reducible refine Below.setCell ?_ ?_ _) | (with_reducible refine Below.trans ?_ (Below.mono (by with_reducible assumption) ?_)) | go_size)); have HB6 := hid hb6'; have HOWN6 := hid hown6; have hz6 := hb6'.size; have HL6 := hid (own_roll HL5.out (Roll.of_below hb6' 0) (Nat.le_refl _) (by omega)); have HST6 := hid (HST5.out.later hb6' (by omega)); have s0' := (HRX5.out.below hb6' (by omega)).cell 0 rfl; have s1' := (HRX5.out.below hb6' (by omega)).cell 1 rfl; clear hown6 hb6 hb6')))
        | ((refine step_append_form _ rfl (.tmp 26) (.tmp 31) 65 65 rfl w2.heap.size 75 75 i0 (.agg #[.int .i64 0, .int .i64 0, .slice none 0 0]) 3 40 Tryd.underlying65 Tryd.underlying65 hi hz0 hz1 hz2 rfl (by decide) (.slice va q vc) q L0 rfl (HL6.out.alloc _) (some ⟨_, 0, none⟩) 1 1 [.int .i64 ri, .int .i64 (rk : Int), .slice ca vals.length cc] rfl rfl (fun _ => ⟨_, rfl, cell_three_at _ _ _ _ (by simp)⟩) (by intro u hu; simp at hu; rcases hu with rfl | rfl | rfl <;> rfl) (by omega) (by unfold maxLen; omega) (by omega) (by simp; omega) ?_); intro p7 cap7 w7 hown7 hg7 hat7 hlt7; have HG7 := hid hg7; have HOWN7 := hid hown7; have HAT7 := hid hat7; clear hown7 hg7 hat7))
      all_goals
        have HNEW : Hid (InS (w6.alloc (.cells #[.int .i64 ri, .int .i64 (rk : Int), .slice ca vals.length cc] 75)) (Own (w6.alloc (.cells #[.int .i64 ri, .int .i64 (rk : Int), .slice ca vals.length cc] 75)) w2.heap.size (.slice va q vc)) (.slice ca vals.length cc) vals) := hid (by
          refine (InK.keep (inS_of_own HOWN6.out) fun p hp => World.cell?_alloc_lt _ _ _ (HOWN6.out.lt _ hp).2).more fun b hb => ?_
          have h1 := HOWN6.out.lt b hb
          have h2 : W5.heap.size ≤ b := h1.1
          have h3 := h1.2
          exact ⟨by omega, by simp; omega, fun e => by have := (HL5.out.lt _ e).2; omega⟩)
        have HL8 : Hid ((w6.alloc (.cells #[.int .i64 ri, .int .i64 (rk : Int), .slice ca vals.length cc] 75)).ownsRow w2.heap.size 75 3 (.slice va q vc) (cvsK ts q).length L0) := hid (by
          rw [HKL.out]
          exact HL6.out.alloc _)
        have HST7 := hid ((HST6.out.later ((Below.refl _ _).alloc (Nat.le_refl _) (.cells #[.int .i64 ri, .int .i64 (rk : Int), .slice ca vals.length cc] 75)) (by omega)).push (x := ((ri, rk), vals)) (n := q + 1) HL8.out (by rw [HKL.out]) HOWN7.out HG7.out HAT7.out HNEW.out)
        have HB7 : Hid (Below w2.heap.size w2 w7) := hid (by
          refine (((HST.out.1.trans (HBS5.out.mono hwz)).trans (HB6.out.mono (by omega))).alloc (by omega) _).grown HG7.out (by simp; omega) (fun k hk => ?_)
          have := (HL6.out.lt k hk).1
          omega)
        clear s0 s1 c0 c1 s0' s1'
        go_wp2
        go_roundg (gk - 1)
        case rel => exact ⟨q + 1, by omega, by go_num, hid ⟨HB7.out, by rw [HKQ.out, HOQ.out]; exact HST7.out⟩⟩
        case measure => omega
    · obtain rfl : q = n := by omega
      have HRX := hid (RdCv.more (HST.out.2.read) (fun b hb => hb.2))
      have HIX := hid (ref_index _ _ _ wr HRX.out (Nat.le_refl _) (by rw [HKL.out]; exact hn64) (by rw [← HALL.out]; exact HCS.out))
      rw [← HALL.out] at HIX
      have hb0 := HR2.out.below HST.out.1 HR2.out.lt
      have hrz := HR2.out.lt
      have HR3 := hid hb0
      clear hb0
      go_wp2_with fail
      with_reducible refine HIX.out.mono ?_
      rintro e w5 ⟨ev, vv, lv, rfl, hrx, hb5⟩
      have hb0 := HR3.out.below hb5 HR3.out.lt
      have c0 := hb0.cell 0 rfl
      have c1 := hb0.cell 1 rfl
      have c2 := hb0.cell 2 rfl
      have f0 := hb0.frozen 0
      have f1 := hb0.frozen 1
      have f2 := hb0.frozen 2
      have hbF := (((hb0.set 0 ev).set 1 vv).set 2 lv)
      have D0 := hid (hbF.cell 0 rfl)
      have D1 := hid (hbF.cell 1 rfl)
      have D2 := hid (hbF.cell 2 rfl)
      have HB9 := hid ((HB2.out.trans (HST.out.1.mono HB2.out.size)).trans (hb5.mono (by omega)))
      have HRXX := hid hrx
      obtain ⟨ea, ec, rfl, -⟩ := hrx.ents
      obtain ⟨va', vc', rfl, -⟩ := hrx.vals
      obtain ⟨lf, ⟨la, lc, rfl, -⟩, -⟩ := hrx.lists
      clear hb0 hbF hrx hb5
      generalize (indexOf (cvsL ts)).ents.length = n1 at *
      generalize (indexOf (cvsL ts)).vals.length = n2 at *
      generalize (indexOf (cvsL ts)).lists.length = n3 at *
      go_wp2
      have d0 := D0.out
      have d1 := D1.out
      have d2 := D2.out
      refine bodyPost_ret (v := .tuple #[.agg #[.slice ea n1 ec, .slice va' n2 vc', .slice la n3 lc], .int .i64 0]) (by simp [results, Tryd.results14, go_sem, d0, d1, d2]) rfl ⟨_, _, _, rfl, ?_, ?_⟩
      · refine (HRXX.out.keep fun p hp => ?_).more fun b hb => ⟨by have := hb.1; omega, by have := hb.2; simpa using this⟩
        have h1 := hp.1
        rw [World.cell?_setCell_other _ _ _ _ (by intro e; subst e; simp at h1; omega), World.cell?_setCell_other _ _ _ _ (by intro e; subst e; simp at h1; omega), World.cell?_setCell_other _ _ _ _ (by intro e; subst e; simp at h1; omega)]
      · have := HB9.out
        repeat' (first | (with_reducible exact Below.refl _ _) | (with_reducible assumption) | (with_reducible refine below_drewN ?_) | (with_reducible refine Below.alloc ?_ ?_ _) | (with_reducible refine Below.drew ?_) | (with_reducible refine Below.setCell ?_ ?_ _) | (with_reducible refine Below.trans ?_ (Below.mono (by with_reducible assumption) ?_)) | go_size)

end Go.Proofs.YtabemneoobbnaaaDoor
