/- Contracts of the reference's Build of an index, and of the dice's Index. Plain: columns by their sizes. No program in sight. Contracts of the dice's Index, and of posting.Sizes. Contracts of the order of references: cmp.Compare, cmp.Or, table.Less. Contracts of the order of references: cmp.Compare, cmp.Or, table.Less, posting.named. Plain: a sorted list of texts without repetitions is the set of its texts; two sets with the same texts are one. No program in sight. -/
import Derived.Test.YtikiimlmoalbcaaGreatDoorOOtah
import Derived.Test.YtikiimlmoalbcaaGreatDoorOOtaa
import Derived.Deep.RegionHeld3
import Derived.Test.YtikiimlmoalbcaaGreatDoorProg
import Derived.Test.YtikiimlmoalbcaaGreatDoorOOtac
import Derived.Lib.SlicesCompact
import Derived.Sort.EncStr
import Derived.Sort.Walk0
set_option linter.unusedVariables false
set_option linter.unusedSimpArgs false
namespace Go.Proofs.YtikiimlmoalbcaaGreatDoor
open Go.RowKit
def CvSt (w : World) (base : Nat) (e : TypeId) (v : Value) (cs : List Cv) : Prop :=
  ∃ vv : Nat → Value, Nest 3 w base e v cs.length (cvF cs vv) (fun i w S => InS w S (vv i) (cs.getD i Cv.z).2)
section
variable {w w' : World} {base : Nat} {e : TypeId} {v : Value} {cs : List Cv}
theorem CvSt.start (hb : base ≤ w.heap.size) : CvSt w base e (.slice none 0 0) [] := ⟨fun _ => .bool false, Nest.start hb⟩
theorem CvSt.later (h : CvSt w base e v cs) (hb : Below w.heap.size w w') (hp : 0 < base) : CvSt w' base e v cs := by
  obtain ⟨vv, h⟩ := h
  exact ⟨vv, h.below (fun i _ => keeps_s _ _) hb (Nat.le_refl _) hp⟩
theorem CvSt.owns (h : CvSt w base e v cs) : ∃ L, w.ownsRow base e 3 v cs.length L := by
  obtain ⟨vv, h⟩ := h
  exact ⟨_, h.row⟩
theorem CvSt.push (h : CvSt w base e v cs) {L : List Value} (hL : w.ownsRow base e 3 v cs.length L) {x : Cv} {u : Value} {g n cap : Nat} (hn : n = cs.length + 1)
    (hown : w'.ownsRow base e 3 (.slice (some ⟨g, 0, none⟩) n cap) n (L ++ [.int .i64 x.1.1, .int .i64 (x.1.2 : Int), u])) (hg : w.grownBy w' v.ownBlock) (hat : v.ownBlock = some g ∨ g = w.heap.size)
    (hnew : InS w (Own w base v) u x.2) : CvSt w' base e (.slice (some ⟨g, 0, none⟩) n cap) (cs ++ [x]) := by
  obtain ⟨vv, h⟩ := h
  subst hn
  have hLL := own_same hL h.row
  subst hLL
  refine ⟨fun i => if i = cs.length then u else vv i, ?_⟩
  rw [List.length_append, List.length_singleton]
  refine h.push (fun i _ => keeps_s _ _) hown hg hat ?_ (keeps_s _ _) ?_ ?_ ?_
  · simpa [List.getD] using hnew
  · intro i hi j hj
    have : i ≠ cs.length := by omega
    simp [cvF, List.getD, List.getElem?_append_left hi, this]
  · simp [cvF, List.getD, List.range_succ, three]
  · intro i hi
    have : i ≠ cs.length := by omega
    simp [List.getD, List.getElem?_append_left hi, this]
theorem CvSt.read (h : CvSt w base e v cs) : RdCv w (fun b => base ≤ b ∧ b < w.heap.size) v cs := by
  obtain ⟨vv, h⟩ := h
  exact ⟨vv, (inK_of_owns h.row).more fun b hb => h.row.lt b hb, fun i hi => InK.more (h.kids i hi) fun b hb => ⟨hb.1, hb.2.1⟩⟩
theorem CvSt.low (h : CvSt w base e v cs) : base ≤ w.heap.size := by
  obtain ⟨vv, h⟩ := h
  exact h.low
end
def cvOf (ts : List Ta) (q : Nat) : Cv := ((refsL ts).getD q (0, 0), valuesL ((colsL ts).getD q Co.z).cells)
def cvsK (ts : List Ta) (k : Nat) : List Cv := (List.range k).map (cvOf ts)
def cvsL (ts : List Ta) : List Cv := cvsK ts (refsL ts).length
theorem cvsK_succ (ts : List Ta) (k : Nat) : cvsK ts (k + 1) = cvsK ts k ++ [cvOf ts k] := by simp [cvsK, List.range_succ]
theorem cvsK_len (ts : List Ta) (k : Nat) : (cvsK ts k).length = k := by simp [cvsK]
theorem refs_le {ts : List Ta} (h : ∀ t ∈ ts, t.cols.length ≤ 64) : (refsL ts).length ≤ ts.length * 64 := by
  induction ts with
  | nil => simp [refsL]
  | cons t ts ih =>
    have e1 : refsL (t :: ts) = refs1 t ++ refsL ts := rfl
    rw [e1, List.length_append, refs1_len, List.length_cons, Nat.succ_mul]
    have h1 := h t (by simp)
    have h2 := ih fun x hx => h x (by simp [hx])
    omega
theorem cvOf_len {ts : List Ta} (h : ListV ts) {q : Nat} (hq : q < (refsL ts).length) : (cvOf ts q).2.length ≤ 4096 := by
  obtain ⟨i, k, hi, hk, -, h4⟩ := refs_at ts q hq
  unfold cvOf
  simp only
  rw [h4]
  obtain ⟨n, hn, hc⟩ := (h.2.1 _ (getD_mem hi Ta.z)).2.2.2.2
  have := (hc _ (getD_mem hk Co.z)).2.1
  have := values_len ((ts.getD i Ta.z).cols.getD k Co.z).cells
  omega
theorem cvs_len {ts : List Ta} (h : ListV ts) : ∀ c ∈ cvsL ts, c.2.length ≤ 4096 := by
  intro c hc
  obtain ⟨q, hq, rfl⟩ := List.mem_map.1 hc
  exact cvOf_len h (List.mem_range.1 hq)
theorem info_cv : (Tryz.prog.info? 116).map (fun i => (i.zero, i.size, i.bytes)) = some (some (.agg #[.int .i64 0, .int .i64 0, .slice none 0 0]), 3, 40) := by kernel_rfl
def BuildP (w : World) (x : Ix) (e : Ending) (w' : World) : Prop :=
  ∃ ev vv lv, e = .returned (.tuple #[.agg #[ev, vv, lv], .int .i64 0]) ∧ RdIx w' (News w w') ev vv lv x ∧ Below w.heap.size w w'
theorem ref_Get_at (v : Value) (ts : List Ta) (B q : Nat) (w : World) (h : ListV ts) (hq : q < (refsL ts).length) (hv : RdTa w (· < B) v ts) (hB : B ≤ w.heap.size) :
    Calls Tryz.prog 99 #[v, .agg #[.int .i64 ((refsL ts).getD q (0, 0)).1, .int .i64 (((refsL ts).getD q (0, 0)).2 : Int)]] w (GetP w B ((colsL ts).getD q Co.z)) := by
  obtain ⟨i, k, hi, hk, h3, h4⟩ := refs_at ts q hq
  rw [h3, h4]
  exact ref_Get v ts B i k w hi (fun j hj => by have := ids_up h.2.2 hj hi; omega) (by have := h.1; omega) hk hv hB
set_option maxRecDepth 100000 in
set_option maxHeartbeats 4000000 in
theorem ref_Build (v : Value) (ts : List Ta) (B : Nat) (w : World) (h : ListV ts) (hv : RdTa w (· < B) v ts) (hB : B ≤ w.heap.size) (hT : Tabs w) :
  Calls Tryz.prog 49 #[v] w (BuildP w (indexOf (cvsL ts))) := by
 obtain ⟨i0, hi, hz0, hz1, hz2⟩ := info_parts info_cv
 have HVL := hid (fun W (hW : Below w.heap.size w W) => ref_ValidList v ts B W h (hv.keep fun p hp => hW.cell (by have : p.block < B := hp; omega)) (by have := hW.size; omega) (hT.below hW))
 have HRF := hid (fun W (hW : Below w.heap.size w W) => ref_Refs v ts B W h (hv.keep fun p hp => hW.cell (by have : p.block < B := hp; omega)) (by have := hW.size; omega))
 have HGT := hid (fun q (hq : q < (refsL ts).length) W (hW : Below w.heap.size w W) => ref_Get_at v ts B q W h hq (hv.keep fun p hp => hW.cell (by have : p.block < B := hp; omega)) (by have := hW.size; omega))
 have HRL := hid (refs_le (ts := ts) fun t ht => (h.2.1 t ht).2.2.2.1)
 have HCL := hid (fun q hq => cvOf_len h (q := q) hq)
 have HCC := hid (fun q (hq : q < (refsL ts).length) => (show ((colsL ts).getD q Co.z).cells.length ≤ 4096 from by
  obtain ⟨i, k, hi, hk, -, h4⟩ := refs_at ts q hq
  rw [h4]
  obtain ⟨n, hn, hc⟩ := (h.2.1 _ (getD_mem hi Ta.z)).2.2.2.2
  have := (hc _ (getD_mem hk Co.z)).2.1
  omega))
 have HCS := hid (cvs_len h)
 have hl := h.1
 have HKS := hid (cvsK_succ ts)
 have HKL := hid (cvsK_len ts)
 have HALL : Hid (cvsL ts = cvsK ts (refsL ts).length) := hid rfl
 have HOF : Hid (∀ q, cvOf ts q = ((refsL ts).getD q (0, 0), valuesL ((colsL ts).getD q Co.z).cells)) := hid (fun _ => rfl)
 obtain ⟨a, c, rfl⟩ : ∃ a c, v = .slice a ts.length c := by
  obtain ⟨tv, ⟨a, c, e, -⟩, -⟩ := hv
  exact ⟨a, c, e⟩
 clear h hv hT
 generalize hrs : refsL ts = rs at *
 generalize hnn : rs.length = n at *
 have HN := hid hnn
 clear hrs hnn
 generalize ts.length = L at *
 have hn64 : n ≤ 65536 := by have := HRL.out; omega
 go_enter Tryz.func49, Tryz.ntmps49
 generalize hLA : Code.loop _ = LA
 go_wp2_with fail
 have HR0 := hid (BoxN.new w #[.slice none 0 0, .slice none 0 0, .slice none 0 0] 30)
 have HB0 := hid ((Below.refl w.heap.size w).alloc (Nat.le_refl _) (.cells #[.slice none 0 0, .slice none 0 0, .slice none 0 0] 30))
 have hz0' : (w.alloc (.cells #[.slice none 0 0, .slice none 0 0, .slice none 0 0] 30)).heap.size = w.heap.size + 1 := by simp
 with_reducible refine (HVL.out _ HB0.out).mono ?_
 generalize w.alloc (.cells #[.slice none 0 0, .slice none 0 0, .slice none 0 0] 30) = W0 at *
 rintro e w1 ⟨rfl, hb1⟩
 have HR1 := hid (HR0.out.below hb1 (by omega))
 have HB1 := hid (HB0.out.trans (hb1.mono (by omega)))
 have hz1' := hb1.size
 clear hb1
 go_wp2_with fail
 with_reducible refine (HRF.out _ HB1.out).mono ?_
 rintro e w2 ⟨ra, rc, rfl, hrr, hb2⟩
 have HR2 := hid (HR1.out.below hb2 (by omega))
 have HB2 := hid (HB1.out.trans (hb2.mono HB1.out.size))
 have HRR := hid hrr
 have hz2' := hb2.size
 rw [HN.out]
 clear hb2 hrr
 go_wp2_with fail
 subst hLA
 go_loopg [4, 16] n (fun N v i wr => ∃ q : Nat, q + N = n ∧ i = .int .i64 (q : Int) ∧ Hid (Below w2.heap.size w2 wr ∧ CvSt wr w2.heap.size 116 v (cvsK ts q)))
 case atStart => exact ⟨0, by omega, rfl, hid ⟨Below.refl _ _, CvSt.start (Nat.le_refl _)⟩⟩
 case round =>
  obtain ⟨q, hq, rfl, HST⟩ := hrel
  obtain ⟨L0, hL0⟩ := HST.out.2.owns
  obtain ⟨va, vc, rfl⟩ := own_slice hL0
  rw [HKL.out] at hL0
  have HL0 := hid hL0
  have HST' : Hid (Below w2.heap.size w2 wr ∧ CvSt wr w2.heap.size 116 (.slice va q vc) (cvsK ts q)) := hid ⟨HST.out.1, by have := HST.out.2; rw [HKL.out] at this; exact this⟩
  clear HST
  have HST := HST'
  have hwz := HST.out.1.size
  clear hL0 HST'
  rw [HKL.out]
  by_cases hp : 0 < gk
  ·obtain ⟨ra', rc', er, -, -, hrd⟩ := HRR.out
   rw [HN.out] at er hrd
   obtain ⟨rfl, -, rfl⟩ := Value.slice.inj er
   obtain ⟨b, o, rfl, hb, hcell⟩ := hrd (by omega)
   have hbw : b < w2.heap.size := hb.2
   have k0 : wr.cell? ⟨b, o + q * 2, none⟩ = some (.int .i64 (rs.getD q (0, 0)).1) := (HST.out.1.cell (p := ⟨b, o + q * 2, none⟩) hbw).trans (hcell q (by omega) 0 (by omega))
   have k1 : wr.cell? ⟨b, o + q * 2 + 1, none⟩ = some (.int .i64 ((rs.getD q (0, 0)).2 : Int)) := (HST.out.1.cell (p := ⟨b, o + q * 2 + 1, none⟩) hbw).trans (hcell q (by omega) 1 (by omega))
   have HGQ := hid (HGT.out q (by omega))
   have hcc := HCC.out q (by omega)
   have HOQ := hid (HOF.out q)
   have HKQ := hid (HKS.out q)
   have HBW := hid (HB2.out.trans (HST.out.1.mono HB2.out.size))
   clear hcell hrd er
   generalize (colsL ts).getD q Co.z = x at *
   generalize rs.getD q (0, 0) = r at *
   obtain ⟨ri, rk⟩ := r
   obtain ⟨xn, xc⟩ := x
   simp only at k0 k1 hcc
   have HB3 : Hid (Below w.heap.size w (wr.alloc (.cells #[.int .i64 ri, .int .i64 (rk : Int)] 51))) := hid (HBW.out.alloc HBW.out.size _)
   have HRX := hid (BoxN.new wr #[.int .i64 ri, .int .i64 (rk : Int)] 51)
   have HBS3 := hid ((Below.refl wr.heap.size wr).alloc (Nat.le_refl _) (.cells #[.int .i64 ri, .int .i64 (rk : Int)] 51))
   have hz3 : wr.heap.size < (wr.alloc (.cells #[.int .i64 ri, .int .i64 (rk : Int)] 51)).heap.size := by simp
   go_wp2_with fail
   with_reducible refine (HGQ.out _ HB3.out).mono ?_
   clear k0 k1
   generalize wr.alloc (.cells #[.int .i64 ri, .int .i64 (rk : Int)] 51) = W3 at *
   rintro e w4 ⟨u, rfl, hru, hb4⟩
   have HRX4 := hid (HRX.out.below hb4 hz3)
   have HBS4 := hid (HBS3.out.trans (hb4.mono (by omega)))
   have HB4 := hid (HB3.out.trans (hb4.mono HB3.out.size))
   have HVAL := hid (fun W (hW : Below W3.heap.size W3 W) => ref_Values xn xc u B W (hru.keep fun p (hp : p.block < B) => hW.cell (p := p) (by omega)) (by have := hW.size; omega) (by omega))
   obtain ⟨ua, uc, rfl, -, -, -⟩ := hru
   have hz4 := hb4.size
   have HQ4 := hid hb4
   generalize hxl : xc.length = xl at *
   have HXL := hid hxl
   clear hxl
   have HCX := hid (BoxN.new w4 #[.string xn, .slice ua xl uc] 139)
   have HRX5 := hid (HRX4.out.alloc (.cells #[.string xn, .slice ua xl uc] 139))
   have HBS5 := hid (HBS4.out.alloc (by omega) (.cells #[.string xn, .slice ua xl uc] 139))
   have HQ5 := hid (HQ4.out.alloc hz4 (.cells #[.string xn, .slice ua xl uc] 139))
   have HB5 := hid (HB4.out.alloc HB4.out.size (.cells #[.string xn, .slice ua xl uc] 139))
   have hz5 : w4.heap.size < (w4.alloc (.cells #[.string xn, .slice ua xl uc] 139)).heap.size := by simp
   clear hb4
   go_wp2_with fail
   generalize w4.alloc (.cells #[.string xn, .slice ua xl uc] 139) = W5 at *
   have s0 := HRX5.out.cell 0 rfl
   have s1 := HRX5.out.cell 1 rfl
   have c0 := HCX.out.cell 0 rfl
   have c1 := HCX.out.cell 1 rfl
   have HVLEN : Hid ((valuesL xc).length ≤ 1048576) := hid (Nat.le_trans (values_len xc) (by have h1 := HXL.out; omega))
   have HST5 := hid (HST.out.2.later HBS5.out (by omega))
   have HL5 := hid (own_roll HL0.out (Roll.of_below HBS5.out 0) (Nat.le_refl _) (by omega))
   generalize valuesL xc = vals at *
   have hws5 := HBS5.out.size
   have hhb5 := HB5.out.size
   go_region_law (first
    | (go_simp; go_at_call 100; go_must (((with_reducible refine (HVAL.out _ (by have := HQ5.out; repeat' (first | (with_reducible exact Below.refl _ _) | (with_reducible assumption) | (with_reducible refine below_drewN ?_) | (with_reducible refine Below.alloc ?_ ?_ _) | (with_reducible refine Below.drew ?_) | (with_reducible refine Below.setCell ?_ ?_ _) | (with_reducible refine Below.trans ?_ (Below.mono (by with_reducible assumption) ?_)) | go_size))).mono ?_); rintro e w6 ⟨ca, cc, rfl, hown6, hb6⟩; have hb6' : Below W5.heap.size W5 w6 := (by repeat' (first | (with_reducible exact Below.refl _ _) | (with_reducible assumption) | (with_reducible refine below_drewN ?_) | (with_reducible refine Below.alloc ?_ ?_ _) | (with_reducible refine Below.drew ?_) | (with_reducible refine Below.setCell ?_ ?_ _) | (with_reducible refine Below.trans ?_ (Below.mono (by with_reducible assumption) ?_)) | go_size)); have HB6 := hid hb6'; have HOWN6 := hid hown6; have hz6 := hb6'.size; have HL6 := hid (own_roll HL5.out (Roll.of_below hb6' 0) (Nat.le_refl _) (by omega)); have HST6 := hid (HST5.out.later hb6' (by omega)); have s0' := (HRX5.out.below hb6' (by omega)).cell 0 rfl; have s1' := (HRX5.out.below hb6' (by omega)).cell 1 rfl; clear hown6 hb6 hb6')))
    | ((refine step_append_form _ rfl (.tmp 26) (.tmp 31) 111 111 rfl w2.heap.size 116 116 i0 (.agg #[.int .i64 0, .int .i64 0, .slice none 0 0]) 3 40 Tryz.underlying111 Tryz.underlying111 hi hz0 hz1 hz2 rfl (by decide) (.slice va q vc) q L0 rfl (HL6.out.alloc _) (some ⟨_, 0, none⟩) 1 1 [.int .i64 ri, .int .i64 (rk : Int), .slice ca vals.length cc] rfl rfl (fun _ => ⟨_, rfl, cell_three_at _ _ _ _ (by simp)⟩) (by intro u hu; simp at hu; rcases hu with rfl | rfl | rfl <;> rfl) (by omega) (by unfold maxLen; omega) (by omega) (by simp; omega) ?_); intro p7 cap7 w7 hown7 hg7 hat7 hlt7; have HG7 := hid hg7; have HOWN7 := hid hown7; have HAT7 := hid hat7; clear hown7 hg7 hat7))
   all_goals
    have HNEW : Hid (InS (w6.alloc (.cells #[.int .i64 ri, .int .i64 (rk : Int), .slice ca vals.length cc] 116)) (Own (w6.alloc (.cells #[.int .i64 ri, .int .i64 (rk : Int), .slice ca vals.length cc] 116)) w2.heap.size (.slice va q vc)) (.slice ca vals.length cc) vals) := hid (by
     refine (InK.keep (inS_of_own HOWN6.out) fun p hp => World.cell?_alloc_lt _ _ _ (HOWN6.out.lt _ hp).2).more fun b hb => ?_
     have h1 := HOWN6.out.lt b hb
     have h2 : W5.heap.size ≤ b := h1.1
     have h3 := h1.2
     exact ⟨by omega, by simp; omega, fun e => by have := (HL5.out.lt _ e).2; omega⟩)
    have HL8 : Hid ((w6.alloc (.cells #[.int .i64 ri, .int .i64 (rk : Int), .slice ca vals.length cc] 116)).ownsRow w2.heap.size 116 3 (.slice va q vc) (cvsK ts q).length L0) := hid (by
     rw [HKL.out]
     exact HL6.out.alloc _)
    have HST7 := hid ((HST6.out.later ((Below.refl _ _).alloc (Nat.le_refl _) (.cells #[.int .i64 ri, .int .i64 (rk : Int), .slice ca vals.length cc] 116)) (by omega)).push (x := ((ri, rk), vals)) (n := q + 1) HL8.out (by rw [HKL.out]) HOWN7.out HG7.out HAT7.out HNEW.out)
    have HB7 : Hid (Below w2.heap.size w2 w7) := hid (by
     refine (((HST.out.1.trans (HBS5.out.mono hwz)).trans (HB6.out.mono (by omega))).alloc (by omega) _).grown HG7.out (by simp; omega) (fun k hk => ?_)
     have := (HL6.out.lt k hk).1
     omega)
    clear s0 s1 c0 c1 s0' s1'
    go_wp2
    go_roundg (gk - 1)
    case rel => exact ⟨q + 1, by omega, by go_num, hid ⟨HB7.out, by rw [HKQ.out, HOQ.out]; exact HST7.out⟩⟩
    case measure => omega
  ·obtain rfl : q = n := by omega
   have HRX := hid (RdCv.more (HST.out.2.read) (fun b hb => hb.2))
   have HIX := hid (ref_index _ _ _ wr HRX.out (Nat.le_refl _) (by rw [HKL.out]; exact hn64) (by rw [← HALL.out]; exact HCS.out))
   rw [← HALL.out] at HIX
   have hb0 := HR2.out.below HST.out.1 HR2.out.lt
   have hrz := HR2.out.lt
   have HR3 := hid hb0
   clear hb0
   go_wp2_with fail
   with_reducible refine HIX.out.mono ?_
   rintro e w5 ⟨ev, vv, lv, rfl, hrx, hb5⟩
   have hb0 := HR3.out.below hb5 HR3.out.lt
   have c0 := hb0.cell 0 rfl
   have c1 := hb0.cell 1 rfl
   have c2 := hb0.cell 2 rfl
   have f0 := hb0.frozen 0
   have f1 := hb0.frozen 1
   have f2 := hb0.frozen 2
   have hbF := (((hb0.set 0 ev).set 1 vv).set 2 lv)
   have D0 := hid (hbF.cell 0 rfl)
   have D1 := hid (hbF.cell 1 rfl)
   have D2 := hid (hbF.cell 2 rfl)
   have HB9 := hid ((HB2.out.trans (HST.out.1.mono HB2.out.size)).trans (hb5.mono (by omega)))
   have HRXX := hid hrx
   obtain ⟨ea, ec, rfl, -⟩ := hrx.ents
   obtain ⟨va', vc', rfl, -⟩ := hrx.vals
   obtain ⟨lf, ⟨la, lc, rfl, -⟩, -⟩ := hrx.lists
   clear hb0 hbF hrx hb5
   generalize (indexOf (cvsL ts)).ents.length = n1 at *
   generalize (indexOf (cvsL ts)).vals.length = n2 at *
   generalize (indexOf (cvsL ts)).lists.length = n3 at *
   go_wp2
   have d0 := D0.out
   have d1 := D1.out
   have d2 := D2.out
   refine bodyPost_ret (v := .tuple #[.agg #[.slice ea n1 ec, .slice va' n2 vc', .slice la n3 lc], .int .i64 0]) (by simp [results, Tryz.results49, go_sem, d0, d1, d2]) rfl ⟨_, _, _, rfl, ?_, ?_⟩
   ·refine (HRXX.out.keep fun p hp => ?_).more fun b hb => ⟨by have := hb.1; omega, by have := hb.2; simpa using this⟩
    have h1 := hp.1
    rw [World.cell?_setCell_other _ _ _ _ (by intro e; subst e; simp at h1; omega), World.cell?_setCell_other _ _ _ _ (by intro e; subst e; simp at h1; omega), World.cell?_setCell_other _ _ _ _ (by intro e; subst e; simp at h1; omega)]
   ·have := HB9.out
    repeat' (first | (with_reducible exact Below.refl _ _) | (with_reducible assumption) | (with_reducible refine below_drewN ?_) | (with_reducible refine Below.alloc ?_ ?_ _) | (with_reducible refine Below.drew ?_) | (with_reducible refine Below.setCell ?_ ?_ _) | (with_reducible refine Below.trans ?_ (Below.mono (by with_reducible assumption) ?_)) | go_size)
end Go.Proofs.YtikiimlmoalbcaaGreatDoor

namespace Go.Proofs.YtikiimlmoalbcaaGreatDoor
open Go.RowKit
def sizesL (zs : List Int) (low high : Int) : List Nat := (List.range zs.length).filter fun i => decide (low ≤ zs.getD i 0) && decide (zs.getD i 0 ≤ high)
def sizesK (zs : List Int) (low high : Int) (k : Nat) : List Nat := (List.range k).filter fun i => decide (low ≤ zs.getD i 0) && decide (zs.getD i 0 ≤ high)
theorem count_take (xs : List Nat) {k : Nat} (h : k < xs.length) (j : Nat) : (xs.take (k + 1)).count j = (xs.take k).count j + if xs.getD k 0 = j then 1 else 0 := by
  rw [List.take_succ_eq_append_getElem h, List.count_append]
  congr 1
  have e : xs.getD k 0 = xs[k] := by simp [List.getD, h]
  rw [e, List.count_singleton]
  by_cases h1 : xs[k] = j <;> simp [h1]
end Go.Proofs.YtikiimlmoalbcaaGreatDoor
namespace Go.Proofs.YtikiimlmoalbcaaGreatDoor
open Go.RowKit
def IndexR (w : World) (g : Nat) (e : Ending) (w' : World) : Prop :=
  ∃ (ts : List Ta) (ev vv lv : Value), e = .returned (.agg #[ev, vv, lv]) ∧ ListOk 4 4 7 ts ∧ RdIx w' (News w w') ev vv lv (indexOf (cvsL ts)) ∧ DiceAt 89 w' g ∧ Roll w.heap.size g w w'
set_option maxHeartbeats 1000000 in
theorem dice_Index (g : Nat) (w0 w : World) (hd : DiceAt 89 w g) (hT : Tabs w0) (h0 : Below w0.heap.size w0 w) (hg0 : w0.heap.size ≤ g) :
  Calls Tryz.prog 11 #[.pointer (some ⟨g, 0, none⟩)] w (IndexR w g) := by
 have hgl := hd.lt
 have HD := hid hd
 have HT := hid hT
 have H0 := hid h0
 clear hd hT h0
 go_enter Tryz.func11, Tryz.ntmps11
 go_wp2_with fail
 have hd0 := HD.out.alloc (.cells #[.slice none 0 0, .slice none 0 0, .slice none 0 0] 30)
 have HR0 := hid ((Roll.refl w.heap.size g w).alloc (Nat.le_refl _) (.cells #[.slice none 0 0, .slice none 0 0, .slice none 0 0] 30))
 have HX0 := hid (BoxN.new w #[.slice none 0 0, .slice none 0 0, .slice none 0 0] 30)
 have hz0 : (w.alloc (.cells #[.slice none 0 0, .slice none 0 0, .slice none 0 0] 30)).heap.size = w.heap.size + 1 := by simp
 have hLL := dice_List g 4 4 7 _ hd0 (by omega) (by omega) (by omega)
 rw [show (((4 : Nat)) : Int) = 4 from rfl, show (((7 : Nat)) : Int) = 7 from rfl] at hLL
 with_reducible refine hLL.mono ?_
 clear hLL
 clear hd0
 generalize w.alloc (.cells #[.slice none 0 0, .slice none 0 0, .slice none 0 0] 30) = W0 at *
 rintro e w1 ⟨ts, a, c, rfl, hrd, hok, hd1, hr1⟩
 have HX1 := hid (HX0.out.roll hr1 (by omega) (by omega))
 have HR1 := hid (HR0.out.trans (hr1.mono (by omega)))
 have HD1 := hid hd1
 have hT1 : Tabs w1 := HT.out.below (H0.out.trans (HR1.out.below hg0 (H0.out.size)))
 have HB := hid (ref_Build _ ts w1.heap.size w1 (listV_of hok (by omega) (by omega) (by omega)) (hrd.more fun b hb => hb.2) (Nat.le_refl _) hT1)
 have HOK := hid hok
 have hz1 := hr1.size
 clear hrd hok hd1 hr1 hT1
 generalize ts.length = L at *
 go_wp2_with fail
 with_reducible refine HB.out.mono ?_
 rintro e w2 ⟨ev, vv, lv, rfl, hrx, hb2⟩
 have HX2 := hid (HX1.out.below hb2 HX1.out.lt)
 have HR2 := hid (HR1.out.trans ((Roll.of_below hb2 g).mono HR1.out.size))
 have HD2 := hid (HD1.out.below hb2 HD1.out.lt)
 have HRX := hid hrx
 have hz2 := hb2.size
 have hx2z := HX2.out.lt
 obtain ⟨ea, ec, rfl, -⟩ := hrx.ents
 obtain ⟨va', vc', rfl, -⟩ := hrx.vals
 obtain ⟨lf, ⟨la, lc, rfl, -⟩, -⟩ := hrx.lists
 clear hrx hb2
 generalize hn1 : (indexOf (cvsL ts)).ents.length = n1 at *
 generalize hn2 : (indexOf (cvsL ts)).vals.length = n2 at *
 generalize hn3 : (indexOf (cvsL ts)).lists.length = n3 at *
 clear hn1 hn2 hn3
 have HF := hid ((HX2.out.alloc (.cells #[.slice ea n1 ec, .slice va' n2 vc', .slice la n3 lc] 30)))
 have c0 := HX2.out.cell 0 rfl
 have c1 := HX2.out.cell 1 rfl
 have c2 := HX2.out.cell 2 rfl
 have f0 := HX2.out.frozen 0
 have f1 := HX2.out.frozen 1
 have f2 := HX2.out.frozen 2
 have hbF := ((((HX2.out.set 0 (.slice ea n1 ec)).set 1 (.slice va' n2 vc')).set 2 (.slice la n3 lc)).alloc (.cells #[.slice ea n1 ec, .slice va' n2 vc', .slice la n3 lc] 30))
 have D0 := hid (hbF.cell 0 rfl)
 have D1 := hid (hbF.cell 1 rfl)
 have D2 := hid (hbF.cell 2 rfl)
 clear hbF
 go_wp2
 have d0 := D0.out
 have d1 := D1.out
 have d2 := D2.out
 have hbw : Below w.heap.size w2 ((((w2.setCell ⟨w.heap.size, 0, none⟩ (.slice ea n1 ec)).setCell ⟨w.heap.size, 1, none⟩ (.slice va' n2 vc')).setCell ⟨w.heap.size, 2, none⟩ (.slice la n3 lc)).alloc (.cells #[.slice ea n1 ec, .slice va' n2 vc', .slice la n3 lc] 30)) := by
  have := Below.refl w.heap.size w2
  repeat' (first | (with_reducible exact Below.refl _ _) | (with_reducible assumption) | (with_reducible refine below_drewN ?_) | (with_reducible refine Below.alloc ?_ ?_ _) | (with_reducible refine Below.drew ?_) | (with_reducible refine Below.setCell ?_ ?_ _) | (with_reducible refine Below.trans ?_ (Below.mono (by with_reducible assumption) ?_)) | go_size)
 refine bodyPost_ret (v := .agg #[.slice ea n1 ec, .slice va' n2 vc', .slice la n3 lc]) (by simp [results, Tryz.results11, go_sem, d0, d1, d2]) rfl ⟨ts, _, _, _, rfl, HOK.out, ?_, HD2.out.below hbw hgl, HR2.out.trans (Roll.of_below hbw g)⟩
 refine (HRX.out.keep fun p hp => ?_).more fun b hb => ⟨by have := hb.1; omega, by have := hb.2; simp; omega⟩
 have h1 := hp.1
 have h2 := hp.2
 rw [World.cell?_alloc_lt _ _ _ (by simp; omega), World.cell?_setCell_other _ _ _ _ (by intro e; subst e; simp at h1; omega), World.cell?_setCell_other _ _ _ _ (by intro e; subst e; simp at h1; omega), World.cell?_setCell_other _ _ _ _ (by intro e; subst e; simp at h1; omega)]
def sizeZ (es : List ((Int × Nat) × Nat)) : List Int := es.map fun e => (e.2 : Int)
def GivesN (w : World) (xs : List Nat) (e : Ending) (w' : World) : Prop :=
  ∃ a c, e = .returned (.slice a xs.length c) ∧ InN w' (News w w') (.slice a xs.length c) xs ∧ Below w.heap.size w w'
end Go.Proofs.YtikiimlmoalbcaaGreatDoor

namespace Go.Proofs.YtikiimlmoalbcaaGreatDoor
open Go.RowKit
def cmpZ (x y : Int) : Int := if x < y then -1 else if y < x then 1 else 0
set_option maxHeartbeats 400000 in
theorem lib_isNaN (x : Int) (w : World) : Calls Tryz.prog 171 #[.int .i64 x] w fun e w' => e = .returned (.bool false) ∧ w = w' := by
  go_enter Tryz.func171, Tryz.ntmps171
  go_wp2
  go_ret
  exact ⟨by simp, rfl⟩
set_option maxHeartbeats 1000000 in
theorem lib_Compare (x y : Int) (w : World) : Calls Tryz.prog 136 #[.int .i64 x, .int .i64 y] w fun e w' => e = .returned (.int .i64 (cmpZ x y)) ∧ w = w' := by
  have HC : Hid (cmpZ x y = if x < y then -1 else if y < x then 1 else 0) := hid rfl
  generalize cmpZ x y = c at *
  go_enter Tryz.func136, Tryz.ntmps136
  go_wp2_with fail
  with_reducible refine (lib_isNaN _ _).mono ?_
  rintro e w1 ⟨rfl, rfl⟩
  go_wp2_with fail
  with_reducible refine (lib_isNaN _ _).mono ?_
  rintro e w1 ⟨rfl, rfl⟩
  by_cases h1 : x < y
  · go_wp2
    go_ret
    exact ⟨ret_int (by rw [HC.out, if_pos (by omega)]), rfl⟩
  · by_cases h2 : y < x
    · go_wp2
      go_ret
      exact ⟨ret_int (by rw [HC.out, if_neg (by omega), if_pos (by omega)]), rfl⟩
    · go_wp2
      go_ret
      exact ⟨ret_int (by rw [HC.out, if_neg (by omega), if_neg (by omega)]), rfl⟩
def orZ (x y : Int) : Int := if x ≠ 0 then x else y
set_option maxHeartbeats 1000000 in
theorem lib_Or2 (x y : Int) (b c : Nat) (w : World) (h0 : w.cell? ⟨b, 0, none⟩ = some (.int .i64 x)) (h1 : w.cell? ⟨b, 1, none⟩ = some (.int .i64 y)) :
    Calls Tryz.prog 135 #[.slice (some ⟨b, 0, none⟩) 2 c] w fun e w' => e = .returned (.int .i64 (orZ x y)) ∧ w = w' := by
  have HC : Hid (orZ x y = if x ≠ 0 then x else y) := hid rfl
  generalize orZ x y = z at *
  go_enter Tryz.func135, Tryz.ntmps135
  by_cases hx : x = 0
  · subst hx
    by_cases hy : y = 0
    · subst hy
      go_wp2
      refine wp_loop_rounds 3 ?_
      rw [rounds_succ]
      go_wp2
      rw [rounds_succ]
      go_wp2
      rw [rounds_succ]
      go_wp2
      go_ret
      exact ⟨ret_int (by rw [HC.out]; simp), rfl⟩
    · have hy1 : (y != 0) = true := by simpa using hy
      go_wp2
      refine wp_loop_rounds 3 ?_
      rw [rounds_succ]
      go_wp2
      rw [rounds_succ]
      go_wp2
      go_ret
      exact ⟨ret_int (by rw [HC.out]; simp), rfl⟩
  · have hx1 : (x != 0) = true := by simpa using hx
    go_wp2
    refine wp_loop_rounds 3 ?_
    rw [rounds_succ]
    go_wp2
    go_ret
    exact ⟨ret_int (by rw [HC.out]; simp [hx]), rfl⟩
def rlt (a b : Int × Int) : Bool := decide (a.1 < b.1) || (decide (a.1 = b.1) && decide (a.2 < b.2))
theorem rlt_or (a b : Int × Int) : rlt a b = decide (orZ (cmpZ a.1 b.1) (cmpZ a.2 b.2) < 0) := by
  unfold rlt orZ cmpZ
  rw [Bool.eq_iff_iff]
  by_cases h1 : a.1 < b.1 <;> by_cases h2 : b.1 < a.1 <;> by_cases h3 : a.2 < b.2 <;> by_cases h4 : b.2 < a.2 <;> simp [h1, h2, h3, h4] <;> omega
set_option maxHeartbeats 1000000 in
theorem table_Less (a1 a2 b1 b2 : Int) (w : World) : Calls Tryz.prog 152 #[.agg #[.int .i64 a1, .int .i64 a2], .agg #[.int .i64 b1, .int .i64 b2]] w (Ret w (.bool (rlt (a1, a2) (b1, b2)))) := by
  have HR := hid (rlt_or (a1, a2) (b1, b2))
  generalize rlt (a1, a2) (b1, b2) = r at *
  go_enter Tryz.func152, Tryz.ntmps152
  go_wp2_with fail
  go_region_held3 (fun w' => w'.cell? ⟨w.heap.size, 0, none⟩ = some (.int .i64 a1) ∧ w'.cell? ⟨w.heap.size, 1, none⟩ = some (.int .i64 a2) ∧ w'.cell? ⟨w.heap.size + 1, 0, none⟩ = some (.int .i64 b1) ∧ w'.cell? ⟨w.heap.size + 1, 1, none⟩ = some (.int .i64 b2))
    (first | go_keep)
    (first
      | (go_at_call 136; go_must (((with_reducible refine (lib_Compare _ _ _).mono ?_); rintro e w5 ⟨rfl, rfl⟩)))
      | (go_at_call 135; go_must (((with_reducible refine (lib_Or2 (cmpZ a1 b1) (cmpZ a2 b2) _ _ _ (by go_cell) (by go_cell)).mono ?_); rintro e w5 ⟨rfl, rfl⟩))))
  all_goals
    go_wp2
    go_ret
    exact ⟨ret_bool (by rw [HR.out]), by have := Below.refl w.heap.size w; repeat' (first | (with_reducible exact Below.refl _ _) | (with_reducible assumption) | (with_reducible refine below_drewN ?_) | (with_reducible refine Below.alloc ?_ ?_ _) | (with_reducible refine Below.drew ?_) | (with_reducible refine Below.setCell ?_ ?_ _) | (with_reducible refine Below.trans ?_ (Below.mono (by with_reducible assumption) ?_)) | go_size)⟩
end Go.Proofs.YtikiimlmoalbcaaGreatDoor

namespace Go.Proofs.YtikiimlmoalbcaaGreatDoor
open Go.RowKit
set_option maxHeartbeats 400000 in
theorem posting_named (a1 a2 : Int) (w : World) (h1 : 0 ≤ a1) (h2 : a1 ≤ 1073741824) (h3 : 0 ≤ a2) : Calls Tryz.prog 151 #[.agg #[.int .i64 a1, .int .i64 a2]] w (Ret w (.bool true)) := by
  go_enter Tryz.func151, Tryz.ntmps151
  go_wp2
  go_ret
  exact ⟨ret_bool (by first | (simp; done) | (simp; omega)), by have := Below.refl w.heap.size w; repeat' (first | (with_reducible exact Below.refl _ _) | (with_reducible assumption) | (with_reducible refine below_drewN ?_) | (with_reducible refine Below.alloc ?_ ?_ _) | (with_reducible refine Below.drew ?_) | (with_reducible refine Below.setCell ?_ ?_ _) | (with_reducible refine Below.trans ?_ (Below.mono (by with_reducible assumption) ?_)) | go_size)⟩
end Go.Proofs.YtikiimlmoalbcaaGreatDoor

namespace Go.Proofs.YtikiimlmoalbcaaGreatDoor
open Go.Lib
theorem sl_lt (a b : ByteArray) : sl a b = decide (a.toList < b.toList) := by unfold sl; exact bytesLess_eq _ _
theorem asc_unique : ∀ {xs ys : List ByteArray}, Asc xs → Asc ys → (∀ x, x ∈ xs ↔ x ∈ ys) → xs = ys
  | [], [], _, _, _ => rfl
  | [], y :: ys, _, _, h => by have := (h y).2 (by simp); simp at this
  | x :: xs, [], _, _, h => by have := (h x).1 (by simp); simp at this
  | x :: xs, y :: ys, hx, hy, h => by
    have hx' := List.pairwise_cons.1 hx
    have hy' := List.pairwise_cons.1 hy
    have hxy : x = y := by
      rcases List.mem_cons.1 ((h x).1 (by simp)) with e | h1
      · exact e
      · rcases List.mem_cons.1 ((h y).2 (by simp)) with e | h2
        · exact e.symm
        · have h3 := sl_trans (hy'.1 x h1) (hx'.1 y h2)
          rw [sl_irrefl] at h3
          cases h3
    subst hxy
    have : xs = ys := asc_unique hx'.2 hy'.2 (fun z => by
      constructor
      · intro hz
        rcases List.mem_cons.1 ((h z).1 (by simp [hz])) with e | h1
        · subst e
          have h3 := hx'.1 z hz
          rw [sl_irrefl] at h3
          cases h3
        · exact h1
      · intro hz
        rcases List.mem_cons.1 ((h z).2 (by simp [hz])) with e | h1
        · subst e
          have h3 := hy'.1 z hz
          rw [sl_irrefl] at h3
          cases h3
        · exact h1)
    rw [this]
theorem put1_mem_iff {xs : List ByteArray} {s x : ByteArray} : x ∈ put1 xs s ↔ x = s ∨ x ∈ xs := by
  refine ⟨put1_mem, fun h => ?_⟩
  have hk := before_le s xs
  unfold put1
  simp only
  split
  · rw [List.mem_append, List.mem_cons]
    rcases h with rfl | h
    · exact .inr (.inl rfl)
    · rw [← List.take_append_drop (before s xs) xs, List.mem_append] at h
      rcases h with h | h
      · exact .inl h
      · exact .inr (.inr h)
  · rename_i hc
    rcases h with rfl | h
    · have h1 : before x xs ≠ xs.length := fun e => hc (.inl e)
      have h2 : xs.getD (before x xs) ⟨#[]⟩ = x := by
        apply Classical.byContradiction
        exact fun e => hc (.inr e)
      have h3 : before x xs < xs.length := by omega
      rw [List.getD, List.getElem?_eq_getElem h3] at h2
      simp at h2
      rw [← h2]
      exact List.getElem_mem _
    · exact h
theorem foldl_put1_mem (l : List ByteArray) : ∀ (acc : List ByteArray) (x : ByteArray), x ∈ l.foldl put1 acc ↔ x ∈ acc ∨ x ∈ l := by
  induction l with
  | nil => simp
  | cons a l ih =>
    intro acc x
    rw [List.foldl_cons, ih, put1_mem_iff, List.mem_cons]
    constructor
    · rintro ((h | h) | h)
      · exact .inr (.inl h)
      · exact .inl h
      · exact .inr (.inr h)
    · rintro (h | h | h)
      · exact .inl (.inr h)
      · exact .inl (.inl h)
      · exact .inr h
theorem setOfL_mem_iff (l : List ByteArray) (x : ByteArray) : x ∈ setOfL l ↔ x ∈ l := by
  unfold setOfL
  rw [foldl_put1_mem]
  simp
theorem compactUpTo_spec (d : Array (List UInt8)) (hs : ∀ i j, i < j → j < d.size → d[i]! ≤ d[j]!) : ∀ m, m ≤ d.size →
    (compactUpTo d m).Pairwise (· < ·) ∧ (∀ y ∈ compactUpTo d m, ∃ i, i < m ∧ y = d[i]!) ∧ (∀ i, i < m → d[i]! ∈ compactUpTo d m) := by
  intro m
  induction m with
  | zero => intro _; exact ⟨by simp [compactUpTo], by simp [compactUpTo], fun i h => by omega⟩
  | succ m ih =>
    intro hm
    obtain ⟨h1, h2, h3⟩ := ih (by omega)
    rw [compactUpTo_succ]
    by_cases hk : keeps d m = true
    · rw [if_pos hk]
      refine ⟨?_, ?_, ?_⟩
      · rw [List.pairwise_append]
        refine ⟨h1, List.pairwise_singleton _ _, fun y hy z hz => ?_⟩
        rw [List.mem_singleton] at hz
        subst hz
        obtain ⟨i, hi, rfl⟩ := h2 y hy
        have hne : d[m]! ≠ d[m - 1]! := by
          unfold keeps at hk
          rcases of_decide_eq_true hk with h | h
          · omega
          · exact h
        have hle : d[m - 1]! ≤ d[m]! := hs _ _ (by omega) (by omega)
        have hlt : d[m - 1]! < d[m]! := Classical.byContradiction fun h => hne (List.le_antisymm (show d[m]! ≤ d[m - 1]! from h) hle)
        rcases Nat.lt_or_ge i (m - 1) with h | h
        · exact List.lt_of_le_of_lt (hs i (m - 1) h (by omega)) hlt
        · obtain rfl : i = m - 1 := by omega
          exact hlt
      · intro y hy
        rcases List.mem_append.1 hy with hy | hy
        · obtain ⟨i, hi, e⟩ := h2 y hy
          exact ⟨i, by omega, e⟩
        · exact ⟨m, by omega, by simpa using hy⟩
      · intro i hi
        rw [List.mem_append]
        rcases Nat.lt_or_ge i m with h | h
        · exact .inl (h3 i h)
        · obtain rfl : i = m := by omega
          exact .inr (by simp)
    · rw [if_neg hk, List.append_nil]
      refine ⟨h1, fun y hy => ?_, fun i hi => ?_⟩
      · obtain ⟨i, hi, e⟩ := h2 y hy
        exact ⟨i, by omega, e⟩
      · rcases Nat.lt_or_ge i m with h | h
        · exact h3 i h
        · obtain rfl : i = m := by omega
          have hn : ¬ (i = 0 ∨ d[i]! ≠ d[i - 1]!) := fun e => hk (by unfold keeps; exact decide_eq_true e)
          have he : d[i]! = d[i - 1]! := Classical.byContradiction fun e => hn (.inr e)
          rw [he]
          exact h3 (i - 1) (by have : i ≠ 0 := fun e => hn (.inl e); omega)
def bytesOf (l : List UInt8) : ByteArray := ⟨l.toArray⟩
def listOf (a : ByteArray) : List UInt8 := a.data.toList
theorem bytesOf_listOf (a : ByteArray) : bytesOf (listOf a) = a := by cases a; rfl
theorem compact_sorted (xs : List ByteArray) : (compact ((xs.map listOf).mergeSort fun x y => decide (x ≤ y))).map bytesOf = setOfL xs := by
  generalize hZ : (xs.map listOf).mergeSort (fun x y => decide (x ≤ y)) = zs
  have hperm : zs.Perm (xs.map listOf) := by rw [← hZ]; exact List.mergeSort_perm _ _
  have hsort : zs.Pairwise (fun x y => x ≤ y) := by
    rw [← hZ]
    have := List.pairwise_mergeSort (le := fun (x y : List UInt8) => decide (x ≤ y)) (fun a b c h1 h2 => by
      simp only [decide_eq_true_eq] at *
      exact List.le_trans h1 h2) (fun a b => by
      simp only [Bool.or_eq_true, decide_eq_true_eq]
      exact List.le_total a b) (xs.map listOf)
    exact this.imp (fun h => by simpa using h)
  have hs : ∀ i j, i < j → j < zs.toArray.size → zs.toArray[i]! ≤ zs.toArray[j]! := by
    intro i j hij hj
    have hj' : j < zs.length := by simpa using hj
    rw [getElem!_pos zs.toArray i (by simp; omega), getElem!_pos zs.toArray j (by simpa using hj')]
    simpa using List.pairwise_iff_getElem.1 hsort i j (by omega) hj' hij
  obtain ⟨h1, h2, h3⟩ := compactUpTo_spec zs.toArray hs zs.length (by simp)
  refine asc_unique ?_ (setOfL_asc xs) ?_
  · unfold Asc
    rw [List.pairwise_map]
    refine h1.imp (fun {a b} h => ?_)
    rw [sl_lt, toList_data, toList_data]
    exact decide_eq_true (by simpa [bytesOf] using h)
  · intro x
    rw [setOfL_mem_iff, List.mem_map]
    constructor
    · rintro ⟨y, hy, rfl⟩
      obtain ⟨i, hi, rfl⟩ := h2 y hy
      have : zs.toArray[i]! ∈ zs := by rw [getElem!_pos zs.toArray i (by simpa using hi)]; simp
      obtain ⟨z, hz, e⟩ := List.mem_map.1 (hperm.mem_iff.1 this)
      rw [← e, bytesOf_listOf]
      exact hz
    · intro hx
      have : listOf x ∈ zs := hperm.mem_iff.2 (List.mem_map.2 ⟨x, hx, rfl⟩)
      obtain ⟨i, hi, e⟩ := List.mem_iff_getElem.1 this
      refine ⟨listOf x, ?_, bytesOf_listOf x⟩
      have h4 := h3 i hi
      rw [getElem!_pos zs.toArray i (by simpa using hi)] at h4
      rw [← e]
      simpa [compact] using h4
theorem compact_len (xs : List ByteArray) : (compact ((xs.map listOf).mergeSort fun x y => decide (x ≤ y))).length = (setOfL xs).length := by
  rw [← compact_sorted, List.length_map]
end Go.Proofs.YtikiimlmoalbcaaGreatDoor
