/- Contract of signature.compare, with the closure of Pairs. -/
import Derived.Test.YtabemneoobbnaaaGreatDoorKl
namespace Go.Proofs.YtabemneoobbnaaaGreatDoor
open Go.RowKit Go.Shelf

set_option maxRecDepth 100000 in
set_option maxHeartbeats 4000000 in
theorem sig_compareP (v : Value) (ts : List Ta) (B need : Nat) (pn po : Addr) (J : List (Nat × Nat) → (Nat → Prop) → World → Prop) (Z0 : Nat → Prop) (w : World) (h : ListV ts) (hv : RdTa w (· < B) v ts) (hB : B ≤ w.heap.size) (hT : Tabs w) (hneed : 1 ≤ need) (hneed2 : need ≤ 1048576)
    (hd : DoOk 59 #[.pointer (some pn), .pointer (some po)] w (cvsL ts) J) (h0 : J [] Z0 w) :
    Calls Tryz.prog 58 #[v, .int .i64 (need : Int), .func (.func 59) #[] #[.pointer (some pn), .pointer (some po)]] w (fun e w' => e = .returned (.int .i64 0) ∧ ∃ Z', J (prN (cvsL ts).length) Z' w' ∧ StepZ Z0 Z' w w') := by
  have HCV := hid (colsV_of h)
  have HVL := hid (table_ValidList v ts B w h hv hB hT)
  have HSS := hid (fun W (hW : Below w.heap.size w W) => sig_sets v ts B W h (hv.keep fun p hp => hW.cell (by have : p.block < B := hp; omega)) (by have := hW.size; omega))
  have HOR := hid (fun W u (hu : RdCv W (· < W.heap.size) u (cvsL ts)) => sig_ordered u (cvsL ts) W.heap.size W hu (Nat.le_refl _) HCV.out.str HCV.out.len HCV.out.many)
  have HAS : Hid (∀ s ∈ allOf (cvsL ts), s.size ≤ maxLen) := hid (fun s hs => by
    obtain ⟨c, hc, h⟩ := List.mem_flatMap.1 hs
    exact HCV.out.str c hc s h)
  have HAL : Hid ((allOf (cvsL ts)).length ≤ 268435456) := hid (by
    have h1 := all_len (cs := cvsL ts) (m := 4096) HCV.out.len
    have h2 := HCV.out.many
    have h3 : (cvsL ts).length * 4096 ≤ 65536 * 4096 := Nat.mul_le_mul_right _ h2
    omega)
  have HD := hid hd
  have H0 := hid h0
  obtain ⟨a, c, rfl⟩ : ∃ a c, v = .slice a ts.length c := by
    obtain ⟨tv, ⟨a, c, e, -⟩, -⟩ := hv
    exact ⟨a, c, e⟩
  generalize ts.length = L at *
  clear h hv hT hd h0
  generalize cvsL ts = cs at *
  have hmany := HCV.out.many
  generalize hnn : cs.length = n at *
  have HN := hid hnn
  clear hnn
  go_enter Tryz.func58, Tryz.ntmps58
  generalize hLA : Code.loop _ = LA
  have hd0 : decide ((need : Int) < 1) = false := decide_eq_false (by omega)
  go_wp2_with fail
  with_reducible refine HVL.out.mono ?_
  rintro e w1 ⟨rfl, hb1⟩
  have HB1 := hid hb1
  clear hb1
  go_wp2_with fail
  with_reducible refine (HSS.out _ HB1.out).mono ?_
  rintro e w2 ⟨sa, sc, rfl, hcv, hb2⟩
  rw [HN.out] at hcv ⊢
  have HB2 := hid (HB1.out.trans (hb2.mono HB1.out.size))
  have HCS := hid (hcv.read)
  have HO := hid (HOR.out w2 _ (hcv.read.more fun b hb => hb.2))
  have hz1 := HB1.out.size
  have hz2 := hb2.size
  clear hcv hb2
  go_wp2_with fail
  with_reducible refine HO.out.mono ?_
  rintro e w3 ⟨oa, oc, O, rfl, g1, g2, g3, g4, g5⟩
  have HB3 := hid (HB2.out.trans (g5.mono HB2.out.size))
  have HB23 := hid g5
  have HOK : Hid (OkO cs O) := hid ⟨g1, fun s => (g2 s).trans cntO_some⟩
  have hol : O.length ≤ 268435456 := by
    have e1 : O.Perm (setOfL (allOf cs)) := (List.perm_ext_iff_of_nodup g1 ((setOfL_asc (allOf cs)).imp fun {a b} h e => by subst e; rw [sl_irrefl] at h; cases h)).2 fun s => ((g2 s).trans cntO_some).trans (setOfL_mem_iff _ s).symm
    have h1 := e1.length_eq
    have h2 := setOfL_len (allOf cs)
    have h3 := HAL.out
    omega
  have HPL := hid (callsIn_wide.1 (places_in Fence.wide 5 trivial trivial trivial rfl (by omega) oa oc w3.heap.size O (fun s hs => HAS.out s (((g2 s).trans cntO_some).1 hs)) (by omega) w3 (Nat.le_refl _) (InS.rds ((inS_of_own g4).more (S' := (· < w3.heap.size)) fun b hb => (g4.lt b hb).2) fun b h => h)))
  clear g1 g2 g3 g4 g5 HO
  generalize O.length = on at *
  have hz3 := HB23.out.size
  go_wp2_with fail
  with_reducible refine HPL.out.mono ?_
  rintro e w4 ⟨rfl, hm4, hb4⟩
  have HM4 := hid hm4
  have HB4 := hid (HB3.out.trans (hb4.mono HB3.out.size))
  have HB24 := hid (HB23.out.trans (hb4.mono HB23.out.size))
  have hz4 : w3.heap.size < w4.heap.size := hm4.lt
  have hmk := made_ranks n (by omega)
  have hrow := World.rowIs_made w4 (.slice none 0 0) n 30
  have HST0 : Hid (CmpSt w (w4.alloc (.cells (madeCells #[.slice none 0 0] n) 30)) Z0 (.slice sa n sc) cs w3.heap.size on (idxF O) w4.heap.size n (fun _ => .slice none 0 0) (fun i => rankL O (cs.getD i Cv.z).2) 0) := hid (by
    have hzl := HD.out.lt _ _ _ H0.out
    have hbA : Below w.heap.size w (w4.alloc (.cells (madeCells #[.slice none 0 0] n) 30)) := HB4.out.alloc HB4.out.size _
    have hzA : (w4.alloc (.cells (madeCells #[.slice none 0 0] n) 30)).heap.size = w4.heap.size + 1 := by simp
    refine ⟨hbA.mono (Nat.zero_le _), fun k hk _ => hbA.block k hk, fun k hk => by have := hzl k hk; omega, ?_, HM4.out.later (Below.heap_alloc _ _ _ hz4), ⟨by omega, by omega, fun hz => by have := hzl _ hz; omega, by omega⟩, hrow,
      ⟨by omega, by omega, fun hz => by have := hzl _ hz; omega⟩, fun i hi => absurd hi (by omega)⟩
    refine (HCS.out.keep fun p hp => (World.cell?_alloc_lt _ _ _ (by have := hp.2; omega)).trans (HB24.out.cell (p := p) hp.2)).more fun b hb => ⟨by have := hb.1; omega, by have := hb.2; omega, fun hz => by have h1 := hzl _ hz; have h2 := hb.1; omega, by have := hb.2; omega⟩)
  have HJ0 : Hid (J [] Z0 (w4.alloc (.cells (madeCells #[.slice none 0 0] n) 30))) := hid (by
    have hzl := HD.out.lt _ _ _ H0.out
    have hbA : Below w.heap.size w (w4.alloc (.cells (madeCells #[.slice none 0 0] n) 30)) := HB4.out.alloc HB4.out.size _
    exact HD.out.keep _ _ _ _ H0.out hbA.size fun b hb _ => hbA.block b hb)
  clear hm4 hb4 hrow
  go_wp2_with fail
  clear hmk
  generalize w4.alloc (.cells (madeCells #[.slice none 0 0] n) 30) = W0 at *
  generalize w4.heap.size = rb at *
  generalize w3.heap.size = mb at *
  subst hLA
  go_loopg [30] n (fun N i wr => ∃ (q : Nat) (Z : Nat → Prop) (f : Nat → Value), q + N = n ∧ i = .int .i64 (q : Int) ∧ Hid (CmpSt w wr Z (.slice sa n sc) cs mb on (idxF O) rb n f (fun i => rankL O (cs.getD i Cv.z).2) q ∧ J (prN q) Z wr ∧ (∀ b, Z0 b → Z b) ∧ (∀ b, Z b → Z0 b ∨ w.heap.size ≤ b)))
  case atStart => exact ⟨0, Z0, _, by omega, rfl, hid ⟨HST0.out, HJ0.out, fun _ h => h, fun _ h => .inl h⟩⟩
  case round =>
    obtain ⟨q, Z, f, hq, rfl, HST⟩ := hrel
    by_cases hp : 0 < gk
    · have hqn : q < n := by omega
      obtain ⟨vv, ⟨sa', sc', es, -, -, hrd⟩, hkid⟩ := HST.out.1.sets
      rw [HN.out] at es hrd hkid
      obtain ⟨rfl, -, rfl⟩ := Value.slice.inj es
      obtain ⟨b, o, rfl, hb, hcell⟩ := hrd (by omega)
      have k0 : wr.cell? ⟨b, o + q * 3, none⟩ = some (.int .i64 (cs.getD q Cv.z).1.1) := hcell q hqn 0 (by omega)
      have k1 : wr.cell? ⟨b, o + q * 3 + 1, none⟩ = some (.int .i64 ((cs.getD q Cv.z).1.2 : Int)) := hcell q hqn 1 (by omega)
      have k2 : wr.cell? ⟨b, o + q * 3 + 2, none⟩ = some (vv q) := hcell q hqn 2 (by omega)
      have HKQ := hid (hkid q hqn)
      obtain ⟨xa, xc, e1, -, -, -⟩ := HKQ.out
      rw [e1] at k2 HKQ
      have hqc : q < cs.length := by rw [HN.out]; exact hqn
      have HSX := hid (HCV.out.str _ (getD_mem hqc Cv.z))
      have HLX := hid (HCV.out.len _ (getD_mem hqc Cv.z))
      have HRQ : Hid (rankL O (cs.getD q Cv.z).2 = upL ((cs.getD q Cv.z).2.filterMap (idxF O))) := hid rfl
      have HCE : Hid (∃ c, c = cs.getD q Cv.z) := hid ⟨_, rfl⟩
      clear hcell hrd hkid es e1
      obtain ⟨c, hce⟩ := HCE.out
      have HCEQ := hid hce
      rw [← hce] at k0 k1 HKQ HSX HLX HRQ
      rw [← hce] at k2
      clear hce HCE
      obtain ⟨⟨r1, r2⟩, X⟩ := c
      simp only at k0 k1 k2 HKQ HSX HLX HRQ
      generalize hxl : X.length = xl at *
      have HXL := hid hxl
      clear hxl
      have hzr : w.heap.size ≤ wr.heap.size := HST.out.1.frame.size
      have HBA := hid ((Below.refl wr.heap.size wr).alloc (Nat.le_refl _) (.cells #[.int .i64 r1, .int .i64 (r2 : Int), .slice xa xl xc] 145))
      have HSB := hid (BoxN.new wr #[.int .i64 r1, .int .i64 (r2 : Int), .slice xa xl xc] 145)
      have hzA : (wr.alloc (.cells #[.int .i64 r1, .int .i64 (r2 : Int), .slice xa xl xc] 145)).heap.size = wr.heap.size + 1 := by simp
      have HST1 := hid (HST.out.1.later HBA.out)
      have HJ1 : Hid (J (prN q) Z (wr.alloc (.cells #[.int .i64 r1, .int .i64 (r2 : Int), .slice xa xl xc] 145))) := hid (HD.out.keep _ _ _ _ HST.out.2.1 HBA.out.size fun b hb _ => HBA.out.block b hb)
      have HRK : Hid (Calls Tryz.prog 40 #[.map (some mb), .slice xa xl xc] (wr.alloc (.cells #[.int .i64 r1, .int .i64 (r2 : Int), .slice xa xl xc] 145)) (GivesN (wr.alloc (.cells #[.int .i64 r1, .int .i64 (r2 : Int), .slice xa xl xc] 145)) (rankL O X))) := hid (by
        have hx := HKQ.out
        exact sig_ranked mb on (idxF O) (.slice xa xl xc) X wr.heap.size _ HST1.out.mapI ((InK.keep hx fun p hp => World.cell?_alloc_lt _ _ _ hp.2.1).more fun b hb => hb.2.1) (by omega) HSX.out (by rw [HXL.out]; have := HLX.out; omega))
      obtain ⟨wo, rfl⟩ : ∃ wo, wo = wr := ⟨wr, rfl⟩
      obtain ⟨ko, rfl⟩ : ∃ ko, ko = gk := ⟨gk, rfl⟩
      generalize hLB : Code.loop _ = LB
      have s2 := HSB.out.cell 2 rfl
      go_wp2_with fail
      with_reducible refine HRK.out.mono ?_
      clear k0 k1 k2 s2 HRK
      generalize wo.alloc (.cells #[.int .i64 r1, .int .i64 (r2 : Int), .slice xa xl xc] 145) = W1 at *
      rintro e w5 ⟨ra, rc, rfl, hr5, hb5⟩
      have HST5 := hid (HST1.out.later hb5)
      have HJ5 : Hid (J (prN q) Z w5) := hid (HD.out.keep _ _ _ _ HJ1.out hb5.size fun b hb _ => hb5.block b hb)
      have HSB5 := hid (HSB.out.below hb5 HSB.out.lt)
      have HRV : Hid (InN w5 (CB w w5 Z rb) (.slice ra (rankL O X).length rc) (rankL O X)) := hid (hr5.more fun b hb => by
        have h1 := HST.out.1.zlt
        have h2 := HST.out.1.rowb.2.1
        exact ⟨by have := hb.1; omega, hb.2, fun hz => by have := h1 b hz; have := hb.1; omega, by have := hb.1; omega⟩)
      have hz5 := hb5.size
      clear hr5 hb5
      generalize (rankL O X).length = rl at *
      have fr := HST5.out.row.frozen q
      have cr := HST5.out.row.cell (i := q) hqn
      have HST6 : Hid (CmpSt w (w5.setCell ⟨rb, q, none⟩ (.slice ra rl rc)) Z (.slice (some ⟨b, o, none⟩) n sc) cs mb on (idxF O) rb n (fun j => if j = q then .slice ra rl rc else f j) (fun i => rankL O (cs.getD i Cv.z).2) (q + 1)) := hid (HST5.out.store hqn (by
        show InN w5 (CB w w5 Z rb) (.slice ra rl rc) (rankL O (cs.getD q Cv.z).2)
        rw [← HCEQ.out]
        exact HRV.out))
      have HJ6 : Hid (J (prN q) Z (w5.setCell ⟨rb, q, none⟩ (.slice ra rl rc))) := hid (HD.out.keep _ _ _ _ HJ5.out (by simp) fun b hb hzz => Below.heap_setCell _ _ _ _ (by
        show b ≠ rb
        rintro rfl
        rcases hzz with h1 | h1
        · exact HST5.out.rowb.2.2 h1
        · have := HST5.out.rowb.1; omega))
      have hrbs : rb ≠ wo.heap.size := by have := HST.out.1.rowb.2.1; omega
      have HSB6 : Hid (BoxN (w5.setCell ⟨rb, q, none⟩ (.slice ra rl rc)) wo.heap.size 145 #[.int .i64 r1, .int .i64 (r2 : Int), .slice xa xl xc] ∧ ¬ Z wo.heap.size) := hid ⟨HSB5.out.other (p := ⟨rb, q, none⟩) hrbs _, fun hz => by have := HST.out.1.zlt _ hz; omega⟩
      go_wp2_with fail
      clear fr cr
      have HZS := hid HST.out.2.2
      clear HST HST1 HST5 HJ1 HJ5 HSB HSB5 HRV HBA
      generalize w5.setCell ⟨rb, q, none⟩ (.slice ra rl rc) = W6 at *
      subst hLB
      go_loopg [43] q (fun N i W => ∃ (k : Nat) (Z : Nat → Prop), k + N = q ∧ i = .int .i64 (k : Int) ∧ Hid (CmpSt w W Z (.slice (some ⟨b, o, none⟩) n sc) cs mb on (idxF O) rb n (fun j => if j = q then .slice ra rl rc else f j) (fun i => rankL O (cs.getD i Cv.z).2) (q + 1) ∧ J (prN q ++ prK q k) Z W ∧ (∀ b, Z0 b → Z b) ∧ (∀ b, Z b → Z0 b ∨ w.heap.size ≤ b)) ∧
        Hid (BoxN W wo.heap.size 145 #[.int .i64 r1, .int .i64 (r2 : Int), .slice xa xl xc] ∧ ¬ Z wo.heap.size))
      case atStart => exact ⟨0, Z, by omega, rfl, hid ⟨HST6.out, by simpa [prK] using HJ6.out, HZS.out.1, HZS.out.2⟩, HSB6⟩
      case round =>
        obtain ⟨k, Z1, hkq, rfl, HSK, HSKB⟩ := hrel
        by_cases hpk : 0 < gk
        · have hkk : k < q := by omega
          have hkn : k < n := by omega
          obtain ⟨vv1, ⟨sa', sc', es, -, -, hrd⟩, -⟩ := HSK.out.1.sets
          rw [HN.out] at es hrd
          obtain ⟨e9, -, rfl⟩ := Value.slice.inj es
          obtain ⟨b9, o9, e8, -, hcell⟩ := hrd (by omega)
          rw [← e9] at e8
          obtain ⟨rfl, rfl⟩ : b = b9 ∧ o = o9 := by injection e8 with e8; injection e8 with h1 h2; exact ⟨h1, h2⟩
          have k0 : wr.cell? ⟨b, o + k * 3, none⟩ = some (.int .i64 (cs.getD k Cv.z).1.1) := hcell k (by omega) 0 (by omega)
          have k1 : wr.cell? ⟨b, o + k * 3 + 1, none⟩ = some (.int .i64 ((cs.getD k Cv.z).1.2 : Int)) := hcell k (by omega) 1 (by omega)
          have s0 := HSKB.out.1.cell 0 rfl
          have s1 := HSKB.out.1.cell 1 rfl
          have c1 := HSK.out.1.row.cell (i := k) (by omega)
          have c2 := HSK.out.1.row.cell (i := q) hqn
          rw [if_neg (by omega)] at c1
          rw [if_pos rfl] at c2
          have hrk := HSK.out.1.ranks k (by omega)
          have hrq := HSK.out.1.ranks q (by omega)
          rw [if_neg (by omega)] at hrk
          rw [if_pos rfl] at hrq
          have HRK := hid hrk
          have HRQ2 := hid hrq
          obtain ⟨fa, fc, ef, -⟩ := hrk
          rw [ef] at c1 HRK
          clear hcell hrd es ef hrq e8 e9
          have hzr6 := HSK.out.1.frame.size
          have HDO : Hid (∀ W', Below wr.heap.size wr W' → Calls Tryz.prog 59 #[.agg #[.int .i64 (cs.getD k Cv.z).1.1, .int .i64 ((cs.getD k Cv.z).1.2 : Int)], .agg #[.int .i64 r1, .int .i64 (r2 : Int)], .slice fa (rankL O (cs.getD k Cv.z).2).length fc, .slice ra rl rc, .pointer (some pn), .pointer (some po)] W'
              (fun e W'' => e = .returned (.tuple #[]) ∧ ∃ Z', J (prN q ++ prK q k ++ [(k, q)]) Z' W'' ∧ StepZ Z1 Z' wr W'')) := hid (fun W' hW => by
            have h := HD.out.call O HOK.out (prN q ++ prK q k) k q Z1 W' (.slice fa (rankL O (cs.getD k Cv.z).2).length fc) (.slice ra rl rc) (CB w wr Z1 rb) hkk (by rw [HN.out]; exact hqn) (pr_len (by omega) hkk) (HD.out.keep _ _ _ _ HSK.out.2.1 hW.size fun b hb _ => hW.block b hb) (Nat.le_trans hzr6 hW.size)
              (fun b hb => ⟨Nat.lt_of_lt_of_le hb.2.1 hW.size, hb.2.2.1⟩) (InK.keep HRK.out fun p hp => hW.cell (p := p) hp.2.1) (InK.keep HRQ2.out fun p hp => hW.cell (p := p) hp.2.1)
            rw [← HCEQ.out] at h
            refine (show Calls Tryz.prog 59 _ W' _ from h).mono fun e W'' ⟨h1, Z', h2, h3⟩ => ⟨h1, Z', h2, ?_⟩
            exact ⟨(hW.mono (Nat.zero_le _)).trans h3.below, h3.more, fun b hb => (h3.new b hb).imp id fun h => Nat.le_trans hW.size h, h3.lt, fun b hb hz => (h3.block b (Nat.lt_of_lt_of_le hb hW.size) hz).trans (hW.block b hb)⟩)
          have HQ6 := hid (Below.refl wr.heap.size wr)
          generalize (cs.getD k Cv.z).1.1 = p1 at *
          generalize ((cs.getD k Cv.z).1.2 : Int) = p2 at *
          generalize (rankL O (cs.getD k Cv.z).2).length = fl at *
          go_wp2_with fail
          go_region_law ((go_simp; go_at_call 59; go_must (((with_reducible refine (HDO.out _ (by have := HQ6.out; repeat' (first | (with_reducible exact Below.refl _ _) | (with_reducible assumption) | (with_reducible refine below_drewN ?_) | (with_reducible refine Below.alloc ?_ ?_ _) | (with_reducible refine Below.drew ?_) | (with_reducible refine Below.setCell ?_ ?_ _) | (with_reducible refine Below.trans ?_ (Below.mono (by with_reducible assumption) ?_)) | go_size))).mono ?_); rintro e w9 ⟨rfl, Z9, hj9, hs9⟩; have HJ9 := hid hj9; have HS9 := hid hs9; clear hj9 hs9))))
          all_goals
            clear k0 k1 s0 s1 c1 c2
            have HST9 := hid (HSK.out.1.step HS9.out)
            have HZ9 : Hid ((∀ b, Z0 b → Z9 b) ∧ (∀ b, Z9 b → Z0 b ∨ w.heap.size ≤ b)) := hid ⟨fun b hb => HS9.out.more b (HSK.out.2.2.1 b hb), fun b hb => by
              rcases HS9.out.new b hb with h1 | h1
              · exact HSK.out.2.2.2 b h1
              · right; omega⟩
            have HSB9 : Hid (BoxN w9 wo.heap.size 145 #[.int .i64 r1, .int .i64 (r2 : Int), .slice xa xl xc] ∧ ¬ Z9 wo.heap.size) := hid ⟨(HS9.out.block _ HSKB.out.1.lt HSKB.out.2).trans HSKB.out.1, HS9.out.not HSKB.out.1.lt HSKB.out.2⟩
            have HJ9' : Hid (J (prN q ++ prK q (k + 1)) Z9 w9) := hid (by rw [prK_succ, ← List.append_assoc]; exact HJ9.out)
            go_wp2
            go_roundg (gk - 1)
            case rel => exact ⟨k + 1, Z9, by omega, by go_num, hid ⟨HST9.out, HJ9'.out, HZ9.out.1, HZ9.out.2⟩, HSB9⟩
            case measure => omega
        · obtain rfl : k = q := by omega
          go_wp2_with fail
          go_roundg (ko - 1)
          case rel => exact ⟨k + 1, Z1, _, by omega, by go_num, hid ⟨HSK.out.1, by rw [prN_succ]; exact HSK.out.2.1, HSK.out.2.2.1, HSK.out.2.2.2⟩⟩
          case measure => omega
    · obtain rfl : q = n := by omega
      have HF : Hid (∃ Z', J (prN q) Z' wr ∧ StepZ Z0 Z' w wr) := hid ⟨Z, HST.out.2.1, HST.out.1.frame, HST.out.2.2.1, HST.out.2.2.2, HST.out.1.zlt, fun b hb hz => HST.out.1.old b hb fun h2 => by
        rcases HST.out.2.2.2 b h2 with h3 | h3
        · exact hz h3
        · omega⟩
      go_wp2
      go_ret
      exact ⟨rfl, HF.out⟩

end Go.Proofs.YtabemneoobbnaaaGreatDoor
