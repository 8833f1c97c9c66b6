/- What the closure of signature.Tried does at a pair of columns; contract of signature.Tried. -/
import Derived.Test.YtabemneoobbnaaaGreatDoorKn
import Derived.Test.YtabemneoobbnaaaGreatDoorKp
namespace Go.Proofs.YtabemneoobbnaaaGreatDoor
open Go.RowKit Go.Shelf

/-- what the closure of Tried keeps: the count, in the variable's box -/
structure JT (nb ob need : Nat) (cs : List Cv) (l : List (Nat × Nat)) (W : World) : Prop where
  want : W.cell? ⟨nb, 0, none⟩ = some (.int .i64 (need : Int))
  cnt : ∃ m : Nat, BoxN W ob 3 #[.int .i64 (m : Int)] ∧ (outL cs need l).length ≤ m ∧ m ≤ l.length

set_option maxRecDepth 100000 in
set_option maxHeartbeats 4000000 in
theorem tried_call (nb ob need : Nat) (cs : List Cv) (O : List ByteArray) (l : List (Nat × Nat)) (k i : Nat) (W : World) (vx vy : Value) (S : Nat → Prop) (hV : ColsV cs) (hn1 : 1 ≤ need) (hn2 : need ≤ 1048576) (hO : OkO cs O) (hki : k < i) (hi : i < cs.length) (hl : l.length ≤ 4294967296)
    (hJ : JT nb ob need cs l W) (hne : nb ≠ ob) (hS : ∀ b, S b → b < W.heap.size ∧ b ≠ ob) (hx : InN W S vx (rankL O (cs.getD k Cv.z).2)) (hy : InN W S vy (rankL O (cs.getD i Cv.z).2)) :
    Calls Tryz.prog 64 #[.agg #[.int .i64 (cs.getD k Cv.z).1.1, .int .i64 ((cs.getD k Cv.z).1.2 : Int)], .agg #[.int .i64 (cs.getD i Cv.z).1.1, .int .i64 ((cs.getD i Cv.z).1.2 : Int)], vx, vy, .pointer (some ⟨nb, 0, none⟩), .pointer (some ⟨ob, 0, none⟩)] W
      (fun e W' => e = .returned (.tuple #[]) ∧ JT nb ob need cs (l ++ [(k, i)]) W' ∧ StepZ (fun b => b = ob) (fun b => b = ob) W W') := by
  have hkc : k < cs.length := by omega
  have hXO : ∀ x ∈ (cs.getD k Cv.z).2, x ∈ O := fun x hx => (hO.2 x).2 (List.mem_flatMap.2 ⟨_, getD_mem hkc Cv.z, hx⟩)
  have hYO : ∀ x ∈ (cs.getD i Cv.z).2, x ∈ O := fun x hx => (hO.2 x).2 (List.mem_flatMap.2 ⟨_, getD_mem hi Cv.z, hx⟩)
  have hnd : (cs.getD k Cv.z).2.Nodup := (hV.sets _ (getD_mem hkc Cv.z)).imp fun {a b} h e => by subst e; rw [sl_irrefl] at h; cases h
  have hov := ov_rank hXO hYO hnd
  have hla : (rankL O (cs.getD k Cv.z).2).length ≤ 4096 := Nat.le_trans (rank_len hXO) (hV.len _ (getD_mem hkc Cv.z))
  have hlb : (rankL O (cs.getD i Cv.z).2).length ≤ 4096 := Nat.le_trans (rank_len hYO) (hV.len _ (getD_mem hi Cv.z))
  have hua : Up (rankL O (cs.getD k Cv.z).2) := upL_up _
  have hub : Up (rankL O (cs.getD i Cv.z).2) := upL_up _
  have HSN := hid (outL_snoc cs need l k i)
  have HLL : Hid ((outL cs need l).length ≤ 4294967296) := hid (Nat.le_trans (outL_len cs need l) hl)
  rw [← hov] at HSN
  have HMT : Hid (need ≤ ovL (rankL O (cs.getD k Cv.z).2) (rankL O (cs.getD i Cv.z).2) → 0 < ovL ((rankL O (cs.getD k Cv.z).2).take (prefL (rankL O (cs.getD k Cv.z).2).length need)) ((rankL O (cs.getD i Cv.z).2).take (prefL (rankL O (cs.getD i Cv.z).2).length need))) := hid (fun h => prefixes_meet hua hub hn1 h)
  clear hXO hYO hnd hov hV hO hki hi hkc
  generalize (cs.getD k Cv.z).1 = ra at *
  generalize (cs.getD i Cv.z).1 = rb at *
  generalize rankL O (cs.getD k Cv.z).2 = A at *
  generalize rankL O (cs.getD i Cv.z).2 = B at *
  obtain ⟨p1, p2⟩ := ra
  obtain ⟨q1, q2⟩ := rb
  obtain ⟨xa, xc, rfl, -⟩ := id hx
  obtain ⟨ya, yc, rfl, -⟩ := id hy
  have HX := hid hx
  have HY := hid hy
  have hz2' : ((W.alloc (.cells #[.int .i64 p1, .int .i64 (p2 : Int)] 47)).alloc (.cells #[.int .i64 q1, .int .i64 (q2 : Int)] 47)).heap.size = W.heap.size + 2 := by simp
  have HW2 := hid (((Below.refl W.heap.size W).alloc (Nat.le_refl _) (.cells #[.int .i64 p1, .int .i64 (p2 : Int)] 47)).alloc (by simp) (.cells #[.int .i64 q1, .int .i64 (q2 : Int)] 47))
  have HRA := hid ((BoxN.new W #[.int .i64 p1, .int .i64 (p2 : Int)] 47).alloc (.cells #[.int .i64 q1, .int .i64 (q2 : Int)] 47))
  have HRB := hid (BoxN.new (W.alloc (.cells #[.int .i64 p1, .int .i64 (p2 : Int)] 47)) #[.int .i64 q1, .int .i64 (q2 : Int)] 47)
  rw [World.size_alloc] at HRB
  have HSX : Hid (∀ W', Below W.heap.size W W' → Calls Tryz.prog 14 #[.slice xa A.length xc, .int .i64 (need : Int)] W' (GivesN W' (A.take (prefL A.length need)))) := hid (fun W' hW => sig_Signature _ A need W.heap.size W' ((InK.keep hx fun p hp => hW.cell (p := p) (hS _ hp).1).more fun b hb => (hS b hb).1) hW.size (by omega) hn2)
  have HSY : Hid (∀ W', Below W.heap.size W W' → Calls Tryz.prog 14 #[.slice ya B.length yc, .int .i64 (need : Int)] W' (GivesN W' (B.take (prefL B.length need)))) := hid (fun W' hW => sig_Signature _ B need W.heap.size W' ((InK.keep hy fun p hp => hW.cell (p := p) (hS _ hp).1).more fun b hb => (hS b hb).1) hW.size (by omega) hn2)
  have HOV : Hid (∀ W' va vb, InN W' (fun _ => True) va (A.take (prefL A.length need)) → InN W' (fun _ => True) vb (B.take (prefL B.length need)) → Calls Tryz.prog 15 #[va, vb] W' (Quiet W' (.int .i64 ((ovL (A.take (prefL A.length need)) (B.take (prefL B.length need)) : Nat) : Int)))) := hid (fun W' va vb h1 h2 => sig_Overlap va vb _ _ _ _ W' h1 h2 (up_take hua _) (up_take hub _))
  have HXY : Hid (∀ W', Below W.heap.size W W' → Calls Tryz.prog 15 #[.slice xa A.length xc, .slice ya B.length yc] W' (Quiet W' (.int .i64 ((ovL A B : Nat) : Int)))) := hid (fun W' hW => sig_Overlap _ _ A B _ _ W' (InK.keep hx fun p hp => hW.cell (p := p) (hS _ hp).1) (InK.keep hy fun p hp => hW.cell (p := p) (hS _ hp).1) hua hub)
  have hos : ovL (A.take (prefL A.length need)) (B.take (prefL B.length need)) ≤ 4096 := Nat.le_trans (ov_le_left _ _) (by rw [List.length_take]; omega)
  have n0 := hJ.want
  obtain ⟨m, hbx, hm1, hm2⟩ := hJ.cnt
  have HBX := hid hbx
  clear hx hy hS hJ hbx hua hub HXY
  generalize A.take (prefL A.length need) = sA at *
  generalize B.take (prefL B.length need) = sB at *
  generalize ovL sA sB = s at *
  generalize ovL A B = t at *
  generalize A.length = al at *
  generalize B.length = bl at *
  have HOL : Hid ((outL cs need (l ++ [(k, i)])).length ≤ if 0 < s then m + 1 else m) := hid (by
    have e := HSN.out
    by_cases ht : need ≤ t
    · rw [if_pos (HMT.out ht), e, if_pos ht, List.length_append, List.length_singleton]; omega
    · rw [e, if_neg ht]
      split <;> omega)
  have hnl := World.block_lt_of_cell? _ _ n0
  have hol := HBX.out.lt
  have n0' : ((W.alloc (.cells #[.int .i64 p1, .int .i64 (p2 : Int)] 47)).alloc (.cells #[.int .i64 q1, .int .i64 (q2 : Int)] 47)).cell? ⟨nb, 0, none⟩ = some (.int .i64 (need : Int)) := (HW2.out.cell (p := ⟨nb, 0, none⟩) hnl).trans n0
  have N0 := hid n0
  clear n0
  go_enter Tryz.func64, Tryz.ntmps64
  go_upto_region 1 with fail
  generalize (W.alloc (.cells #[.int .i64 p1, .int .i64 (p2 : Int)] 47)).alloc (.cells #[.int .i64 q1, .int .i64 (q2 : Int)] 47) = U2 at *
  have hwu := HW2.out.size
  have hnU : nb < U2.heap.size := Nat.lt_of_lt_of_le hnl hwu
  have HSX2 := hid (fun W' (hW : Below U2.heap.size U2 W') => HSX.out W' (HW2.out.trans (hW.mono hwu)))
  have HSY2 := hid (fun W' (hW : Below U2.heap.size U2 W') => HSY.out W' (HW2.out.trans (hW.mono hwu)))
  have HQ2 := hid (Below.refl U2.heap.size U2)
  clear HSX HSY
  by_cases hs : 0 < s
  · have hs2 : decide ((0 : Int) < (s : Int)) = true := decide_eq_true (by omega)
    have hs3 : decide (0 < s) = true := decide_eq_true hs
    have HOL2 := HOL.out
    rw [if_pos hs] at HOL2
    go_region_held3 (fun w' => w'.cell? ⟨nb, 0, none⟩ = some (.int .i64 (need : Int)))
      (first | exact u0 | exact t0 | exact s0 | go_keep)
      (first
        | (go_at_call 14; go_must (first | ((with_reducible refine (HSX2.out _ (by have h1 := HQ2.out; repeat' (first | (with_reducible exact Below.refl _ _) | (with_reducible assumption) | (with_reducible refine below_drewN ?_) | (with_reducible refine Below.alloc ?_ ?_ _) | (with_reducible refine Below.drew ?_) | (with_reducible refine Below.setCell ?_ ?_ _) | (with_reducible refine Below.trans ?_ (Below.mono (by with_reducible assumption) ?_)) | go_size))).mono ?_); rintro e ws ⟨ra, rc, rfl, hr, hbs⟩; have HCS : Hid (Below U2.heap.size U2 ws) := hid (by have h1 := HQ2.out; repeat' (first | (with_reducible exact Below.refl _ _) | (with_reducible assumption) | (with_reducible refine below_drewN ?_) | (with_reducible refine Below.alloc ?_ ?_ _) | (with_reducible refine Below.drew ?_) | (with_reducible refine Below.setCell ?_ ?_ _) | (with_reducible refine Below.trans ?_ (Below.mono (by with_reducible assumption) ?_)) | go_size)); have HRS := hid (fun W' (hW : Below ws.heap.size ws W') => InN.any (InK.keep hr fun p hp => hW.cell (p := p) hp.2)); have HQS := hid (Below.refl ws.heap.size ws); have s0 := (HCS.out.cell (p := ⟨nb, 0, none⟩) hnU).trans n0'; have hzs := HCS.out.size; clear hr hbs) | ((with_reducible refine (HSY2.out _ (by have h1 := HCS.out; repeat' (first | (with_reducible exact Below.refl _ _) | (with_reducible assumption) | (with_reducible refine below_drewN ?_) | (with_reducible refine Below.alloc ?_ ?_ _) | (with_reducible refine Below.drew ?_) | (with_reducible refine Below.setCell ?_ ?_ _) | (with_reducible refine Below.trans ?_ (Below.mono (by with_reducible assumption) ?_)) | go_size))).mono ?_); rintro e wt ⟨rb, rd, rfl, hr, hbt⟩; have HCT : Hid (Below U2.heap.size U2 wt) := hid (by have h1 := HCS.out; repeat' (first | (with_reducible exact Below.refl _ _) | (with_reducible assumption) | (with_reducible refine below_drewN ?_) | (with_reducible refine Below.alloc ?_ ?_ _) | (with_reducible refine Below.drew ?_) | (with_reducible refine Below.setCell ?_ ?_ _) | (with_reducible refine Below.trans ?_ (Below.mono (by with_reducible assumption) ?_)) | go_size)); have HST : Hid (Below ws.heap.size ws wt) := hid (by have h1 := HQS.out; repeat' (first | (with_reducible exact Below.refl _ _) | (with_reducible assumption) | (with_reducible refine below_drewN ?_) | (with_reducible refine Below.alloc ?_ ?_ _) | (with_reducible refine Below.drew ?_) | (with_reducible refine Below.setCell ?_ ?_ _) | (with_reducible refine Below.trans ?_ (Below.mono (by with_reducible assumption) ?_)) | go_size)); have HRT := hid (fun W' (hW : Below wt.heap.size wt W') => InN.any (InK.keep hr fun p hp => hW.cell (p := p) hp.2)); have HQT := hid (Below.refl wt.heap.size wt); have t0 := (HCT.out.cell (p := ⟨nb, 0, none⟩) hnU).trans n0'; have hzt := HCT.out.size; clear hr hbt)))
        | (go_at_call 15; go_must (((with_reducible refine (HOV.out _ _ _ (HRS.out _ (by have h1 := HST.out; repeat' (first | (with_reducible exact Below.refl _ _) | (with_reducible assumption) | (with_reducible refine below_drewN ?_) | (with_reducible refine Below.alloc ?_ ?_ _) | (with_reducible refine Below.drew ?_) | (with_reducible refine Below.setCell ?_ ?_ _) | (with_reducible refine Below.trans ?_ (Below.mono (by with_reducible assumption) ?_)) | go_size))) (HRT.out _ (by have h1 := HQT.out; repeat' (first | (with_reducible exact Below.refl _ _) | (with_reducible assumption) | (with_reducible refine below_drewN ?_) | (with_reducible refine Below.alloc ?_ ?_ _) | (with_reducible refine Below.drew ?_) | (with_reducible refine Below.setCell ?_ ?_ _) | (with_reducible refine Below.trans ?_ (Below.mono (by with_reducible assumption) ?_)) | go_size)))).mono ?_); rintro e wu ⟨rfl, hqu⟩; have HCU : Hid (Below U2.heap.size U2 wu) := hid (by obtain ⟨ku, h⟩ := hqu; rw [h]; have h1 := HCT.out; repeat' (first | (with_reducible exact Below.refl _ _) | (with_reducible assumption) | (with_reducible refine below_drewN ?_) | (with_reducible refine Below.alloc ?_ ?_ _) | (with_reducible refine Below.drew ?_) | (with_reducible refine Below.setCell ?_ ?_ _) | (with_reducible refine Below.trans ?_ (Below.mono (by with_reducible assumption) ?_)) | go_size)); have u0 := (HCU.out.cell (p := ⟨nb, 0, none⟩) hnU).trans n0'; have hzu := HCU.out.size; clear hqu))))
    all_goals
      have HWV := hid (HW2.out.trans (HCU.out.mono hwu))
      have HBV := hid (HBX.out.below HWV.out hol)
      have o0 := HBV.out.cell 0 rfl
      have f0 := HBV.out.frozen 0
      clear s0 t0 u0 n0'
      go_wp2
      go_end0
      refine ⟨rfl, ⟨?_, m + 1, ?_, HOL2, ?_⟩, ?_⟩
      · exact (World.cell?_setCell_other _ _ _ _ (by intro e; injection e with e; exact hne e.symm)).trans ((HWV.out.cell (p := ⟨nb, 0, none⟩) hnl).trans N0.out)
      · have h := HBV.out.set 0 (.int .i64 ((m : Int) + 1))
        rw [show ((m + 1 : Nat) : Int) = (m : Int) + 1 by omega]
        exact h
      · rw [List.length_append, List.length_singleton]; omega
      · exact ⟨(HWV.out.mono (Nat.zero_le _)).setCell (p := ⟨ob, 0, none⟩) (Nat.zero_le _) _, fun _ h => h, fun _ h => .inl h, fun b hb => by rw [World.size_setCell, hb]; exact Nat.lt_of_lt_of_le hol HWV.out.size, fun b hb hz => (Below.heap_setCell _ _ _ _ hz).trans (HWV.out.block b hb)⟩
  · have hs2 : decide ((0 : Int) < (s : Int)) = false := decide_eq_false (by omega)
    have hs3 : decide (0 < s) = false := decide_eq_false hs
    have HOL2 := HOL.out
    rw [if_neg hs] at HOL2
    go_region_held3 (fun w' => w'.cell? ⟨nb, 0, none⟩ = some (.int .i64 (need : Int)))
      (first | exact u0 | exact t0 | exact s0 | go_keep)
      (first
        | (go_at_call 14; go_must (first | ((with_reducible refine (HSX2.out _ (by have h1 := HQ2.out; repeat' (first | (with_reducible exact Below.refl _ _) | (with_reducible assumption) | (with_reducible refine below_drewN ?_) | (with_reducible refine Below.alloc ?_ ?_ _) | (with_reducible refine Below.drew ?_) | (with_reducible refine Below.setCell ?_ ?_ _) | (with_reducible refine Below.trans ?_ (Below.mono (by with_reducible assumption) ?_)) | go_size))).mono ?_); rintro e ws ⟨ra, rc, rfl, hr, hbs⟩; have HCS : Hid (Below U2.heap.size U2 ws) := hid (by have h1 := HQ2.out; repeat' (first | (with_reducible exact Below.refl _ _) | (with_reducible assumption) | (with_reducible refine below_drewN ?_) | (with_reducible refine Below.alloc ?_ ?_ _) | (with_reducible refine Below.drew ?_) | (with_reducible refine Below.setCell ?_ ?_ _) | (with_reducible refine Below.trans ?_ (Below.mono (by with_reducible assumption) ?_)) | go_size)); have HRS := hid (fun W' (hW : Below ws.heap.size ws W') => InN.any (InK.keep hr fun p hp => hW.cell (p := p) hp.2)); have HQS := hid (Below.refl ws.heap.size ws); have s0 := (HCS.out.cell (p := ⟨nb, 0, none⟩) hnU).trans n0'; have hzs := HCS.out.size; clear hr hbs) | ((with_reducible refine (HSY2.out _ (by have h1 := HCS.out; repeat' (first | (with_reducible exact Below.refl _ _) | (with_reducible assumption) | (with_reducible refine below_drewN ?_) | (with_reducible refine Below.alloc ?_ ?_ _) | (with_reducible refine Below.drew ?_) | (with_reducible refine Below.setCell ?_ ?_ _) | (with_reducible refine Below.trans ?_ (Below.mono (by with_reducible assumption) ?_)) | go_size))).mono ?_); rintro e wt ⟨rb, rd, rfl, hr, hbt⟩; have HCT : Hid (Below U2.heap.size U2 wt) := hid (by have h1 := HCS.out; repeat' (first | (with_reducible exact Below.refl _ _) | (with_reducible assumption) | (with_reducible refine below_drewN ?_) | (with_reducible refine Below.alloc ?_ ?_ _) | (with_reducible refine Below.drew ?_) | (with_reducible refine Below.setCell ?_ ?_ _) | (with_reducible refine Below.trans ?_ (Below.mono (by with_reducible assumption) ?_)) | go_size)); have HST : Hid (Below ws.heap.size ws wt) := hid (by have h1 := HQS.out; repeat' (first | (with_reducible exact Below.refl _ _) | (with_reducible assumption) | (with_reducible refine below_drewN ?_) | (with_reducible refine Below.alloc ?_ ?_ _) | (with_reducible refine Below.drew ?_) | (with_reducible refine Below.setCell ?_ ?_ _) | (with_reducible refine Below.trans ?_ (Below.mono (by with_reducible assumption) ?_)) | go_size)); have HRT := hid (fun W' (hW : Below wt.heap.size wt W') => InN.any (InK.keep hr fun p hp => hW.cell (p := p) hp.2)); have HQT := hid (Below.refl wt.heap.size wt); have t0 := (HCT.out.cell (p := ⟨nb, 0, none⟩) hnU).trans n0'; have hzt := HCT.out.size; clear hr hbt)))
        | (go_at_call 15; go_must (((with_reducible refine (HOV.out _ _ _ (HRS.out _ (by have h1 := HST.out; repeat' (first | (with_reducible exact Below.refl _ _) | (with_reducible assumption) | (with_reducible refine below_drewN ?_) | (with_reducible refine Below.alloc ?_ ?_ _) | (with_reducible refine Below.drew ?_) | (with_reducible refine Below.setCell ?_ ?_ _) | (with_reducible refine Below.trans ?_ (Below.mono (by with_reducible assumption) ?_)) | go_size))) (HRT.out _ (by have h1 := HQT.out; repeat' (first | (with_reducible exact Below.refl _ _) | (with_reducible assumption) | (with_reducible refine below_drewN ?_) | (with_reducible refine Below.alloc ?_ ?_ _) | (with_reducible refine Below.drew ?_) | (with_reducible refine Below.setCell ?_ ?_ _) | (with_reducible refine Below.trans ?_ (Below.mono (by with_reducible assumption) ?_)) | go_size)))).mono ?_); rintro e wu ⟨rfl, hqu⟩; have HCU : Hid (Below U2.heap.size U2 wu) := hid (by obtain ⟨ku, h⟩ := hqu; rw [h]; have h1 := HCT.out; repeat' (first | (with_reducible exact Below.refl _ _) | (with_reducible assumption) | (with_reducible refine below_drewN ?_) | (with_reducible refine Below.alloc ?_ ?_ _) | (with_reducible refine Below.drew ?_) | (with_reducible refine Below.setCell ?_ ?_ _) | (with_reducible refine Below.trans ?_ (Below.mono (by with_reducible assumption) ?_)) | go_size)); have u0 := (HCU.out.cell (p := ⟨nb, 0, none⟩) hnU).trans n0'; have hzu := HCU.out.size; clear hqu))))
    all_goals
      have HWV := hid (HW2.out.trans (HCU.out.mono hwu))
      have HBV := hid (HBX.out.below HWV.out hol)
      clear s0 t0 u0 n0'
      go_wp2
      go_end0
      refine ⟨rfl, ⟨(HWV.out.cell (p := ⟨nb, 0, none⟩) hnl).trans N0.out, m, HBV.out, HOL2, ?_⟩, ?_⟩
      · rw [List.length_append, List.length_singleton]; omega
      · exact StepZ.of_below (fun b hb => by rw [hb]; exact hol) HWV.out

theorem tried_ok (nb ob need : Nat) (cs : List Cv) (w : World) (hV : ColsV cs) (hn1 : 1 ≤ need) (hn2 : need ≤ 1048576) (hnb : nb < w.heap.size) (hne : nb ≠ ob) :
    DoOk 64 #[.pointer (some ⟨nb, 0, none⟩), .pointer (some ⟨ob, 0, none⟩)] w cs (fun l Z W => JT nb ob need cs l W ∧ Z = fun b => b = ob) where
  lt l Z W h b hb := by
    obtain ⟨h1, rfl⟩ := h
    obtain ⟨m, hbx, -⟩ := h1.cnt
    rw [hb]
    exact hbx.lt
  keep l Z W W' h hs hb := by
    obtain ⟨h1, rfl⟩ := h
    obtain ⟨m, hbx, h2⟩ := h1.cnt
    have hnl := World.block_lt_of_cell? _ _ h1.want
    exact ⟨⟨(World.cell?_of_block (hb nb hnl (.inr hnb))).trans h1.want, m, (hb ob hbx.lt (.inl rfl)).trans hbx, h2⟩, rfl⟩
  call O hO l k i Z W vx vy S hki hi hl hJ hw hS hx hy := by
    obtain ⟨h1, rfl⟩ := hJ
    exact (tried_call nb ob need cs O l k i W vx vy S hV hn1 hn2 hO hki hi hl h1 hne hS hx hy).mono fun e W' ⟨h2, h3, h4⟩ => ⟨h2, _, ⟨h3, rfl⟩, h4⟩

def TriedP (w : World) (n mx : Nat) (e : Ending) (w' : World) : Prop :=
  ∃ m : Nat, e = .returned (.tuple #[.int .i64 (m : Int), .int .i64 0]) ∧ n ≤ m ∧ m ≤ mx ∧ Below w.heap.size w w'

set_option maxRecDepth 100000 in
set_option maxHeartbeats 4000000 in
theorem sig_Tried (v : Value) (ts : List Ta) (B need : Nat) (w : World) (h : ListV ts) (hv : RdTa w (· < B) v ts) (hB : B ≤ w.heap.size) (hT : Tabs w) (hn1 : 1 ≤ need) (hn2 : need ≤ 1048576) :
    Calls Tryz.prog 31 #[v, .int .i64 (need : Int)] w (TriedP w (outL (cvsL ts) need (prN (cvsL ts).length)).length (prN (cvsL ts).length).length) := by
  have hV := colsV_of h
  have hz2 : ((w.alloc (.cells #[.int .i64 (need : Int)] 3)).alloc (.cells #[.int .i64 0] 3)).heap.size = w.heap.size + 2 := by simp
  have hBW : Below w.heap.size w ((w.alloc (.cells #[.int .i64 (need : Int)] 3)).alloc (.cells #[.int .i64 0] 3)) := ((Below.refl _ w).alloc (Nat.le_refl _) _).alloc (by simp) _
  have HBW := hid hBW
  have hnb := (BoxN.new w #[.int .i64 (need : Int)] 3).alloc (.cells #[.int .i64 0] 3)
  have hob := BoxN.new (w.alloc (.cells #[.int .i64 (need : Int)] 3)) #[.int .i64 0] 3
  rw [World.size_alloc] at hob
  have n0 : ((w.alloc (.cells #[.int .i64 (need : Int)] 3)).alloc (.cells #[.int .i64 0] 3)).cell? ⟨w.heap.size, 0, none⟩ = some (.int .i64 (need : Int)) := hnb.cell 0 rfl
  have HCM : Hid (Calls Tryz.prog 58 #[v, .int .i64 (need : Int), .func (.func 64) #[] #[.pointer (some ⟨w.heap.size, 0, none⟩), .pointer (some ⟨w.heap.size + 1, 0, none⟩)]] ((w.alloc (.cells #[.int .i64 (need : Int)] 3)).alloc (.cells #[.int .i64 0] 3))
      (fun e w' => e = .returned (.int .i64 0) ∧ ∃ Z', (JT w.heap.size (w.heap.size + 1) need (cvsL ts) (prN (cvsL ts).length) w' ∧ Z' = fun b => b = w.heap.size + 1) ∧ StepZ (fun b => b = w.heap.size + 1) Z' ((w.alloc (.cells #[.int .i64 (need : Int)] 3)).alloc (.cells #[.int .i64 0] 3)) w')) := hid
    (sig_compareT v ts w.heap.size need ⟨w.heap.size, 0, none⟩ ⟨w.heap.size + 1, 0, none⟩ _ (fun b => b = w.heap.size + 1) _ h ((hv.keep fun p (hp : p.block < B) => hBW.cell (p := p) (by omega)).more fun b hb => Nat.lt_of_lt_of_le hb hB) (by omega) (hT.below hBW) hn1 hn2
      (tried_ok w.heap.size (w.heap.size + 1) need (cvsL ts) _ hV hn1 hn2 (by omega) (by omega))
      ⟨⟨n0, 0, hob, Nat.le_of_eq rfl, Nat.le_refl _⟩, rfl⟩)
  generalize prN (cvsL ts).length = pl at *
  obtain ⟨a, c, rfl⟩ : ∃ a c, v = .slice a ts.length c := by
    obtain ⟨tv, ⟨a, c, e, -⟩, -⟩ := hv
    exact ⟨a, c, e⟩
  generalize ts.length = L at *
  clear h hv hT hV hBW hnb hob
  go_enter Tryz.func31, Tryz.ntmps31
  go_wp2_with fail
  with_reducible refine HCM.out.mono ?_
  clear HCM n0
  generalize (w.alloc (.cells #[.int .i64 (need : Int)] 3)).alloc (.cells #[.int .i64 0] 3) = W2 at *
  rintro e w3 ⟨rfl, Z', ⟨hj, -⟩, hs⟩
  obtain ⟨m, hbx, hm1, hm2⟩ := hj.cnt
  have o0 := hbx.cell 0 rfl
  have HB3 : Hid (Below w.heap.size w w3) := hid ⟨hs.below.os.trans HBW.out.os, hs.below.tape.trans HBW.out.tape, hs.below.output.trans HBW.out.output, Nat.le_trans HBW.out.size hs.below.size, fun k hk => (hs.block k (by omega) (by omega)).trans (HBW.out.block k hk)⟩
  have HM := hid (And.intro hm1 hm2)
  clear hj hs hbx hm1 hm2
  go_wp2
  go_ret2
  exact ⟨m, rfl, HM.out.1, HM.out.2, HB3.out⟩

end Go.Proofs.YtabemneoobbnaaaGreatDoor
