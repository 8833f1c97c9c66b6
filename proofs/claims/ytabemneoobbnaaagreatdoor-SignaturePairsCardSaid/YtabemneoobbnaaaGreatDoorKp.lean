/- What the closure of signature.Pairs does at a pair of columns. -/
import Derived.Test.YtabemneoobbnaaaGreatDoorKq
namespace Go.Proofs.YtabemneoobbnaaaGreatDoor
open Go.RowKit Go.Shelf

theorem cell_four_at {w : World} {b : Nat} (x y z u : Value) (t : TypeId) (hb : b = w.heap.size) : ∀ j v, [x, y, z, u][j]? = some v → (w.alloc (.cells #[x, y, z, u] t)).cell? ((⟨b, 0, none⟩ : Addr).add j) = some v := by
  subst hb
  intro j v hv
  rw [Addr.add_lit, World.cell?_alloc_at _ _ _ _ rfl]
  simpa using hv
theorem InN.any {W : World} {S : Nat → Prop} {v : Value} {xs : List Nat} (h : InN W S v xs) : InN W (fun _ => True) v xs := InK.more h fun _ _ => trivial
theorem JP.lt' {base nb ob need : Nat} {cs : List Cv} {l : List (Nat × Nat)} {Z : Nat → Prop} {W : World} (h : JP base nb ob need cs l Z W) : ∀ b, Z b → b < W.heap.size := fun b hb => (h.lt b hb).2
theorem JP.keep {base nb ob need s : Nat} {cs : List Cv} {l : List (Nat × Nat)} {Z : Nat → Prop} {W W' : World} (h : JP base nb ob need cs l Z W) (hnb : nb < s) (hs : W.heap.size ≤ W'.heap.size) (hb : ∀ b, b < W.heap.size → (Z b ∨ b < s) → W'.heap[b]? = W.heap[b]?) : JP base nb ob need cs l Z W' := by
  obtain ⟨a, c, h1, h2, h3⟩ := h.row
  have hnl := World.block_lt_of_cell? _ _ h.want
  refine ⟨(World.cell?_of_block (hb nb hnl (.inr hnb))).trans h.want, ⟨a, c, (hb ob (h.lt ob h.box).2 (.inl h.box)).trans h1, own_of_block h2 fun b hbb => hb b (h.lt b (h3 b hbb).1).2 (.inl (h3 b hbb).1), h3⟩, h.box, fun b hbz => ⟨(h.lt b hbz).1, Nat.lt_of_lt_of_le (h.lt b hbz).2 hs⟩⟩

set_option maxRecDepth 100000 in
set_option maxHeartbeats 4000000 in
theorem pairs_call (base nb ob need : Nat) (cs : List Cv) (O : List ByteArray) (l : List (Nat × Nat)) (k i : Nat) (Z : Nat → Prop) (W : World) (vx vy : Value) (S : Nat → Prop) (hV : ColsV cs) (hn1 : 1 ≤ need) (hn2 : need ≤ 1048576) (hO : OkO cs O) (hki : k < i) (hi : i < cs.length) (hl : l.length ≤ 4294967296)
    (hJ : JP base nb ob need cs l Z W) (hS : ∀ b, S b → b < W.heap.size ∧ ¬ Z b) (hx : InN W S vx (rankL O (cs.getD k Cv.z).2)) (hy : InN W S vy (rankL O (cs.getD i Cv.z).2)) (hbase : base ≤ W.heap.size) (hnz : ¬ Z nb) :
    Calls Tryz.prog 59 #[.agg #[.int .i64 (cs.getD k Cv.z).1.1, .int .i64 ((cs.getD k Cv.z).1.2 : Int)], .agg #[.int .i64 (cs.getD i Cv.z).1.1, .int .i64 ((cs.getD i Cv.z).1.2 : Int)], vx, vy, .pointer (some ⟨nb, 0, none⟩), .pointer (some ⟨ob, 0, none⟩)] W
      (fun e W' => e = .returned (.tuple #[]) ∧ ∃ Z', JP base nb ob need cs (l ++ [(k, i)]) Z' W' ∧ StepZ Z Z' W W') := by
  have hkc : k < cs.length := by omega
  have hXO : ∀ x ∈ (cs.getD k Cv.z).2, x ∈ O := fun x hx => (hO.2 x).2 (List.mem_flatMap.2 ⟨_, getD_mem hkc Cv.z, hx⟩)
  have hYO : ∀ x ∈ (cs.getD i Cv.z).2, x ∈ O := fun x hx => (hO.2 x).2 (List.mem_flatMap.2 ⟨_, getD_mem hi Cv.z, hx⟩)
  have hnd : (cs.getD k Cv.z).2.Nodup := (hV.sets _ (getD_mem hkc Cv.z)).imp fun {a b} h e => by subst e; rw [sl_irrefl] at h; cases h
  have hov := ov_rank hXO hYO hnd
  have hla : (rankL O (cs.getD k Cv.z).2).length ≤ 4096 := Nat.le_trans (rank_len hXO) (hV.len _ (getD_mem hkc Cv.z))
  have hlb : (rankL O (cs.getD i Cv.z).2).length ≤ 4096 := Nat.le_trans (rank_len hYO) (hV.len _ (getD_mem hi Cv.z))
  have hua : Up (rankL O (cs.getD k Cv.z).2) := upL_up _
  have hub : Up (rankL O (cs.getD i Cv.z).2) := upL_up _
  have HSN := hid (outL_snoc cs need l k i)
  have HLL : Hid ((outL cs need l).length ≤ 4294967296) := hid (Nat.le_trans (outL_len cs need l) hl)
  rw [← hov] at HSN
  have HMT : Hid (need ≤ ovL (rankL O (cs.getD k Cv.z).2) (rankL O (cs.getD i Cv.z).2) → 0 < ovL ((rankL O (cs.getD k Cv.z).2).take (prefL (rankL O (cs.getD k Cv.z).2).length need)) ((rankL O (cs.getD i Cv.z).2).take (prefL (rankL O (cs.getD i Cv.z).2).length need))) := hid (fun h => prefixes_meet hua hub hn1 h)
  clear hXO hYO hnd hov hV hO hki hi hkc
  generalize (cs.getD k Cv.z).1 = ra at *
  generalize (cs.getD i Cv.z).1 = rb at *
  generalize rankL O (cs.getD k Cv.z).2 = A at *
  generalize rankL O (cs.getD i Cv.z).2 = B at *
  obtain ⟨p1, p2⟩ := ra
  obtain ⟨q1, q2⟩ := rb
  obtain ⟨xa, xc, rfl, -⟩ := id hx
  obtain ⟨ya, yc, rfl, -⟩ := id hy
  have HX := hid hx
  have HY := hid hy
  have hz2' : ((W.alloc (.cells #[.int .i64 p1, .int .i64 (p2 : Int)] 47)).alloc (.cells #[.int .i64 q1, .int .i64 (q2 : Int)] 47)).heap.size = W.heap.size + 2 := by simp
  have HW2 := hid (((Below.refl W.heap.size W).alloc (Nat.le_refl _) (.cells #[.int .i64 p1, .int .i64 (p2 : Int)] 47)).alloc (by simp) (.cells #[.int .i64 q1, .int .i64 (q2 : Int)] 47))
  have HRA := hid ((BoxN.new W #[.int .i64 p1, .int .i64 (p2 : Int)] 47).alloc (.cells #[.int .i64 q1, .int .i64 (q2 : Int)] 47))
  have HRB := hid (BoxN.new (W.alloc (.cells #[.int .i64 p1, .int .i64 (p2 : Int)] 47)) #[.int .i64 q1, .int .i64 (q2 : Int)] 47)
  rw [World.size_alloc] at HRB
  have HSX : Hid (∀ W', Below W.heap.size W W' → Calls Tryz.prog 14 #[.slice xa A.length xc, .int .i64 (need : Int)] W' (GivesN W' (A.take (prefL A.length need)))) := hid (fun W' hW => sig_Signature _ A need W.heap.size W' ((InK.keep hx fun p hp => hW.cell (p := p) (hS _ hp).1).more fun b hb => (hS b hb).1) hW.size (by omega) hn2)
  have HSY : Hid (∀ W', Below W.heap.size W W' → Calls Tryz.prog 14 #[.slice ya B.length yc, .int .i64 (need : Int)] W' (GivesN W' (B.take (prefL B.length need)))) := hid (fun W' hW => sig_Signature _ B need W.heap.size W' ((InK.keep hy fun p hp => hW.cell (p := p) (hS _ hp).1).more fun b hb => (hS b hb).1) hW.size (by omega) hn2)
  have HOV : Hid (∀ W' va vb, InN W' (fun _ => True) va (A.take (prefL A.length need)) → InN W' (fun _ => True) vb (B.take (prefL B.length need)) → Calls Tryz.prog 15 #[va, vb] W' (Quiet W' (.int .i64 ((ovL (A.take (prefL A.length need)) (B.take (prefL B.length need)) : Nat) : Int)))) := hid (fun W' va vb h1 h2 => sig_Overlap va vb _ _ _ _ W' h1 h2 (up_take hua _) (up_take hub _))
  have HXY : Hid (∀ W', Below W.heap.size W W' → Calls Tryz.prog 15 #[.slice xa A.length xc, .slice ya B.length yc] W' (Quiet W' (.int .i64 ((ovL A B : Nat) : Int)))) := hid (fun W' hW => sig_Overlap _ _ A B _ _ W' (InK.keep hx fun p hp => hW.cell (p := p) (hS _ hp).1) (InK.keep hy fun p hp => hW.cell (p := p) (hS _ hp).1) hua hub)
  have hot : ovL A B ≤ 4096 := Nat.le_trans (ov_le_left A B) hla
  have hos : ovL (A.take (prefL A.length need)) (B.take (prefL B.length need)) ≤ 4096 := Nat.le_trans (ov_le_left _ _) (by rw [List.length_take]; omega)
  have n0 := hJ.want
  have HJ := hid hJ
  have HNZ := hid hnz
  obtain ⟨oa, oc, hbx, hrow, hrz⟩ := hJ.row
  have HBX := hid hbx
  have HROW := hid hrow
  have HRZ := hid hrz
  clear hx hy hS hJ hbx hrow hrz hua hub hnz
  generalize A.take (prefL A.length need) = sA at *
  generalize B.take (prefL B.length need) = sB at *
  generalize ovL sA sB = s at *
  generalize ovL A B = t at *
  generalize A.length = al at *
  generalize B.length = bl at *
  have hnl := World.block_lt_of_cell? _ _ n0
  have n0' : ((W.alloc (.cells #[.int .i64 p1, .int .i64 (p2 : Int)] 47)).alloc (.cells #[.int .i64 q1, .int .i64 (q2 : Int)] 47)).cell? ⟨nb, 0, none⟩ = some (.int .i64 (need : Int)) := (HW2.out.cell (p := ⟨nb, 0, none⟩) hnl).trans n0
  clear n0
  go_enter Tryz.func59, Tryz.ntmps59
  go_upto_region 1 with fail
  generalize (W.alloc (.cells #[.int .i64 p1, .int .i64 (p2 : Int)] 47)).alloc (.cells #[.int .i64 q1, .int .i64 (q2 : Int)] 47) = U2 at *
  have hwu := HW2.out.size
  have hnU : nb < U2.heap.size := Nat.lt_of_lt_of_le hnl hwu
  have HSX2 := hid (fun W' (hW : Below U2.heap.size U2 W') => HSX.out W' (HW2.out.trans (hW.mono hwu)))
  have HSY2 := hid (fun W' (hW : Below U2.heap.size U2 W') => HSY.out W' (HW2.out.trans (hW.mono hwu)))
  have HXY2 := hid (fun W' (hW : Below U2.heap.size U2 W') => HXY.out W' (HW2.out.trans (hW.mono hwu)))
  have HQ2 := hid (Below.refl U2.heap.size U2)
  have HNO : Hid (¬ need ≤ t → ∀ W', Below W.heap.size W W' → ∃ Z', JP base nb ob need cs (l ++ [(k, i)]) Z' W' ∧ StepZ Z Z' W W') := hid (fun h W' hW => by
    have hj := HJ.out.keep (s := W.heap.size) hnl hW.size fun b hb _ => hW.block b hb
    have e := HSN.out
    rw [if_neg h] at e
    refine ⟨Z, ⟨hj.want, by rw [e]; exact hj.row, hj.box, hj.lt⟩, StepZ.of_below HJ.out.lt' hW⟩)
  clear HSX HSY HXY
  by_cases hs : 0 < s
  · have hs2 : decide ((0 : Int) < (s : Int)) = true := decide_eq_true (by omega)
    go_region_held3 (fun w' => w'.cell? ⟨nb, 0, none⟩ = some (.int .i64 (need : Int)))
      (first | exact v0 | exact u0 | exact t0 | exact s0 | go_keep)
      (first
        | (go_at_call 14; go_must (first | ((with_reducible refine (HSX2.out _ (by have h1 := HQ2.out; repeat' (first | (with_reducible exact Below.refl _ _) | (with_reducible assumption) | (with_reducible refine below_drewN ?_) | (with_reducible refine Below.alloc ?_ ?_ _) | (with_reducible refine Below.drew ?_) | (with_reducible refine Below.setCell ?_ ?_ _) | (with_reducible refine Below.trans ?_ (Below.mono (by with_reducible assumption) ?_)) | go_size))).mono ?_); rintro e ws ⟨ra, rc, rfl, hr, hbs⟩; have HCS : Hid (Below U2.heap.size U2 ws) := hid (by have h1 := HQ2.out; repeat' (first | (with_reducible exact Below.refl _ _) | (with_reducible assumption) | (with_reducible refine below_drewN ?_) | (with_reducible refine Below.alloc ?_ ?_ _) | (with_reducible refine Below.drew ?_) | (with_reducible refine Below.setCell ?_ ?_ _) | (with_reducible refine Below.trans ?_ (Below.mono (by with_reducible assumption) ?_)) | go_size)); have HRS := hid (fun W' (hW : Below ws.heap.size ws W') => InN.any (InK.keep hr fun p hp => hW.cell (p := p) hp.2)); have HQS := hid (Below.refl ws.heap.size ws); have s0 := (HCS.out.cell (p := ⟨nb, 0, none⟩) hnU).trans n0'; have hzs := HCS.out.size; clear hr hbs) | ((with_reducible refine (HSY2.out _ (by have h1 := HCS.out; repeat' (first | (with_reducible exact Below.refl _ _) | (with_reducible assumption) | (with_reducible refine below_drewN ?_) | (with_reducible refine Below.alloc ?_ ?_ _) | (with_reducible refine Below.drew ?_) | (with_reducible refine Below.setCell ?_ ?_ _) | (with_reducible refine Below.trans ?_ (Below.mono (by with_reducible assumption) ?_)) | go_size))).mono ?_); rintro e wt ⟨rb, rd, rfl, hr, hbt⟩; have HCT : Hid (Below U2.heap.size U2 wt) := hid (by have h1 := HCS.out; repeat' (first | (with_reducible exact Below.refl _ _) | (with_reducible assumption) | (with_reducible refine below_drewN ?_) | (with_reducible refine Below.alloc ?_ ?_ _) | (with_reducible refine Below.drew ?_) | (with_reducible refine Below.setCell ?_ ?_ _) | (with_reducible refine Below.trans ?_ (Below.mono (by with_reducible assumption) ?_)) | go_size)); have HST : Hid (Below ws.heap.size ws wt) := hid (by have h1 := HQS.out; repeat' (first | (with_reducible exact Below.refl _ _) | (with_reducible assumption) | (with_reducible refine below_drewN ?_) | (with_reducible refine Below.alloc ?_ ?_ _) | (with_reducible refine Below.drew ?_) | (with_reducible refine Below.setCell ?_ ?_ _) | (with_reducible refine Below.trans ?_ (Below.mono (by with_reducible assumption) ?_)) | go_size)); have HRT := hid (fun W' (hW : Below wt.heap.size wt W') => InN.any (InK.keep hr fun p hp => hW.cell (p := p) hp.2)); have HQT := hid (Below.refl wt.heap.size wt); have t0 := (HCT.out.cell (p := ⟨nb, 0, none⟩) hnU).trans n0'; have hzt := HCT.out.size; clear hr hbt)))
        | (go_at_call 15; go_must (first | ((with_reducible refine (HOV.out _ _ _ (HRS.out _ (by have h1 := HST.out; repeat' (first | (with_reducible exact Below.refl _ _) | (with_reducible assumption) | (with_reducible refine below_drewN ?_) | (with_reducible refine Below.alloc ?_ ?_ _) | (with_reducible refine Below.drew ?_) | (with_reducible refine Below.setCell ?_ ?_ _) | (with_reducible refine Below.trans ?_ (Below.mono (by with_reducible assumption) ?_)) | go_size))) (HRT.out _ (by have h1 := HQT.out; repeat' (first | (with_reducible exact Below.refl _ _) | (with_reducible assumption) | (with_reducible refine below_drewN ?_) | (with_reducible refine Below.alloc ?_ ?_ _) | (with_reducible refine Below.drew ?_) | (with_reducible refine Below.setCell ?_ ?_ _) | (with_reducible refine Below.trans ?_ (Below.mono (by with_reducible assumption) ?_)) | go_size)))).mono ?_); rintro e wu ⟨rfl, hqu⟩; have HCU : Hid (Below U2.heap.size U2 wu) := hid (by obtain ⟨ku, h⟩ := hqu; rw [h]; have h1 := HCT.out; repeat' (first | (with_reducible exact Below.refl _ _) | (with_reducible assumption) | (with_reducible refine below_drewN ?_) | (with_reducible refine Below.alloc ?_ ?_ _) | (with_reducible refine Below.drew ?_) | (with_reducible refine Below.setCell ?_ ?_ _) | (with_reducible refine Below.trans ?_ (Below.mono (by with_reducible assumption) ?_)) | go_size)); have u0 := (HCU.out.cell (p := ⟨nb, 0, none⟩) hnU).trans n0'; have hzu := HCU.out.size; clear hqu) | ((with_reducible refine (HXY2.out _ (by have h1 := HCU.out; repeat' (first | (with_reducible exact Below.refl _ _) | (with_reducible assumption) | (with_reducible refine below_drewN ?_) | (with_reducible refine Below.alloc ?_ ?_ _) | (with_reducible refine Below.drew ?_) | (with_reducible refine Below.setCell ?_ ?_ _) | (with_reducible refine Below.trans ?_ (Below.mono (by with_reducible assumption) ?_)) | go_size))).mono ?_); rintro e wv ⟨rfl, hqv⟩; have HCV : Hid (Below U2.heap.size U2 wv) := hid (by obtain ⟨kv, h⟩ := hqv; rw [h]; have h1 := HCU.out; repeat' (first | (with_reducible exact Below.refl _ _) | (with_reducible assumption) | (with_reducible refine below_drewN ?_) | (with_reducible refine Below.alloc ?_ ?_ _) | (with_reducible refine Below.drew ?_) | (with_reducible refine Below.setCell ?_ ?_ _) | (with_reducible refine Below.trans ?_ (Below.mono (by with_reducible assumption) ?_)) | go_size)); have v0 := (HCV.out.cell (p := ⟨nb, 0, none⟩) hnU).trans n0'; clear hqv))))
    all_goals
      have HWV := hid (HW2.out.trans (HCV.out.mono hwu))
      clear s0 t0 u0 v0 n0'
      by_cases ht : need ≤ t
      · have hd : decide (need ≤ t) = true := decide_eq_true ht
        rw [hd]
        have e := HSN.out
        rw [if_pos ht] at e
        have HE := hid e
        clear e hd
        have HBV := hid (HBX.out.below HWV.out HBX.out.lt)
        have HOWV : Hid (wv.ownsRow base 72 4 (.slice oa (outL cs need l).length oc) (outL cs need l).length (flatK 4 (outL cs need l).length (rpF (outL cs need l)))) := hid (own_of_block HROW.out fun b hb => HWV.out.block b (HJ.out.lt b (HRZ.out b hb).1).2)
        have HPU := hid (rp_push (outL cs need l) ((p1, p2), (q1, q2)))
        simp only at HPU
        obtain ⟨i0, hi0, hz0, hz1, hz2⟩ := info_parts info_rp
        have hLL := HLL.out
        generalize outL cs need l = LO at *
        generalize hlo : LO.length = lo at *
        have HLO := hid hlo
        clear hlo
        have o0 := HBV.out.cell 0 rfl
        have r0 := (HRA.out.below HCV.out (by omega)).cell 0 rfl
        have r1 := (HRA.out.below HCV.out (by omega)).cell 1 rfl
        have r2 := (HRB.out.below HCV.out (by omega)).cell 0 rfl
        have r3 := (HRB.out.below HCV.out (by omega)).cell 1 rfl
        have hzv := HWV.out.size
        have hobl := HJ.out.lt ob HJ.out.box
        go_wp2_with (at_builtin; refine wpList_append_form _ rfl _ _ 67 67 rfl base 72 72 i0 (.agg #[.int .i64 0, .int .i64 0, .int .i64 0, .int .i64 0]) 4 32 Tryz.underlying67 Tryz.underlying67 hi0 hz0 hz1 hz2 rfl (by decide) (.slice oa lo oc) lo (flatK 4 lo (rpF LO)) rfl (HOWV.out.alloc _) (some ⟨_, 0, none⟩) 1 1 [.int .i64 p1, .int .i64 (p2 : Int), .int .i64 q1, .int .i64 (q2 : Int)] rfl rfl (fun _ => ⟨_, rfl, cell_four_at _ _ _ _ _ (by simp)⟩) (by intro u hu; simp at hu; rcases hu with rfl | rfl | rfl | rfl <;> rfl) (by omega) (by unfold maxLen; omega) (by omega) (by simp; omega) ?_; intro p9 cap9 w9 hown9 hg9 hat9 hlt9; have HOWN9 := hid hown9; have HG9 := hid hg9; have HAT9 := hid hat9; have hb9 := (HBV.out.alloc (.cells #[.int .i64 p1, .int .i64 (p2 : Int), .int .i64 q1, .int .i64 (q2 : Int)] 72)).grown hg9 (fun e => (HRZ.out ob e.symm).2 rfl); have o1 := hb9.cell 0 rfl; have f1 := hb9.frozen 0; have HB9 := hid hb9; clear hown9 hg9 hat9 hb9 o0)
        have hobw : ob < W.heap.size := HJ.out.lt' ob HJ.out.box
        have hz9 : (wv.alloc (.cells #[.int .i64 p1, .int .i64 (p2 : Int), .int .i64 q1, .int .i64 (q2 : Int)] 72)).heap.size = wv.heap.size + 1 := by simp
        have hs9 := HG9.out.size
        have hpl : p9 < w9.heap.size := (HOWN9.out.lt p9 rfl).2
        have hpb : base ≤ p9 := (HOWN9.out.lt p9 rfl).1
        have hp9 : p9 ≠ ob := fun e => by
          rcases HAT9.out with h1 | h1
          · exact (HRZ.out p9 h1).2 e
          · omega
        have hpz : Z p9 ∨ W.heap.size ≤ p9 := by
          rcases HAT9.out with h1 | h1
          · exact .inl (HRZ.out p9 h1).1
          · right; omega
        have HBLK : ∀ b, b < W.heap.size → ¬ Z b → (w9.setCell ⟨ob, 0, none⟩ (.slice (some ⟨p9, 0, none⟩) (lo + 1) cap9)).heap[b]? = W.heap[b]? := fun b hb hz => by
          have hbo : b ≠ ob := fun e => hz (e ▸ HJ.out.box)
          rw [Below.heap_setCell _ _ _ _ hbo, HG9.out.block b (by omega) (fun e => hz (HRZ.out b e.symm).1), Below.heap_alloc _ _ _ (by omega)]
          exact HWV.out.block b hb
        have HFIN : Hid (∃ Z', JP base nb ob need cs (l ++ [(k, i)]) Z' (w9.setCell ⟨ob, 0, none⟩ (.slice (some ⟨p9, 0, none⟩) (lo + 1) cap9)) ∧ StepZ Z Z' W (w9.setCell ⟨ob, 0, none⟩ (.slice (some ⟨p9, 0, none⟩) (lo + 1) cap9))) := hid (by
          refine ⟨fun b => Z b ∨ b = p9, ⟨(World.cell?_of_block (HBLK nb hnl HNZ.out)).trans HJ.out.want, ?_, .inl HJ.out.box, fun b hb => ?_⟩, ⟨?_, fun b hb => .inl hb, fun b hb => ?_, fun b hb => ?_, HBLK⟩⟩
          · have hll : (outL cs need (l ++ [(k, i)])).length = lo + 1 := by rw [HE.out, List.length_append, List.length_singleton, HLO.out]
            rw [hll, HE.out]
            refine ⟨some ⟨p9, 0, none⟩, cap9, ?_, own_of_block (w := w9) ?_ fun b hb => ?_, fun b hb => ?_⟩
            · have := HB9.out.set 0 (.slice (some ⟨p9, 0, none⟩) (lo + 1) cap9)
              simpa using this
            · have h := HOWN9.out
              rw [HPU.out, List.length_append, List.length_singleton, HLO.out] at h
              exact h
            · have e1 : p9 = b := by simpa [Value.ownBlock] using hb
              exact Below.heap_setCell _ _ _ _ (by show b ≠ ob; omega)
            · have e1 : p9 = b := by simpa [Value.ownBlock] using hb
              exact ⟨.inr e1.symm, by omega⟩
          · rw [World.size_setCell]
            rcases hb with h1 | rfl
            · have := HJ.out.lt b h1; omega
            · exact ⟨hpb, hpl⟩
          · exact (((HWV.out.mono (Nat.zero_le _)).alloc (Nat.zero_le _) _).trans ⟨HG9.out.os, HG9.out.tape, HG9.out.output, HG9.out.size, fun k hk => absurd hk (Nat.not_lt_zero _)⟩).setCell (p := ⟨ob, 0, none⟩) (Nat.zero_le _) _
          · rcases hb with h1 | rfl
            · exact .inl h1
            · exact hpz
          · rw [World.size_setCell]
            rcases hb with h1 | rfl
            · have := HJ.out.lt b h1; omega
            · exact hpl)
        go_end0
        exact ⟨rfl, HFIN.out⟩
      · have hd : decide (need ≤ t) = false := decide_eq_false ht
        rw [hd]
        have HF := hid (HNO.out ht _ HWV.out)
        go_wp2
        go_end0
        exact ⟨rfl, HF.out⟩
  · have hnt : ¬ need ≤ t := fun h => hs (HMT.out h)
    have hs2 : decide ((0 : Int) < (s : Int)) = false := decide_eq_false (by omega)
    have hs3 : decide (0 < s) = false := decide_eq_false hs
    first
    | (go_region_with (first
        | (go_at_call 14; go_must (first | ((with_reducible refine (HSX2.out _ (by have h1 := HQ2.out; repeat' (first | (with_reducible exact Below.refl _ _) | (with_reducible assumption) | (with_reducible refine below_drewN ?_) | (with_reducible refine Below.alloc ?_ ?_ _) | (with_reducible refine Below.drew ?_) | (with_reducible refine Below.setCell ?_ ?_ _) | (with_reducible refine Below.trans ?_ (Below.mono (by with_reducible assumption) ?_)) | go_size))).mono ?_); rintro e ws ⟨ra, rc, rfl, hr, hbs⟩; have HCS : Hid (Below U2.heap.size U2 ws) := hid (by have h1 := HQ2.out; repeat' (first | (with_reducible exact Below.refl _ _) | (with_reducible assumption) | (with_reducible refine below_drewN ?_) | (with_reducible refine Below.alloc ?_ ?_ _) | (with_reducible refine Below.drew ?_) | (with_reducible refine Below.setCell ?_ ?_ _) | (with_reducible refine Below.trans ?_ (Below.mono (by with_reducible assumption) ?_)) | go_size)); have HRS := hid (fun W' (hW : Below ws.heap.size ws W') => InN.any (InK.keep hr fun p hp => hW.cell (p := p) hp.2)); have HQS := hid (Below.refl ws.heap.size ws); have s0 := (HCS.out.cell (p := ⟨nb, 0, none⟩) hnU).trans n0'; have hzs := HCS.out.size; clear hr hbs) | ((with_reducible refine (HSY2.out _ (by have h1 := HCS.out; repeat' (first | (with_reducible exact Below.refl _ _) | (with_reducible assumption) | (with_reducible refine below_drewN ?_) | (with_reducible refine Below.alloc ?_ ?_ _) | (with_reducible refine Below.drew ?_) | (with_reducible refine Below.setCell ?_ ?_ _) | (with_reducible refine Below.trans ?_ (Below.mono (by with_reducible assumption) ?_)) | go_size))).mono ?_); rintro e wt ⟨rb, rd, rfl, hr, hbt⟩; have HCT : Hid (Below U2.heap.size U2 wt) := hid (by have h1 := HCS.out; repeat' (first | (with_reducible exact Below.refl _ _) | (with_reducible assumption) | (with_reducible refine below_drewN ?_) | (with_reducible refine Below.alloc ?_ ?_ _) | (with_reducible refine Below.drew ?_) | (with_reducible refine Below.setCell ?_ ?_ _) | (with_reducible refine Below.trans ?_ (Below.mono (by with_reducible assumption) ?_)) | go_size)); have HST : Hid (Below ws.heap.size ws wt) := hid (by have h1 := HQS.out; repeat' (first | (with_reducible exact Below.refl _ _) | (with_reducible assumption) | (with_reducible refine below_drewN ?_) | (with_reducible refine Below.alloc ?_ ?_ _) | (with_reducible refine Below.drew ?_) | (with_reducible refine Below.setCell ?_ ?_ _) | (with_reducible refine Below.trans ?_ (Below.mono (by with_reducible assumption) ?_)) | go_size)); have HRT := hid (fun W' (hW : Below wt.heap.size wt W') => InN.any (InK.keep hr fun p hp => hW.cell (p := p) hp.2)); have HQT := hid (Below.refl wt.heap.size wt); have t0 := (HCT.out.cell (p := ⟨nb, 0, none⟩) hnU).trans n0'; have hzt := HCT.out.size; clear hr hbt)))
        | (go_at_call 15; go_must (first | ((with_reducible refine (HOV.out _ _ _ (HRS.out _ (by have h1 := HST.out; repeat' (first | (with_reducible exact Below.refl _ _) | (with_reducible assumption) | (with_reducible refine below_drewN ?_) | (with_reducible refine Below.alloc ?_ ?_ _) | (with_reducible refine Below.drew ?_) | (with_reducible refine Below.setCell ?_ ?_ _) | (with_reducible refine Below.trans ?_ (Below.mono (by with_reducible assumption) ?_)) | go_size))) (HRT.out _ (by have h1 := HQT.out; repeat' (first | (with_reducible exact Below.refl _ _) | (with_reducible assumption) | (with_reducible refine below_drewN ?_) | (with_reducible refine Below.alloc ?_ ?_ _) | (with_reducible refine Below.drew ?_) | (with_reducible refine Below.setCell ?_ ?_ _) | (with_reducible refine Below.trans ?_ (Below.mono (by with_reducible assumption) ?_)) | go_size)))).mono ?_); rintro e wu ⟨rfl, hqu⟩; have HCU : Hid (Below U2.heap.size U2 wu) := hid (by obtain ⟨ku, h⟩ := hqu; rw [h]; have h1 := HCT.out; repeat' (first | (with_reducible exact Below.refl _ _) | (with_reducible assumption) | (with_reducible refine below_drewN ?_) | (with_reducible refine Below.alloc ?_ ?_ _) | (with_reducible refine Below.drew ?_) | (with_reducible refine Below.setCell ?_ ?_ _) | (with_reducible refine Below.trans ?_ (Below.mono (by with_reducible assumption) ?_)) | go_size)); have u0 := (HCU.out.cell (p := ⟨nb, 0, none⟩) hnU).trans n0'; have hzu := HCU.out.size; clear hqu) | ((with_reducible refine (HXY2.out _ (by have h1 := HCU.out; repeat' (first | (with_reducible exact Below.refl _ _) | (with_reducible assumption) | (with_reducible refine below_drewN ?_) | (with_reducible refine Below.alloc ?_ ?_ _) | (with_reducible refine Below.drew ?_) | (with_reducible refine Below.setCell ?_ ?_ _) | (with_reducible refine Below.trans ?_ (Below.mono (by with_reducible assumption) ?_)) | go_size))).mono ?_); rintro e wv ⟨rfl, hqv⟩; have HCV : Hid (Below U2.heap.size U2 wv) := hid (by obtain ⟨kv, h⟩ := hqv; rw [h]; have h1 := HCU.out; repeat' (first | (with_reducible exact Below.refl _ _) | (with_reducible assumption) | (with_reducible refine below_drewN ?_) | (with_reducible refine Below.alloc ?_ ?_ _) | (with_reducible refine Below.drew ?_) | (with_reducible refine Below.setCell ?_ ?_ _) | (with_reducible refine Below.trans ?_ (Below.mono (by with_reducible assumption) ?_)) | go_size)); have v0 := (HCV.out.cell (p := ⟨nb, 0, none⟩) hnU).trans n0'; clear hqv)))))
    | fail
    all_goals
      have HWV := hid (HW2.out.trans (HCU.out.mono hwu))
      clear s0 t0 u0 n0'
      have HF := hid (HNO.out hnt _ HWV.out)
      go_wp2
      go_end0
      exact ⟨rfl, HF.out⟩

theorem pairs_ok (base nb ob need : Nat) (cs : List Cv) (w : World) (hV : ColsV cs) (hn1 : 1 ≤ need) (hn2 : need ≤ 1048576) (hnb : nb < w.heap.size) (hbase : base ≤ w.heap.size) :
    DoOk 59 #[.pointer (some ⟨nb, 0, none⟩), .pointer (some ⟨ob, 0, none⟩)] w cs (fun l Z W => JP base nb ob need cs l Z W ∧ ¬ Z nb) where
  lt l Z W h := h.1.lt'
  keep l Z W W' h hs hb := ⟨h.1.keep hnb hs hb, h.2⟩
  call O hO l k i Z W vx vy S hki hi hl hJ hw hS hx hy := (pairs_call base nb ob need cs O l k i Z W vx vy S hV hn1 hn2 hO hki hi hl hJ.1 hS hx hy (Nat.le_trans hbase hw) hJ.2).mono fun e W' ⟨h1, Z', h2, h3⟩ =>
    ⟨h1, Z', ⟨h2, h3.not (Nat.lt_of_lt_of_le hnb hw) hJ.2⟩, h3⟩

end Go.Proofs.YtabemneoobbnaaaGreatDoor
