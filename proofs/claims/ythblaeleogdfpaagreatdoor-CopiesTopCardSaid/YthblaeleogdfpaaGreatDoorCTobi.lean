/- Contract of the reference's Put (chapter 28): a match is put into a ranked list. PRINTED by wip/tools/gen_rwq.py. -/
import Derived.BigQuiet
import Derived.Deep.Cut
import Derived.Deep.CutBlock
import Derived.Test.YthblaeleogdfpaaGreatDoorCTobf
import Derived.Test.YthblaeleogdfpaaGreatDoorCTobg
import Derived.Test.YthblaeleogdfpaaGreatDoorCTobh
import Derived.Test.YthblaeleogdfpaaGreatDoorCToag
set_option linter.unusedVariables false
set_option linter.unusedSimpArgs false
namespace Go.Proofs.YthblaeleogdfpaaGreatDoor
open Go.RowKit
def ltM (y x : Mh) : Prop := y.p * x.q < x.p * y.q
def PutP (w : World) (ds : List Mq) (x : Mq) (e : Ending) (w' : World) : Prop :=
  ∃ (k p cap : Nat), k ≤ ds.length ∧ e = .returned (.slice (some ⟨p, 0, none⟩) (ds.length + 1) cap) ∧ w'.ownsRow w.heap.size 135 6 (.slice (some ⟨p, 0, none⟩) (ds.length + 1) cap) (ds.length + 1) (FL (putI ds k x)) ∧
    (∀ j, k ≤ j → j < ds.length → ltM (ds.getD j default).1 x.1) ∧ (0 < k → ¬ ltM (ds.getD (k - 1) default).1 x.1) ∧ Below w.heap.size w w'
theorem step_append_ms {w : World} {ops : Array Oper} {o : Oper} {a : Act} {K : Act → World → Prop} {Q : Exit → Act → World → Prop} {E : Prop} (hgd : o.guard = none) (s x : Operand)
  (ho : o.op = .call { callee := .builtin .append, args := #[s, x], argTypes := #[81, 81] }) (hs : a.eval s = .slice none 0 0) {ao : Option Addr} {n c : Nat} (hx : a.eval x = .slice ao n c) (l : List Mq) (hn : n = l.length) (hl : n ≤ 1048576)
  (hr : 0 < n → ∃ b o, ao = some ⟨b, o, none⟩ ∧ ∀ (i : Nat) u, (FL l)[i]? = some u → w.cell? ⟨b, o + i, none⟩ = some u)
  (h : ∀ ua uc w', w'.ownsRow w.heap.size 135 6 (.slice ua n uc) n (FL l) → Below w.heap.size w w' → K (a.put o.dst (.slice ua n uc)) w') : if Region.wanted o (yielded ops a.tmps) = true then Oper.wp Tryz.prog o a w K Q else E := by
 obtain ⟨i0, hi, hz0, hz1, hz2⟩ := info_parts info_match
 by_cases h0 : n = 0
 ·subst h0
  refine step_append_zero0 hgd s x 81 81 ho 135 135 i0 Tryz.underlying81 Tryz.underlying81 hi none 0 0 hs (Nat.le_refl _) ao 0 c rfl hx (h none 0 w ?_ (Below.refl _ _))
  rw [List.eq_nil_of_length_eq_zero hn.symm]
  exact World.ownsRow_nil _ _ _ _
 ·obtain ⟨b, o', rfl, hcell⟩ := hr (by omega)
  subst hn
  refine step_append_form w hgd s x 81 81 ho w.heap.size 135 135 i0 (.agg #[.int .i64 0, .slice none 0 0, .bool false, .slice none 0 0, .bool false, .slice none 0 0]) 6 96 Tryz.underlying81 Tryz.underlying81 hi hz0 hz1 hz2 rfl (by decide) (.slice none 0 0) 0 [] hs (World.ownsRow_nil _ _ _ _) (some ⟨b, o', none⟩) l.length c (FL l) hx (FL_len l) (fun _ => ⟨_, rfl, fun j u hu => ?_⟩) (FL_one' l) (by omega) (by unfold maxLen; omega) (by omega) (Nat.le_refl _) ?_
  ·rw [Addr.add_lit]
   exact hcell j u hu
  ·intro g cap w' hown hg hat hlt
   simp only [Nat.zero_add, List.nil_append] at hown ⊢
   exact h _ _ _ hown ⟨hg.os, hg.tape, hg.output, hg.size, fun k hk => hg.block k hk (fun e => by cases e)⟩
set_option maxRecDepth 100000 in
set_option maxHeartbeats 8000000 in
theorem ref28_Put (ds : List Mq) (x : Mq) (v : Value) (b0 : Nat) (w : World) (hrow : w.ownsRow b0 135 6 v ds.length (FL ds)) (hnil : ds.length = 0 → v = .slice none 0 0) (hl : ds.length ≤ 1048570)
  (hg : ∀ y ∈ ds, Fr.RdF w y.1.fr false y.1.p y.1.q ∧ Fr.Sml y.1.p y.1.q) (hxf : Fr.RdF w x.1.fr false x.1.p x.1.q) (hxs : Fr.Sml x.1.p x.1.q) (hlt : ∀ y ∈ ds, y.1.id < x.1.id) :
  Calls Tryz.prog 91 #[v, .agg #[.int .i64 x.1.id, .slice x.1.al.1 x.1.al.2.1 x.1.al.2.2, .bool false, .slice x.1.nu.1 (Fr.dig x.1.p).length x.1.nu.2, .bool false, .slice x.1.de.1 (Fr.dig x.1.q).length x.1.de.2]] w (PutP w ds x) := by
 obtain ⟨i0, hi, hz0, hz1, hz2⟩ := info_parts info_match
 have HLS := hid (fun j (hj : j < ds.length) W (hW : Below w.heap.size w W) => Fr.ref_Less (ds.getD j default).1.fr x.1.fr (ds.getD j default).1.p (ds.getD j default).1.q x.1.p x.1.q W ((hg _ (getD_mem hj default)).1.kept hW) (hxf.kept hW) (hg _ (getD_mem hj default)).2 hxs)
 have HSS := hid (fun j (hj : j < ds.length) W (hW : Below w.heap.size w W) => Fr.ref_SameX (ds.getD j default).1.fr x.1.fr (ds.getD j default).1.p (ds.getD j default).1.q x.1.p x.1.q W ((hg _ (getD_mem hj default)).1.kept hW) (hxf.kept hW))
 have HLT := hid (fun j (hj : j < ds.length) => hlt _ (getD_mem hj default))
 have HPW := hid (show ∀ k p cap w', k ≤ ds.length → w'.ownsRow w.heap.size 135 6 (.slice (some ⟨p, 0, none⟩) (ds.length + 1) cap) (ds.length + 1) (FL (putI ds k x)) → (∀ j, k ≤ j → j < ds.length → ltM (ds.getD j default).1 x.1) → (0 < k → ¬ ltM (ds.getD (k - 1) default).1 x.1) → Below w.heap.size w w' → PutP w ds x (.returned (.slice (some ⟨p, 0, none⟩) (ds.length + 1) cap)) w' from fun k p cap w' h1 h2 h3 h4 h5 => ⟨k, p, cap, h1, rfl, h2, h3, h4, h5⟩)
 have HFA := hid (fun i (h : i < ds.length) j (hj : j < 6) => FL_at (ds := ds) h hj)
 have HFP := hid (fun k => FL_put ds k x)
 have HTL := hid (fun k (h : k ≤ ds.length) => (by rw [List.length_take]; omega : (ds.take k).length = k))
 have HDL := hid (fun k => (List.length_drop : (ds.drop k).length = ds.length - k))
 obtain ⟨va, vc, rfl⟩ := own_slice hrow
 obtain ⟨hqc, hqm⟩ := own_capsA hrow
 unfold maxLen at hqm
 have HROW := hid hrow
 have HNIL := hid hnil
 have HXE : Hid (encM x.1 = [.int .i64 x.1.id, .slice x.1.al.1 x.1.al.2.1 x.1.al.2.2, .bool false, .slice x.1.nu.1 (Fr.dig x.1.p).length x.1.nu.2, .bool false, .slice x.1.de.1 (Fr.dig x.1.q).length x.1.de.2]) := hid rfl
 have HLM : Hid (∀ j, decide ((ds.getD j default).1.p * x.1.q < x.1.p * (ds.getD j default).1.q) = true ↔ ltM (ds.getD j default).1 x.1) := hid (fun j => decide_eq_true_iff)
 unfold Mh.fr at HLS HSS
 clear hrow hnil hg hxf hxs hlt
 generalize ltM = LT at *
 generalize hq : ds.length = q at *
 have HQ := hid hq
 clear hq
 generalize PutP w ds x = PP at *
 generalize hxx : x.1 = xm at *
 have HXX := hid hxx
 clear hxx
 obtain ⟨xi, ⟨aa, an, ac⟩, ⟨na, nc⟩, ⟨da, dc⟩, xp, xq⟩ := xm
 simp only at *
 generalize (Fr.dig xp).length = lp at *
 generalize (Fr.dig xq).length = lq at *
 have HX := hid (BoxN.new w #[.int .i64 xi, .slice aa an ac, .bool false, .slice na lp nc, .bool false, .slice da lq dc] 135)
 have HB0 := hid ((Below.refl w.heap.size w).alloc (Nat.le_refl _) (.cells #[.int .i64 xi, .slice aa an ac, .bool false, .slice na lp nc, .bool false, .slice da lq dc] 135))
 have HOW := hid (HROW.out.alloc (.cells #[.int .i64 xi, .slice aa an ac, .bool false, .slice na lp nc, .bool false, .slice da lq dc] 135))
 have hz0' : (w.alloc (.cells #[.int .i64 xi, .slice aa an ac, .bool false, .slice na lp nc, .bool false, .slice da lq dc] 135)).heap.size = w.heap.size + 1 := by simp
 go_enter Tryz.func91, Tryz.ntmps91
 go_upto_block 0 with fail
 generalize hW1 : w.alloc (.cells #[.int .i64 xi, .slice aa an ac, .bool false, .slice na lp nc, .bool false, .slice da lq dc] 135) = W1 at *
 clear hW1
 have hwb : w.heap.size < W1.heap.size := by omega
 go_cut [5] from 8 to 44 (fun s5 wx => ∃ k : Nat, s5 = .int .i64 (k : Int) ∧ k ≤ q ∧ Hid (∀ j, k ≤ j → j < q → LT (ds.getD j default).1 ⟨xi, (aa, an, ac), (na, nc), (da, dc), xp, xq⟩) ∧ Hid (0 < k → ¬ LT (ds.getD (k - 1) default).1 ⟨xi, (aa, an, ac), (na, nc), (da, dc), xp, xq⟩) ∧ Hid (Below W1.heap.size W1 wx))
 case first =>
  go_wp2_with fail
  go_loopg [5] (q + 1) (fun N j wr => ∃ i : Nat, i + 1 = N ∧ i ≤ q ∧ j = .int .i64 (i : Int) ∧ Hid (∀ j, i ≤ j → j < q → LT (ds.getD j default).1 ⟨xi, (aa, an, ac), (na, nc), (da, dc), xp, xq⟩) ∧ Hid (Below W1.heap.size W1 wr))
  case atStart => exact ⟨q, rfl, Nat.le_refl _, rfl, hid (fun j h1 h2 => absurd h1 (by omega)), hid (Below.refl _ _)⟩
  case round =>
   obtain ⟨i, hi1, hiq, rfl, HUP, HB⟩ := hrel
   have hwz := HB.out.size
   by_cases hi0 : i = 0
   ·subst hi0
    have hd2 : decide ((0 : Int) < ((0 : Nat) : Int)) = false := by simp
    have hd3 : decide ((0 : Int) < 0) = false := by simp
    rw [show (((0 : Nat)) : Int) = 0 from rfl]
    go_wp2_with fail
    go_quiet (fail)
    go_wp2_with fail
    go_meet
    exact ⟨0, rfl, by omega, HUP, hid (fun h => absurd h (by omega)), hid (below_drewN HB.out)⟩
   ·obtain ⟨j, rfl⟩ : ∃ j, i = j + 1 := ⟨i - 1, by omega⟩
    obtain ⟨g, cap, e3, hgb, hgz⟩ := HOW.out.form (by omega)
    obtain ⟨rfl, -, rfl⟩ := Value.slice.inj e3
    have hj : j < q := by omega
    have HC1 := hid (fun p : LaterOf wr => later_call p (HLS.out j hj p.W (HB0.out.trans ((HB.out.trans (p.hb.mono hwz)).mono (by omega)))))
    have HC2 := hid (fun p : LaterOf wr => later_call p (HSS.out j hj p.W (HB0.out.trans ((HB.out.trans (p.hb.mono hwz)).mono (by omega)))))
    have HQX := HX.out.below HB.out HX.out.lt
    have x0 := fun p : LaterOf wr => p.cell (v := .int .i64 xi) (HQX.cell 0 rfl)
    have x2 := fun p : LaterOf wr => p.cell (v := .bool false) (HQX.cell 2 rfl)
    have x3 := fun p : LaterOf wr => p.cell (v := .slice na lp nc) (HQX.cell 3 rfl)
    have x4 := fun p : LaterOf wr => p.cell (v := .bool false) (HQX.cell 4 rfl)
    have x5 := fun p : LaterOf wr => p.cell (v := .slice da lq dc) (HQX.cell 5 rfl)
    have r0 : wr.cell? ⟨g, j * 6, none⟩ = some (.int .i64 (ds.getD j default).1.id) := (HB.out.cell (p := ⟨g, j * 6, none⟩) hgz).trans ((HOW.out.cellAt (j * 6) (by omega)).trans (HFA.out j hj 0 (by omega)))
    have r2 : wr.cell? ⟨g, j * 6 + 2, none⟩ = some (.bool false) := (HB.out.cell (p := ⟨g, j * 6 + 2, none⟩) hgz).trans ((HOW.out.cellAt (j * 6 + 2) (by omega)).trans (HFA.out j hj 2 (by omega)))
    have r3 : wr.cell? ⟨g, j * 6 + 3, none⟩ = some (.slice (ds.getD j default).1.nu.1 (Fr.dig (ds.getD j default).1.p).length (ds.getD j default).1.nu.2) := (HB.out.cell (p := ⟨g, j * 6 + 3, none⟩) hgz).trans ((HOW.out.cellAt (j * 6 + 3) (by omega)).trans (HFA.out j hj 3 (by omega)))
    have r4 : wr.cell? ⟨g, j * 6 + 4, none⟩ = some (.bool false) := (HB.out.cell (p := ⟨g, j * 6 + 4, none⟩) hgz).trans ((HOW.out.cellAt (j * 6 + 4) (by omega)).trans (HFA.out j hj 4 (by omega)))
    have r5 : wr.cell? ⟨g, j * 6 + 5, none⟩ = some (.slice (ds.getD j default).1.de.1 (Fr.dig (ds.getD j default).1.q).length (ds.getD j default).1.de.2) := (HB.out.cell (p := ⟨g, j * 6 + 5, none⟩) hgz).trans ((HOW.out.cellAt (j * 6 + 5) (by omega)).trans (HFA.out j hj 5 (by omega)))
    have HLJ := hid (HLM.out j)
    have HLI := hid (HLT.out j hj)
    have HJ : Hid (LT (ds.getD j default).1 ⟨xi, (aa, an, ac), (na, nc), (da, dc), xp, xq⟩ → ∀ i, j ≤ i → i < q → LT (ds.getD i default).1 ⟨xi, (aa, an, ac), (na, nc), (da, dc), xp, xq⟩) := hid (fun h i h1 h2 => by
     by_cases e : i = j
     ·subst e; exact h
     ·exact HUP.out i (by omega) h2)
    have HJ2 : Hid (¬ LT (ds.getD j default).1 ⟨xi, (aa, an, ac), (na, nc), (da, dc), xp, xq⟩ → 0 < j + 1 → ¬ LT (ds.getD (j + 1 - 1) default).1 ⟨xi, (aa, an, ac), (na, nc), (da, dc), xp, xq⟩) := hid (fun h _ => by rw [Nat.add_sub_cancel]; exact h)
    clear e3 HQX
    generalize (ds.getD j default).1 = y at *
    obtain ⟨yi, yal, ⟨yn, ync⟩, ⟨yd, ydc⟩, yp, yq⟩ := y
    simp only at r0 r2 r3 r4 r5 HC1 HC2 HLJ HLI
    generalize decide (yp * xq < xp * yq) = bl at *
    generalize (decide (Fr.dig yp = Fr.dig xp) && decide (Fr.dig yq = Fr.dig xq)) = bs at *
    generalize (Fr.dig yp).length = l1 at *
    generalize (Fr.dig yq).length = l2 at *
    have y0 := fun p : LaterOf wr => p.cell r0
    have y2 := fun p : LaterOf wr => p.cell r2
    have y3 := fun p : LaterOf wr => p.cell r3
    have y4 := fun p : LaterOf wr => p.cell r4
    have y5 := fun p : LaterOf wr => p.cell r5
    have hd : decide ((0 : Int) < (j : Int) + 1) = true := decide_eq_true (by omega)
    have hdi : decide (xi < yi) = false := decide_eq_false (by have := HLI.out; omega)
    have hw1 : IntKind.i64.wrap ((j : Int) + 1 - 1) = (j : Int) := (IntWalk.i64_in _ (by omega)).trans (by omega)
    have hjq : (j : Int) < (q : Int) := by omega
    have hj0 : (0 : Int) ≤ (j : Int) := by omega
    clear r0 r2 r3 r4 r5
    rw [show (((j + 1 : Nat)) : Int) = (j : Int) + 1 from by omega]
    cases bl with
    | true =>
     have HJ3 := hid (HJ.out (HLJ.out.1 (by simp)))
     go_upto_region 2 with fail
     refine wp_region_later (by kernel_rfl) (by kernel_rfl) ?_
     repeat (first | go_big_quiet_step (first | (go_at_call 84; with_reducible exact HC1.out _) | (go_at_call 21; with_reducible exact HC2.out _)) | quiet_step (first | (go_at_call 84; with_reducible exact HC1.out _) | (go_at_call 21; with_reducible exact HC2.out _)))
     refine wpQuiet_nil ?_
     intro _ hw'
     obtain ⟨p5, rfl⟩ := hw'
     have HB5 := hid (HB.out.trans (p5.hb.mono hwz))
     generalize p5.W = w5 at *
     clear x0 x2 x3 x4 x5 y0 y2 y3 y4 y5 HC1 HC2
     go_wp2_with fail
     go_roundg (gk - 1)
     case rel => exact ⟨j, by omega, by omega, by go_num, HJ3, HB5⟩
     case measure => omega
    | false =>
     have HJ3 := hid (HJ2.out (fun h => by have := HLJ.out.2 h; simp at this))
     cases bs with
     | false =>
      go_upto_region 2 with fail
      refine wp_region_later (by kernel_rfl) (by kernel_rfl) ?_
      repeat (first | go_big_quiet_step (first | (go_at_call 84; with_reducible exact HC1.out _) | (go_at_call 21; with_reducible exact HC2.out _)) | quiet_step (first | (go_at_call 84; with_reducible exact HC1.out _) | (go_at_call 21; with_reducible exact HC2.out _)))
      refine wpQuiet_nil ?_
      intro _ hw'
      obtain ⟨p5, rfl⟩ := hw'
      have HB5 := hid (HB.out.trans (p5.hb.mono hwz))
      generalize p5.W = w5 at *
      clear x0 x2 x3 x4 x5 y0 y2 y3 y4 y5 HC1 HC2
      go_wp2_with fail
      go_meet
      exact ⟨j + 1, by go_num, by omega, HUP, HJ3, HB5⟩
     | true =>
      go_upto_region 2 with fail
      refine wp_region_later (by kernel_rfl) (by kernel_rfl) ?_
      repeat (first | go_big_quiet_step (first | (go_at_call 84; with_reducible exact HC1.out _) | (go_at_call 21; with_reducible exact HC2.out _)) | quiet_step (first | (go_at_call 84; with_reducible exact HC1.out _) | (go_at_call 21; with_reducible exact HC2.out _)))
      refine wpQuiet_nil ?_
      intro _ hw'
      obtain ⟨p5, rfl⟩ := hw'
      have HB5 := hid (HB.out.trans (p5.hb.mono hwz))
      generalize p5.W = w5 at *
      clear x0 x2 x3 x4 x5 y0 y2 y3 y4 y5 HC1 HC2
      go_wp2_with fail
      go_meet
      exact ⟨j + 1, by go_num, by omega, HUP, HJ3, HB5⟩
 case rest =>
  obtain ⟨k, rfl, hkq', HUP, HLO, HBW⟩ := hcut
  have HTK := hid (HTL.out k hkq')
  have HDK := hid (HDL.out k)
  have HPK := hid (HFP.out k)
  rw [HXE.out] at HPK
  have hkc : (k : Int) ≤ (vc : Int) := by omega
  have hkq : (k : Int) ≤ (q : Int) := by omega
  have HBD : Hid (Below w.heap.size w wc.drew) := hid ((HB0.out.trans (HBW.out.mono (by omega))).drew)
  have hwd : w.heap.size ≤ wc.drew.heap.size := HBD.out.size
  have HXD := hid (show BoxN wc.drew w.heap.size 135 #[.int .i64 xi, .slice aa an ac, .bool false, .slice na lp nc, .bool false, .slice da lq dc] from (HX.out.below HBW.out HX.out.lt).drew)
  have hSd : wc.drew.cell? ⟨w.heap.size, 0, none⟩ = some (.int .i64 xi) ∧ wc.drew.cell? ⟨w.heap.size, 1, none⟩ = some (.slice aa an ac) ∧ wc.drew.cell? ⟨w.heap.size, 2, none⟩ = some (.bool false) ∧ wc.drew.cell? ⟨w.heap.size, 3, none⟩ = some (.slice na lp nc) ∧ wc.drew.cell? ⟨w.heap.size, 4, none⟩ = some (.bool false) ∧ wc.drew.cell? ⟨w.heap.size, 5, none⟩ = some (.slice da lq dc) := ⟨HXD.out.cell 0 rfl, HXD.out.cell 1 rfl, HXD.out.cell 2 rfl, HXD.out.cell 3 rfl, HXD.out.cell 4 rfl, HXD.out.cell 5 rfl⟩
  have hcbd : w.heap.size < wc.drew.heap.size := HXD.out.lt
  have HOWC : Hid (wc.drew.ownsRow b0 135 6 (.slice va q vc) q (FL ds)) := hid (own_later HOW.out HBW.out.drew)
  have HFIN := hid (fun p cap W h1 h2 => HPW.out k p cap W hkq' h1 HUP.out HLO.out h2)
  clear HUP HLO HOW HBW HPW HLS HSS HLT HLM HX
  rcases Nat.eq_zero_or_pos q with hq0 | hq0
  ·subst hq0
   obtain rfl : k = 0 := by omega
   obtain ⟨rfl, -, rfl⟩ := Value.slice.inj (HNIL.out rfl)
   go_upto_region 4 with fail
   refine wp_region_before (st := 5) (T := fun _ => True) (S := fun w' => w'.cell? ⟨w.heap.size, 0, none⟩ = some (.int .i64 xi) ∧ w'.cell? ⟨w.heap.size, 1, none⟩ = some (.slice aa an ac) ∧ w'.cell? ⟨w.heap.size, 2, none⟩ = some (.bool false) ∧ w'.cell? ⟨w.heap.size, 3, none⟩ = some (.slice na lp nc) ∧ w'.cell? ⟨w.heap.size, 4, none⟩ = some (.bool false) ∧ w'.cell? ⟨w.heap.size, 5, none⟩ = some (.slice da lq dc)) (by kernel_rfl) ?_
   generalize wc.drew = Wd at *
   refine tB (i := 0) (oi := ?o0_1) (v := ?v0_1) ?hi0_1 ?hq0_1 ?hy0_1 (fun _ => hSd) ?r0_1
   case hi0_1 => (simp only [List.getElem?_toArray, List.getElem?_cons_zero, List.getElem?_cons_succ]; exact rfl)
   case hq0_1 => exact fun _ _ _ h => h
   case hy0_1 =>
    refine Or.inl ⟨by rfl, fun w' hSw => ?_⟩
    (try dsimp only at hSw)
    (first | (go_simp; done) | (go_simp; with_reducible rfl))
   try simp only [Act.put, List.setIfInBounds_toArray, List.set]
   refine tB (i := 1) (oi := ?o1_2) (v := ?v1_2) ?hi1_2 ?hq1_2 ?hy1_2 (fun _ => hSd) ?r1_2
   case hi1_2 => (simp only [List.getElem?_toArray, List.getElem?_cons_zero, List.getElem?_cons_succ]; exact rfl)
   case hq1_2 => exact fun _ _ _ h => h
   case hy1_2 =>
    refine Or.inl ⟨by rfl, fun w' hSw => ?_⟩
    (try dsimp only at hSw)
    (first | (go_simp; done) | (go_simp; with_reducible rfl))
   try simp only [Act.put, List.setIfInBounds_toArray, List.set]
   refine tB (i := 2) (oi := ?o2_3) (v := ?v2_3) ?hi2_3 ?hq2_3 ?hy2_3 (fun _ => hSd) ?r2_3
   case hi2_3 => (simp only [List.getElem?_toArray, List.getElem?_cons_zero, List.getElem?_cons_succ]; exact rfl)
   case hq2_3 => exact fun _ _ _ h => h
   case hy2_3 =>
    refine Or.inl ⟨by rfl, fun w' hSw => ?_⟩
    (try dsimp only at hSw)
    (first | (go_simp; done) | (go_simp; with_reducible rfl))
   try simp only [Act.put, List.setIfInBounds_toArray, List.set]
   refine tA (i := 4) (oi := ?o4_4) (v := ?v4_4) [5] ?hi4_4 ?hq4_4 ?hy4_4 hSd ?r4_4
   case hi4_4 => (simp only [List.getElem?_toArray, List.getElem?_cons_zero, List.getElem?_cons_succ]; exact rfl)
   case hq4_4 => exact fun _ _ _ h => h
   case hy4_4 =>
    refine Or.inl ⟨by rfl, fun w' hSw => ?_⟩
    (try dsimp only at hSw)
    (first | (go_simp; done) | (go_simp; with_reducible rfl))
   try simp only [Act.put, List.setIfInBounds_toArray, List.set]
   refine tB (i := 7) (oi := ?o7_5) (v := ?v7_5) ?hi7_5 ?hq7_5 ?hy7_5 (fun _ => hSd) ?r7_5
   case hi7_5 => (simp only [List.getElem?_toArray, List.getElem?_cons_zero, List.getElem?_cons_succ]; exact rfl)
   case hq7_5 => exact fun _ _ _ h => h
   case hy7_5 =>
    refine Or.inl ⟨by rfl, fun w' hSw => ?_⟩
    (try dsimp only at hSw)
    (first | (go_simp; done) | (go_simp; with_reducible rfl))
   try simp only [Act.put, List.setIfInBounds_toArray, List.set]
   refine tB (i := 8) (oi := ?o8_6) (v := ?v8_6) ?hi8_6 ?hq8_6 ?hy8_6 (fun _ => hSd) ?r8_6
   case hi8_6 => (simp only [List.getElem?_toArray, List.getElem?_cons_zero, List.getElem?_cons_succ]; exact rfl)
   case hq8_6 => exact fun _ _ _ h => h
   case hy8_6 =>
    refine Or.inl ⟨by rfl, fun w' hSw => ?_⟩
    (try dsimp only at hSw)
    (first | (go_simp; done) | (go_simp; with_reducible rfl))
   try simp only [Act.put, List.setIfInBounds_toArray, List.set]
   refine tB (i := 9) (oi := ?o9_7) (v := ?v9_7) ?hi9_7 ?hq9_7 ?hy9_7 (fun _ => hSd) ?r9_7
   case hi9_7 => (simp only [List.getElem?_toArray, List.getElem?_cons_zero, List.getElem?_cons_succ]; exact rfl)
   case hq9_7 => exact fun _ _ _ h => h
   case hy9_7 =>
    refine Or.inl ⟨by rfl, fun w' hSw => ?_⟩
    (try dsimp only at hSw)
    (first | (go_simp; done) | (go_simp; with_reducible rfl))
   try simp only [Act.put, List.setIfInBounds_toArray, List.set]
   refine wpAnyB_ready (rs := [3, 5]) (by kernel_rfl) (by simp) ?_
   refine AllReadyB.cons rfl (fun K hK => ?_) ?_
   ·refine step_append_ms rfl (.const (.slice none 0 0)) (.tmp 47) rfl rfl rfl (ds.take 0) HTK.out.symm (by omega) (fun h => absurd h (by omega)) ?_
    intro u8 c8 w8 hown8 hb8
    have hw8 : w.heap.size ≤ w8.heap.size := Nat.le_trans hwd hb8.size
    have HO8 := hid (own_lower hown8 hwd)
    have HB8 := hid (HBD.out.trans (hb8.mono hwd))
    have HX8 := hid (HXD.out.below hb8 hcbd)
    have hS8 : w8.cell? ⟨w.heap.size, 0, none⟩ = some (.int .i64 xi) ∧ w8.cell? ⟨w.heap.size, 1, none⟩ = some (.slice aa an ac) ∧ w8.cell? ⟨w.heap.size, 2, none⟩ = some (.bool false) ∧ w8.cell? ⟨w.heap.size, 3, none⟩ = some (.slice na lp nc) ∧ w8.cell? ⟨w.heap.size, 4, none⟩ = some (.bool false) ∧ w8.cell? ⟨w.heap.size, 5, none⟩ = some (.slice da lq dc) := ⟨HX8.out.cell 0 rfl, HX8.out.cell 1 rfl, HX8.out.cell 2 rfl, HX8.out.cell 3 rfl, HX8.out.cell 4 rfl, HX8.out.cell 5 rfl⟩
    refine hK.out _ _ (fun _ => hS8) trivial ?_
    try simp only [Act.put, List.setIfInBounds_toArray, List.set]
    clear hK K hown8 hb8
    refine wpAnyB_ready (rs := [5]) (by kernel_rfl) (by simp) ?_
    refine AllReadyB.cons rfl (fun K hK => ?_) AllReadyB.nil
    go_simp
    refine hK.out _ _ (fun h => absurd (show true = false from h) (by decide)) trivial ?_
    try simp only [Act.put, List.setIfInBounds_toArray, List.set]
    clear hK K
    have HOF := hid (HO8.out.alloc (.cells #[.int .i64 xi, .slice aa an ac, .bool false, .slice na lp nc, .bool false, .slice da lq dc] 135))
    have HNF := hid (BoxN.new w8 #[.int .i64 xi, .slice aa an ac, .bool false, .slice na lp nc, .bool false, .slice da lq dc] 135)
    have HBF := hid (HB8.out.alloc hw8 (.cells #[.int .i64 xi, .slice aa an ac, .bool false, .slice na lp nc, .bool false, .slice da lq dc] 135))
    have hwF : w.heap.size ≤ (w8.alloc (.cells #[.int .i64 xi, .slice aa an ac, .bool false, .slice na lp nc, .bool false, .slice da lq dc] 135)).heap.size := Nat.le_trans hw8 (by simp)
    refine wpAnyB_ready (rs := [6]) (by kernel_rfl) (by simp) ?_
    refine AllReadyB.cons rfl (fun K hK => ?_) AllReadyB.nil
    refine step_append_form _ rfl (.tmp 48) (.tmp 50) 81 81 rfl w.heap.size 135 135 i0 (.agg #[.int .i64 0, .slice none 0 0, .bool false, .slice none 0 0, .bool false, .slice none 0 0]) 6 96 Tryz.underlying81 Tryz.underlying81 hi hz0 hz1 hz2 rfl (by decide) (.slice u8 0 c8) 0 (FL (ds.take 0)) rfl HOF.out (some ⟨_, 0, none⟩) 1 1 [.int .i64 xi, .slice aa an ac, .bool false, .slice na lp nc, .bool false, .slice da lq dc] rfl rfl (fun _ => ⟨_, rfl, World.news_of_block HNF.out⟩) (by intro u hu; simp at hu; rcases hu with rfl | rfl | rfl | rfl | rfl | rfl <;> rfl) (by omega) (by unfold maxLen; omega) (by omega) hwF ?_
    intro p9 cap9 w9 hown9 hg9 hat9 hlt9
    have HB9 := hid (HBF.out.grown hg9 hwF (fun b hb => (HOF.out.lt b hb).1))
    have hw9 := HB9.out.size
    refine hK.out _ _ (fun h => absurd (show true = false from h) (by decide)) trivial ?_
    try simp only [Act.put, List.setIfInBounds_toArray, List.set]
    clear hK K
    refine wpAnyB_ready (rs := [10]) (by kernel_rfl) (by simp) ?_
    refine AllReadyB.cons rfl (fun K hK => ?_) AllReadyB.nil
    refine step_append_form _ rfl (.tmp 51) (.tmp 54) 81 81 rfl w.heap.size 135 135 i0 (.agg #[.int .i64 0, .slice none 0 0, .bool false, .slice none 0 0, .bool false, .slice none 0 0]) 6 96 Tryz.underlying81 Tryz.underlying81 hi hz0 hz1 hz2 rfl (by decide) (.slice (some ⟨p9, 0, none⟩) (0 + 1) cap9) (0 + 1) (FL (ds.take 0) ++ [.int .i64 xi, .slice aa an ac, .bool false, .slice na lp nc, .bool false, .slice da lq dc]) rfl hown9 none 0 _ (FL (ds.drop 0)) rfl (by have h1 := HDK.out; rw [FL_len]; omega) (fun h => absurd h (by omega)) (FL_one' _) (by omega) (by unfold maxLen; omega) (by omega) hw9 ?_
    intro p10 cap10 w10 hown10 hg10 hat10 hlt10
    have HB10 := hid (HB9.out.grown hg10 hw9 (fun b hb => (hown9.lt b hb).1))
    have HO10 : Hid (w10.ownsRow w.heap.size 135 6 (.slice (some ⟨p10, 0, none⟩) (0 + 1) cap10) (0 + 1) (FL (putI ds 0 x))) := hid (by rw [HPK.out, show 0 + 1 = 0 + 1 + 0 by omega]; exact hown10)
    refine hK.out _ _ (fun h => absurd (show true = false from h) (by decide)) trivial ?_
    try simp only [Act.put, List.setIfInBounds_toArray, List.set]
    clear hK K hown9 hg9 hat9 hlt9 hown10 hg10 hat10 hlt10
    refine wpAnyB_ready (rs := [11]) (by kernel_rfl) (by simp) ?_
    refine AllReadyB.cons rfl (fun K hK => ?_) AllReadyB.nil
    go_simp
    refine hK.out _ _ (fun h => absurd (show true = false from h) (by decide)) trivial ?_
    try simp only [Act.put, List.setIfInBounds_toArray, List.set]
    clear hK K
    try rw [show 0 + 1 + 0 = 0 + 1 by omega]
    refine wpAnyB_done (by kernel_rfl) ?_ _
    go_wp2
    (try go_ret)
    exact HFIN.out _ _ _ HO10.out HB10.out
   refine AllReadyB.cons rfl (fun K hK => ?_) ?_
   ·go_simp
    refine hK.out _ _ (fun h => absurd (show true = false from h) (by decide)) trivial ?_
    try simp only [Act.put, List.setIfInBounds_toArray, List.set]
    clear hK K
    have hwB : w.heap.size ≤ (Wd.alloc (.cells #[.int .i64 xi, .slice aa an ac, .bool false, .slice na lp nc, .bool false, .slice da lq dc] 135)).heap.size := Nat.le_trans hwd (by simp)
    have HBB := hid (HBD.out.alloc hwd (.cells #[.int .i64 xi, .slice aa an ac, .bool false, .slice na lp nc, .bool false, .slice da lq dc] 135))
    have HNB := hid (BoxN.new Wd #[.int .i64 xi, .slice aa an ac, .bool false, .slice na lp nc, .bool false, .slice da lq dc] 135)
    generalize hWB : Wd.alloc (.cells #[.int .i64 xi, .slice aa an ac, .bool false, .slice na lp nc, .bool false, .slice da lq dc] 135) = WB at *
    refine wpAnyB_ready (rs := [3]) (by kernel_rfl) (by simp) ?_
    refine AllReadyB.cons rfl (fun K hK => ?_) AllReadyB.nil
    ·refine step_append_ms rfl (.const (.slice none 0 0)) (.tmp 47) rfl rfl rfl (ds.take 0) HTK.out.symm (by omega) (fun h => absurd h (by omega)) ?_
     intro u8 c8 w8 hown8 hb8
     have hw8 : w.heap.size ≤ w8.heap.size := Nat.le_trans hwB hb8.size
     have HO8 := hid (own_lower hown8 hwB)
     have HB8 := hid (HBB.out.trans (hb8.mono hwB))
     refine hK.out _ _ (fun h => absurd (show true = false from h) (by decide)) trivial ?_
     try simp only [Act.put, List.setIfInBounds_toArray, List.set]
     have HOF := HO8
     have HNF := hid (HNB.out.below hb8 HNB.out.lt)
     have HBF := HB8
     have hwF := hw8
     clear hK K hown8 hb8
     refine wpAnyB_ready (rs := [6]) (by kernel_rfl) (by simp) ?_
     refine AllReadyB.cons rfl (fun K hK => ?_) AllReadyB.nil
     refine step_append_form _ rfl (.tmp 48) (.tmp 50) 81 81 rfl w.heap.size 135 135 i0 (.agg #[.int .i64 0, .slice none 0 0, .bool false, .slice none 0 0, .bool false, .slice none 0 0]) 6 96 Tryz.underlying81 Tryz.underlying81 hi hz0 hz1 hz2 rfl (by decide) (.slice u8 0 c8) 0 (FL (ds.take 0)) rfl HOF.out (some ⟨_, 0, none⟩) 1 1 [.int .i64 xi, .slice aa an ac, .bool false, .slice na lp nc, .bool false, .slice da lq dc] rfl rfl (fun _ => ⟨_, rfl, World.news_of_block HNF.out⟩) (by intro u hu; simp at hu; rcases hu with rfl | rfl | rfl | rfl | rfl | rfl <;> rfl) (by omega) (by unfold maxLen; omega) (by omega) hwF ?_
     intro p9 cap9 w9 hown9 hg9 hat9 hlt9
     have HB9 := hid (HBF.out.grown hg9 hwF (fun b hb => (HOF.out.lt b hb).1))
     have hw9 := HB9.out.size
     refine hK.out _ _ (fun h => absurd (show true = false from h) (by decide)) trivial ?_
     try simp only [Act.put, List.setIfInBounds_toArray, List.set]
     clear hK K
     refine wpAnyB_ready (rs := [10]) (by kernel_rfl) (by simp) ?_
     refine AllReadyB.cons rfl (fun K hK => ?_) AllReadyB.nil
     refine step_append_form _ rfl (.tmp 51) (.tmp 54) 81 81 rfl w.heap.size 135 135 i0 (.agg #[.int .i64 0, .slice none 0 0, .bool false, .slice none 0 0, .bool false, .slice none 0 0]) 6 96 Tryz.underlying81 Tryz.underlying81 hi hz0 hz1 hz2 rfl (by decide) (.slice (some ⟨p9, 0, none⟩) (0 + 1) cap9) (0 + 1) (FL (ds.take 0) ++ [.int .i64 xi, .slice aa an ac, .bool false, .slice na lp nc, .bool false, .slice da lq dc]) rfl hown9 none 0 _ (FL (ds.drop 0)) rfl (by have h1 := HDK.out; rw [FL_len]; omega) (fun h => absurd h (by omega)) (FL_one' _) (by omega) (by unfold maxLen; omega) (by omega) hw9 ?_
     intro p10 cap10 w10 hown10 hg10 hat10 hlt10
     have HB10 := hid (HB9.out.grown hg10 hw9 (fun b hb => (hown9.lt b hb).1))
     have HO10 : Hid (w10.ownsRow w.heap.size 135 6 (.slice (some ⟨p10, 0, none⟩) (0 + 1) cap10) (0 + 1) (FL (putI ds 0 x))) := hid (by rw [HPK.out, show 0 + 1 = 0 + 1 + 0 by omega]; exact hown10)
     refine hK.out _ _ (fun h => absurd (show true = false from h) (by decide)) trivial ?_
     try simp only [Act.put, List.setIfInBounds_toArray, List.set]
     clear hK K hown9 hg9 hat9 hlt9 hown10 hg10 hat10 hlt10
     refine wpAnyB_ready (rs := [11]) (by kernel_rfl) (by simp) ?_
     refine AllReadyB.cons rfl (fun K hK => ?_) AllReadyB.nil
     go_simp
     refine hK.out _ _ (fun h => absurd (show true = false from h) (by decide)) trivial ?_
     try simp only [Act.put, List.setIfInBounds_toArray, List.set]
     clear hK K
     try rw [show 0 + 1 + 0 = 0 + 1 by omega]
     refine wpAnyB_done (by kernel_rfl) ?_ _
     go_wp2
     (try go_ret)
     exact HFIN.out _ _ _ HO10.out HB10.out
   exact AllReadyB.nil
  ·obtain ⟨g, cap, e3, hgb, hgz⟩ := HOWC.out.form hq0
   obtain ⟨rfl, -, rfl⟩ := Value.slice.inj e3
   clear e3
   have hgd : g < wc.drew.heap.size := hgz
   have hcg : ∀ (i : Nat) u, (FL ds)[i]? = some u → wc.drew.cell? ⟨g, i, none⟩ = some u := fun i u hu => (HOWC.out.cellAt i (by have := (List.getElem?_eq_some_iff.1 hu).1; rw [FL_len, HQ.out] at this; omega)).trans hu
   by_cases hck : vc = k
   ·subst hck
    obtain rfl : q = vc := by omega
    go_upto_region 4 with fail
    refine wp_region_before (st := 5) (T := fun _ => True) (S := fun w' => w'.cell? ⟨w.heap.size, 0, none⟩ = some (.int .i64 xi) ∧ w'.cell? ⟨w.heap.size, 1, none⟩ = some (.slice aa an ac) ∧ w'.cell? ⟨w.heap.size, 2, none⟩ = some (.bool false) ∧ w'.cell? ⟨w.heap.size, 3, none⟩ = some (.slice na lp nc) ∧ w'.cell? ⟨w.heap.size, 4, none⟩ = some (.bool false) ∧ w'.cell? ⟨w.heap.size, 5, none⟩ = some (.slice da lq dc)) (by kernel_rfl) ?_
    generalize wc.drew = Wd at *
    refine tB (i := 0) (oi := ?o0_8) (v := ?v0_8) ?hi0_8 ?hq0_8 ?hy0_8 (fun _ => hSd) ?r0_8
    case hi0_8 => (simp only [List.getElem?_toArray, List.getElem?_cons_zero, List.getElem?_cons_succ]; exact rfl)
    case hq0_8 => exact fun _ _ _ h => h
    case hy0_8 =>
     refine Or.inl ⟨by rfl, fun w' hSw => ?_⟩
     (try dsimp only at hSw)
     (first | (go_simp; done) | (go_simp; with_reducible rfl))
    try simp only [Act.put, List.setIfInBounds_toArray, List.set]
    refine tB (i := 1) (oi := ?o1_9) (v := ?v1_9) ?hi1_9 ?hq1_9 ?hy1_9 (fun _ => hSd) ?r1_9
    case hi1_9 => (simp only [List.getElem?_toArray, List.getElem?_cons_zero, List.getElem?_cons_succ]; exact rfl)
    case hq1_9 => exact fun _ _ _ h => h
    case hy1_9 =>
     refine Or.inl ⟨by rfl, fun w' hSw => ?_⟩
     (try dsimp only at hSw)
     (first | (go_simp; done) | (go_simp; with_reducible rfl))
    try simp only [Act.put, List.setIfInBounds_toArray, List.set]
    refine tB (i := 2) (oi := ?o2_10) (v := ?v2_10) ?hi2_10 ?hq2_10 ?hy2_10 (fun _ => hSd) ?r2_10
    case hi2_10 => (simp only [List.getElem?_toArray, List.getElem?_cons_zero, List.getElem?_cons_succ]; exact rfl)
    case hq2_10 => exact fun _ _ _ h => h
    case hy2_10 =>
     refine Or.inl ⟨by rfl, fun w' hSw => ?_⟩
     (try dsimp only at hSw)
     (first | (go_simp; done) | (go_simp; with_reducible rfl))
    try simp only [Act.put, List.setIfInBounds_toArray, List.set]
    refine tA (i := 4) (oi := ?o4_11) (v := ?v4_11) [5] ?hi4_11 ?hq4_11 ?hy4_11 hSd ?r4_11
    case hi4_11 => (simp only [List.getElem?_toArray, List.getElem?_cons_zero, List.getElem?_cons_succ]; exact rfl)
    case hq4_11 => exact fun _ _ _ h => h
    case hy4_11 =>
     refine Or.inl ⟨by rfl, fun w' hSw => ?_⟩
     (try dsimp only at hSw)
     (first | (go_simp; done) | (go_simp; with_reducible rfl))
    try simp only [Act.put, List.setIfInBounds_toArray, List.set]
    refine tB (i := 7) (oi := ?o7_12) (v := ?v7_12) ?hi7_12 ?hq7_12 ?hy7_12 (fun _ => hSd) ?r7_12
    case hi7_12 => (simp only [List.getElem?_toArray, List.getElem?_cons_zero, List.getElem?_cons_succ]; exact rfl)
    case hq7_12 => exact fun _ _ _ h => h
    case hy7_12 =>
     refine Or.inl ⟨by rfl, fun w' hSw => ?_⟩
     (try dsimp only at hSw)
     (first | (go_simp; done) | (go_simp; with_reducible rfl))
    try simp only [Act.put, List.setIfInBounds_toArray, List.set]
    refine tB (i := 8) (oi := ?o8_13) (v := ?v8_13) ?hi8_13 ?hq8_13 ?hy8_13 (fun _ => hSd) ?r8_13
    case hi8_13 => (simp only [List.getElem?_toArray, List.getElem?_cons_zero, List.getElem?_cons_succ]; exact rfl)
    case hq8_13 => exact fun _ _ _ h => h
    case hy8_13 =>
     refine Or.inl ⟨by rfl, fun w' hSw => ?_⟩
     (try dsimp only at hSw)
     (first | (go_simp; done) | (go_simp; with_reducible rfl))
    try simp only [Act.put, List.setIfInBounds_toArray, List.set]
    refine tB (i := 9) (oi := ?o9_14) (v := ?v9_14) ?hi9_14 ?hq9_14 ?hy9_14 (fun _ => hSd) ?r9_14
    case hi9_14 => (simp only [List.getElem?_toArray, List.getElem?_cons_zero, List.getElem?_cons_succ]; exact rfl)
    case hq9_14 => exact fun _ _ _ h => h
    case hy9_14 =>
     refine Or.inl ⟨by rfl, fun w' hSw => ?_⟩
     (try dsimp only at hSw)
     (first | (go_simp; done) | (go_simp; with_reducible rfl))
    try simp only [Act.put, List.setIfInBounds_toArray, List.set]
    refine wpAnyB_ready (rs := [3, 5]) (by kernel_rfl) (by simp) ?_
    refine AllReadyB.cons rfl (fun K hK => ?_) ?_
    ·refine step_append_ms rfl (.const (.slice none 0 0)) (.tmp 47) rfl rfl rfl (ds.take q) HTK.out.symm (by omega) (fun _ => ⟨g, 0, rfl, fun i u hu => by rw [Nat.zero_add]; exact hcg i u (FL_take hu)⟩) ?_
     intro u8 c8 w8 hown8 hb8
     have hw8 : w.heap.size ≤ w8.heap.size := Nat.le_trans hwd hb8.size
     have HO8 := hid (own_lower hown8 hwd)
     have HF8 : Hid (∀ b, (Value.slice u8 q c8).ownBlock = some b → g < b) := hid (fun b hb => Nat.lt_of_lt_of_le hgd (hown8.lt b hb).1)
     have HB8 := hid (HBD.out.trans (hb8.mono hwd))
     have HX8 := hid (HXD.out.below hb8 hcbd)
     have hS8 : w8.cell? ⟨w.heap.size, 0, none⟩ = some (.int .i64 xi) ∧ w8.cell? ⟨w.heap.size, 1, none⟩ = some (.slice aa an ac) ∧ w8.cell? ⟨w.heap.size, 2, none⟩ = some (.bool false) ∧ w8.cell? ⟨w.heap.size, 3, none⟩ = some (.slice na lp nc) ∧ w8.cell? ⟨w.heap.size, 4, none⟩ = some (.bool false) ∧ w8.cell? ⟨w.heap.size, 5, none⟩ = some (.slice da lq dc) := ⟨HX8.out.cell 0 rfl, HX8.out.cell 1 rfl, HX8.out.cell 2 rfl, HX8.out.cell 3 rfl, HX8.out.cell 4 rfl, HX8.out.cell 5 rfl⟩
     have hc8 : ∀ (i : Nat) u, (FL ds)[i]? = some u → w8.cell? ⟨g, i, none⟩ = some u := fun i u hu => (hb8.cell (p := ⟨g, i, none⟩) hgd).trans (hcg i u hu)
     have hg8 : g < w8.heap.size := Nat.lt_of_lt_of_le hgd hb8.size
     refine hK.out _ _ (fun _ => hS8) trivial ?_
     try simp only [Act.put, List.setIfInBounds_toArray, List.set]
     clear hK K hown8 hb8
     refine wpAnyB_ready (rs := [5]) (by kernel_rfl) (by simp) ?_
     refine AllReadyB.cons rfl (fun K hK => ?_) AllReadyB.nil
     go_simp
     refine hK.out _ _ (fun h => absurd (show true = false from h) (by decide)) trivial ?_
     try simp only [Act.put, List.setIfInBounds_toArray, List.set]
     clear hK K
     have HOF := hid (HO8.out.alloc (.cells #[.int .i64 xi, .slice aa an ac, .bool false, .slice na lp nc, .bool false, .slice da lq dc] 135))
     have HNF := hid (BoxN.new w8 #[.int .i64 xi, .slice aa an ac, .bool false, .slice na lp nc, .bool false, .slice da lq dc] 135)
     have HBF := hid (HB8.out.alloc hw8 (.cells #[.int .i64 xi, .slice aa an ac, .bool false, .slice na lp nc, .bool false, .slice da lq dc] 135))
     have hwF : w.heap.size ≤ (w8.alloc (.cells #[.int .i64 xi, .slice aa an ac, .bool false, .slice na lp nc, .bool false, .slice da lq dc] 135)).heap.size := Nat.le_trans hw8 (by simp)
     have hcF : ∀ (i : Nat) u, (FL ds)[i]? = some u → (w8.alloc (.cells #[.int .i64 xi, .slice aa an ac, .bool false, .slice na lp nc, .bool false, .slice da lq dc] 135)).cell? ⟨g, i, none⟩ = some u := fun i u hu => (World.cell?_alloc_lt _ _ ⟨g, i, none⟩ hg8).trans (hc8 i u hu)
     have hgF : g < (w8.alloc (.cells #[.int .i64 xi, .slice aa an ac, .bool false, .slice na lp nc, .bool false, .slice da lq dc] 135)).heap.size := Nat.lt_of_lt_of_le hg8 (by simp)
     refine wpAnyB_ready (rs := [6]) (by kernel_rfl) (by simp) ?_
     refine AllReadyB.cons rfl (fun K hK => ?_) AllReadyB.nil
     refine step_append_form _ rfl (.tmp 48) (.tmp 50) 81 81 rfl w.heap.size 135 135 i0 (.agg #[.int .i64 0, .slice none 0 0, .bool false, .slice none 0 0, .bool false, .slice none 0 0]) 6 96 Tryz.underlying81 Tryz.underlying81 hi hz0 hz1 hz2 rfl (by decide) (.slice u8 q c8) q (FL (ds.take q)) rfl HOF.out (some ⟨_, 0, none⟩) 1 1 [.int .i64 xi, .slice aa an ac, .bool false, .slice na lp nc, .bool false, .slice da lq dc] rfl rfl (fun _ => ⟨_, rfl, World.news_of_block HNF.out⟩) (by intro u hu; simp at hu; rcases hu with rfl | rfl | rfl | rfl | rfl | rfl <;> rfl) (by omega) (by unfold maxLen; omega) (by omega) hwF ?_
     intro p9 cap9 w9 hown9 hg9 hat9 hlt9
     have HB9 := hid (HBF.out.grown hg9 hwF (fun b hb => (HOF.out.lt b hb).1))
     have hw9 := HB9.out.size
     have hc9 : ∀ (i : Nat) u, (FL ds)[i]? = some u → w9.cell? ⟨g, i, none⟩ = some u := fun i u hu => (hg9.cell_far ⟨g, i, none⟩ hgF (fun e => by have := HF8.out g e.symm; omega)).trans (hcF i u hu)
     refine hK.out _ _ (fun h => absurd (show true = false from h) (by decide)) trivial ?_
     try simp only [Act.put, List.setIfInBounds_toArray, List.set]
     clear hK K
     refine wpAnyB_ready (rs := [10]) (by kernel_rfl) (by simp) ?_
     refine AllReadyB.cons rfl (fun K hK => ?_) AllReadyB.nil
     refine step_append_form _ rfl (.tmp 51) (.tmp 54) 81 81 rfl w.heap.size 135 135 i0 (.agg #[.int .i64 0, .slice none 0 0, .bool false, .slice none 0 0, .bool false, .slice none 0 0]) 6 96 Tryz.underlying81 Tryz.underlying81 hi hz0 hz1 hz2 rfl (by decide) (.slice (some ⟨p9, 0, none⟩) (q + 1) cap9) (q + 1) (FL (ds.take q) ++ [.int .i64 xi, .slice aa an ac, .bool false, .slice na lp nc, .bool false, .slice da lq dc]) rfl hown9 (some ⟨g, 0, none⟩) 0 _ (FL (ds.drop q)) rfl (by have h1 := HDK.out; rw [FL_len]; omega) (fun h => absurd h (by omega)) (FL_one' _) (by omega) (by unfold maxLen; omega) (by omega) hw9 ?_
     intro p10 cap10 w10 hown10 hg10 hat10 hlt10
     have HB10 := hid (HB9.out.grown hg10 hw9 (fun b hb => (hown9.lt b hb).1))
     have HO10 : Hid (w10.ownsRow w.heap.size 135 6 (.slice (some ⟨p10, 0, none⟩) (q + 1) cap10) (q + 1) (FL (putI ds q x))) := hid (by rw [HPK.out, show q + 1 = q + 1 + 0 by omega]; exact hown10)
     refine hK.out _ _ (fun h => absurd (show true = false from h) (by decide)) trivial ?_
     try simp only [Act.put, List.setIfInBounds_toArray, List.set]
     clear hK K hown9 hg9 hat9 hlt9 hown10 hg10 hat10 hlt10
     refine wpAnyB_ready (rs := [11]) (by kernel_rfl) (by simp) ?_
     refine AllReadyB.cons rfl (fun K hK => ?_) AllReadyB.nil
     go_simp
     refine hK.out _ _ (fun h => absurd (show true = false from h) (by decide)) trivial ?_
     try simp only [Act.put, List.setIfInBounds_toArray, List.set]
     clear hK K
     try rw [show q + 1 + 0 = q + 1 by omega]
     refine wpAnyB_done (by kernel_rfl) ?_ _
     go_wp2
     (try go_ret)
     exact HFIN.out _ _ _ HO10.out HB10.out
    refine AllReadyB.cons rfl (fun K hK => ?_) ?_
    ·go_simp
     refine hK.out _ _ (fun h => absurd (show true = false from h) (by decide)) trivial ?_
     try simp only [Act.put, List.setIfInBounds_toArray, List.set]
     clear hK K
     have hwB : w.heap.size ≤ (Wd.alloc (.cells #[.int .i64 xi, .slice aa an ac, .bool false, .slice na lp nc, .bool false, .slice da lq dc] 135)).heap.size := Nat.le_trans hwd (by simp)
     have HBB := hid (HBD.out.alloc hwd (.cells #[.int .i64 xi, .slice aa an ac, .bool false, .slice na lp nc, .bool false, .slice da lq dc] 135))
     have HNB := hid (BoxN.new Wd #[.int .i64 xi, .slice aa an ac, .bool false, .slice na lp nc, .bool false, .slice da lq dc] 135)
     have hcgB : ∀ (i : Nat) u, (FL ds)[i]? = some u → (Wd.alloc (.cells #[.int .i64 xi, .slice aa an ac, .bool false, .slice na lp nc, .bool false, .slice da lq dc] 135)).cell? ⟨g, i, none⟩ = some u := fun i u hu => (World.cell?_alloc_lt _ _ ⟨g, i, none⟩ hgd).trans (hcg i u hu)
     have hgdB : g < (Wd.alloc (.cells #[.int .i64 xi, .slice aa an ac, .bool false, .slice na lp nc, .bool false, .slice da lq dc] 135)).heap.size := Nat.lt_of_lt_of_le hgd (by simp)
     generalize hWB : Wd.alloc (.cells #[.int .i64 xi, .slice aa an ac, .bool false, .slice na lp nc, .bool false, .slice da lq dc] 135) = WB at *
     refine wpAnyB_ready (rs := [3]) (by kernel_rfl) (by simp) ?_
     refine AllReadyB.cons rfl (fun K hK => ?_) AllReadyB.nil
     ·refine step_append_ms rfl (.const (.slice none 0 0)) (.tmp 47) rfl rfl rfl (ds.take q) HTK.out.symm (by omega) (fun _ => ⟨g, 0, rfl, fun i u hu => by rw [Nat.zero_add]; exact hcgB i u (FL_take hu)⟩) ?_
      intro u8 c8 w8 hown8 hb8
      have hw8 : w.heap.size ≤ w8.heap.size := Nat.le_trans hwB hb8.size
      have HO8 := hid (own_lower hown8 hwB)
      have HF8 : Hid (∀ b, (Value.slice u8 q c8).ownBlock = some b → g < b) := hid (fun b hb => Nat.lt_of_lt_of_le hgdB (hown8.lt b hb).1)
      have HB8 := hid (HBB.out.trans (hb8.mono hwB))
      refine hK.out _ _ (fun h => absurd (show true = false from h) (by decide)) trivial ?_
      try simp only [Act.put, List.setIfInBounds_toArray, List.set]
      have HOF := HO8
      have HNF := hid (HNB.out.below hb8 HNB.out.lt)
      have HBF := HB8
      have hwF := hw8
      have hcF : ∀ (i : Nat) u, (FL ds)[i]? = some u → w8.cell? ⟨g, i, none⟩ = some u := fun i u hu => (hb8.cell (p := ⟨g, i, none⟩) hgdB).trans (hcgB i u hu)
      have hgF : g < w8.heap.size := Nat.lt_of_lt_of_le hgdB hb8.size
      clear hK K hown8 hb8
      refine wpAnyB_ready (rs := [6]) (by kernel_rfl) (by simp) ?_
      refine AllReadyB.cons rfl (fun K hK => ?_) AllReadyB.nil
      refine step_append_form _ rfl (.tmp 48) (.tmp 50) 81 81 rfl w.heap.size 135 135 i0 (.agg #[.int .i64 0, .slice none 0 0, .bool false, .slice none 0 0, .bool false, .slice none 0 0]) 6 96 Tryz.underlying81 Tryz.underlying81 hi hz0 hz1 hz2 rfl (by decide) (.slice u8 q c8) q (FL (ds.take q)) rfl HOF.out (some ⟨_, 0, none⟩) 1 1 [.int .i64 xi, .slice aa an ac, .bool false, .slice na lp nc, .bool false, .slice da lq dc] rfl rfl (fun _ => ⟨_, rfl, World.news_of_block HNF.out⟩) (by intro u hu; simp at hu; rcases hu with rfl | rfl | rfl | rfl | rfl | rfl <;> rfl) (by omega) (by unfold maxLen; omega) (by omega) hwF ?_
      intro p9 cap9 w9 hown9 hg9 hat9 hlt9
      have HB9 := hid (HBF.out.grown hg9 hwF (fun b hb => (HOF.out.lt b hb).1))
      have hw9 := HB9.out.size
      have hc9 : ∀ (i : Nat) u, (FL ds)[i]? = some u → w9.cell? ⟨g, i, none⟩ = some u := fun i u hu => (hg9.cell_far ⟨g, i, none⟩ hgF (fun e => by have := HF8.out g e.symm; omega)).trans (hcF i u hu)
      refine hK.out _ _ (fun h => absurd (show true = false from h) (by decide)) trivial ?_
      try simp only [Act.put, List.setIfInBounds_toArray, List.set]
      clear hK K
      refine wpAnyB_ready (rs := [10]) (by kernel_rfl) (by simp) ?_
      refine AllReadyB.cons rfl (fun K hK => ?_) AllReadyB.nil
      refine step_append_form _ rfl (.tmp 51) (.tmp 54) 81 81 rfl w.heap.size 135 135 i0 (.agg #[.int .i64 0, .slice none 0 0, .bool false, .slice none 0 0, .bool false, .slice none 0 0]) 6 96 Tryz.underlying81 Tryz.underlying81 hi hz0 hz1 hz2 rfl (by decide) (.slice (some ⟨p9, 0, none⟩) (q + 1) cap9) (q + 1) (FL (ds.take q) ++ [.int .i64 xi, .slice aa an ac, .bool false, .slice na lp nc, .bool false, .slice da lq dc]) rfl hown9 (some ⟨g, 0, none⟩) 0 _ (FL (ds.drop q)) rfl (by have h1 := HDK.out; rw [FL_len]; omega) (fun h => absurd h (by omega)) (FL_one' _) (by omega) (by unfold maxLen; omega) (by omega) hw9 ?_
      intro p10 cap10 w10 hown10 hg10 hat10 hlt10
      have HB10 := hid (HB9.out.grown hg10 hw9 (fun b hb => (hown9.lt b hb).1))
      have HO10 : Hid (w10.ownsRow w.heap.size 135 6 (.slice (some ⟨p10, 0, none⟩) (q + 1) cap10) (q + 1) (FL (putI ds q x))) := hid (by rw [HPK.out, show q + 1 = q + 1 + 0 by omega]; exact hown10)
      refine hK.out _ _ (fun h => absurd (show true = false from h) (by decide)) trivial ?_
      try simp only [Act.put, List.setIfInBounds_toArray, List.set]
      clear hK K hown9 hg9 hat9 hlt9 hown10 hg10 hat10 hlt10
      refine wpAnyB_ready (rs := [11]) (by kernel_rfl) (by simp) ?_
      refine AllReadyB.cons rfl (fun K hK => ?_) AllReadyB.nil
      go_simp
      refine hK.out _ _ (fun h => absurd (show true = false from h) (by decide)) trivial ?_
      try simp only [Act.put, List.setIfInBounds_toArray, List.set]
      clear hK K
      try rw [show q + 1 + 0 = q + 1 by omega]
      refine wpAnyB_done (by kernel_rfl) ?_ _
      go_wp2
      (try go_ret)
      exact HFIN.out _ _ _ HO10.out HB10.out
    exact AllReadyB.nil
   ·have hck2 : ((vc : Int) == (k : Int)) = false := by simp; omega
    go_upto_region 4 with fail
    refine wp_region_before (st := 5) (T := fun _ => True) (S := fun w' => w'.cell? ⟨w.heap.size, 0, none⟩ = some (.int .i64 xi) ∧ w'.cell? ⟨w.heap.size, 1, none⟩ = some (.slice aa an ac) ∧ w'.cell? ⟨w.heap.size, 2, none⟩ = some (.bool false) ∧ w'.cell? ⟨w.heap.size, 3, none⟩ = some (.slice na lp nc) ∧ w'.cell? ⟨w.heap.size, 4, none⟩ = some (.bool false) ∧ w'.cell? ⟨w.heap.size, 5, none⟩ = some (.slice da lq dc)) (by kernel_rfl) ?_
    generalize wc.drew = Wd at *
    refine tB (i := 0) (oi := ?o0_15) (v := ?v0_15) ?hi0_15 ?hq0_15 ?hy0_15 (fun _ => hSd) ?r0_15
    case hi0_15 => (simp only [List.getElem?_toArray, List.getElem?_cons_zero, List.getElem?_cons_succ]; exact rfl)
    case hq0_15 => exact fun _ _ _ h => h
    case hy0_15 =>
     refine Or.inl ⟨by rfl, fun w' hSw => ?_⟩
     (try dsimp only at hSw)
     (first | (go_simp; done) | (go_simp; with_reducible rfl))
    try simp only [Act.put, List.setIfInBounds_toArray, List.set]
    refine tB (i := 1) (oi := ?o1_16) (v := ?v1_16) ?hi1_16 ?hq1_16 ?hy1_16 (fun _ => hSd) ?r1_16
    case hi1_16 => (simp only [List.getElem?_toArray, List.getElem?_cons_zero, List.getElem?_cons_succ]; exact rfl)
    case hq1_16 => exact fun _ _ _ h => h
    case hy1_16 =>
     refine Or.inl ⟨by rfl, fun w' hSw => ?_⟩
     (try dsimp only at hSw)
     (first | (go_simp; done) | (go_simp; with_reducible rfl))
    try simp only [Act.put, List.setIfInBounds_toArray, List.set]
    refine tB (i := 2) (oi := ?o2_17) (v := ?v2_17) ?hi2_17 ?hq2_17 ?hy2_17 (fun _ => hSd) ?r2_17
    case hi2_17 => (simp only [List.getElem?_toArray, List.getElem?_cons_zero, List.getElem?_cons_succ]; exact rfl)
    case hq2_17 => exact fun _ _ _ h => h
    case hy2_17 =>
     refine Or.inl ⟨by rfl, fun w' hSw => ?_⟩
     (try dsimp only at hSw)
     (first | (go_simp; done) | (go_simp; with_reducible rfl))
    try simp only [Act.put, List.setIfInBounds_toArray, List.set]
    refine tA (i := 4) (oi := ?o4_18) (v := ?v4_18) [5] ?hi4_18 ?hq4_18 ?hy4_18 hSd ?r4_18
    case hi4_18 => (simp only [List.getElem?_toArray, List.getElem?_cons_zero, List.getElem?_cons_succ]; exact rfl)
    case hq4_18 => exact fun _ _ _ h => h
    case hy4_18 =>
     refine Or.inl ⟨by rfl, fun w' hSw => ?_⟩
     (try dsimp only at hSw)
     (first | (go_simp; done) | (go_simp; with_reducible rfl))
    try simp only [Act.put, List.setIfInBounds_toArray, List.set]
    refine tB (i := 7) (oi := ?o7_19) (v := ?v7_19) ?hi7_19 ?hq7_19 ?hy7_19 (fun _ => hSd) ?r7_19
    case hi7_19 => (simp only [List.getElem?_toArray, List.getElem?_cons_zero, List.getElem?_cons_succ]; exact rfl)
    case hq7_19 => exact fun _ _ _ h => h
    case hy7_19 =>
     refine Or.inl ⟨by rfl, fun w' hSw => ?_⟩
     (try dsimp only at hSw)
     (first | (go_simp; done) | (go_simp; with_reducible rfl))
    try simp only [Act.put, List.setIfInBounds_toArray, List.set]
    refine tB (i := 8) (oi := ?o8_20) (v := ?v8_20) ?hi8_20 ?hq8_20 ?hy8_20 (fun _ => hSd) ?r8_20
    case hi8_20 => (simp only [List.getElem?_toArray, List.getElem?_cons_zero, List.getElem?_cons_succ]; exact rfl)
    case hq8_20 => exact fun _ _ _ h => h
    case hy8_20 =>
     refine Or.inl ⟨by rfl, fun w' hSw => ?_⟩
     (try dsimp only at hSw)
     (first | (go_simp; done) | (go_simp; with_reducible rfl))
    try simp only [Act.put, List.setIfInBounds_toArray, List.set]
    refine tB (i := 9) (oi := ?o9_21) (v := ?v9_21) ?hi9_21 ?hq9_21 ?hy9_21 (fun _ => hSd) ?r9_21
    case hi9_21 => (simp only [List.getElem?_toArray, List.getElem?_cons_zero, List.getElem?_cons_succ]; exact rfl)
    case hq9_21 => exact fun _ _ _ h => h
    case hy9_21 =>
     refine Or.inl ⟨by rfl, fun w' hSw => ?_⟩
     (try dsimp only at hSw)
     (first | (go_simp; done) | (go_simp; with_reducible rfl))
    try simp only [Act.put, List.setIfInBounds_toArray, List.set]
    refine wpAnyB_ready (rs := [3, 5]) (by kernel_rfl) (by simp) ?_
    refine AllReadyB.cons rfl (fun K hK => ?_) ?_
    ·refine step_append_ms rfl (.const (.slice none 0 0)) (.tmp 47) rfl rfl rfl (ds.take k) HTK.out.symm (by omega) (fun _ => ⟨g, 0, rfl, fun i u hu => by rw [Nat.zero_add]; exact hcg i u (FL_take hu)⟩) ?_
     intro u8 c8 w8 hown8 hb8
     have hw8 : w.heap.size ≤ w8.heap.size := Nat.le_trans hwd hb8.size
     have HO8 := hid (own_lower hown8 hwd)
     have HF8 : Hid (∀ b, (Value.slice u8 k c8).ownBlock = some b → g < b) := hid (fun b hb => Nat.lt_of_lt_of_le hgd (hown8.lt b hb).1)
     have HB8 := hid (HBD.out.trans (hb8.mono hwd))
     have HX8 := hid (HXD.out.below hb8 hcbd)
     have hS8 : w8.cell? ⟨w.heap.size, 0, none⟩ = some (.int .i64 xi) ∧ w8.cell? ⟨w.heap.size, 1, none⟩ = some (.slice aa an ac) ∧ w8.cell? ⟨w.heap.size, 2, none⟩ = some (.bool false) ∧ w8.cell? ⟨w.heap.size, 3, none⟩ = some (.slice na lp nc) ∧ w8.cell? ⟨w.heap.size, 4, none⟩ = some (.bool false) ∧ w8.cell? ⟨w.heap.size, 5, none⟩ = some (.slice da lq dc) := ⟨HX8.out.cell 0 rfl, HX8.out.cell 1 rfl, HX8.out.cell 2 rfl, HX8.out.cell 3 rfl, HX8.out.cell 4 rfl, HX8.out.cell 5 rfl⟩
     have hc8 : ∀ (i : Nat) u, (FL ds)[i]? = some u → w8.cell? ⟨g, i, none⟩ = some u := fun i u hu => (hb8.cell (p := ⟨g, i, none⟩) hgd).trans (hcg i u hu)
     have hg8 : g < w8.heap.size := Nat.lt_of_lt_of_le hgd hb8.size
     refine hK.out _ _ (fun _ => hS8) trivial ?_
     try simp only [Act.put, List.setIfInBounds_toArray, List.set]
     clear hK K hown8 hb8
     refine wpAnyB_ready (rs := [5]) (by kernel_rfl) (by simp) ?_
     refine AllReadyB.cons rfl (fun K hK => ?_) AllReadyB.nil
     go_simp
     refine hK.out _ _ (fun h => absurd (show true = false from h) (by decide)) trivial ?_
     try simp only [Act.put, List.setIfInBounds_toArray, List.set]
     clear hK K
     have HOF := hid (HO8.out.alloc (.cells #[.int .i64 xi, .slice aa an ac, .bool false, .slice na lp nc, .bool false, .slice da lq dc] 135))
     have HNF := hid (BoxN.new w8 #[.int .i64 xi, .slice aa an ac, .bool false, .slice na lp nc, .bool false, .slice da lq dc] 135)
     have HBF := hid (HB8.out.alloc hw8 (.cells #[.int .i64 xi, .slice aa an ac, .bool false, .slice na lp nc, .bool false, .slice da lq dc] 135))
     have hwF : w.heap.size ≤ (w8.alloc (.cells #[.int .i64 xi, .slice aa an ac, .bool false, .slice na lp nc, .bool false, .slice da lq dc] 135)).heap.size := Nat.le_trans hw8 (by simp)
     have hcF : ∀ (i : Nat) u, (FL ds)[i]? = some u → (w8.alloc (.cells #[.int .i64 xi, .slice aa an ac, .bool false, .slice na lp nc, .bool false, .slice da lq dc] 135)).cell? ⟨g, i, none⟩ = some u := fun i u hu => (World.cell?_alloc_lt _ _ ⟨g, i, none⟩ hg8).trans (hc8 i u hu)
     have hgF : g < (w8.alloc (.cells #[.int .i64 xi, .slice aa an ac, .bool false, .slice na lp nc, .bool false, .slice da lq dc] 135)).heap.size := Nat.lt_of_lt_of_le hg8 (by simp)
     refine wpAnyB_ready (rs := [6]) (by kernel_rfl) (by simp) ?_
     refine AllReadyB.cons rfl (fun K hK => ?_) AllReadyB.nil
     refine step_append_form _ rfl (.tmp 48) (.tmp 50) 81 81 rfl w.heap.size 135 135 i0 (.agg #[.int .i64 0, .slice none 0 0, .bool false, .slice none 0 0, .bool false, .slice none 0 0]) 6 96 Tryz.underlying81 Tryz.underlying81 hi hz0 hz1 hz2 rfl (by decide) (.slice u8 k c8) k (FL (ds.take k)) rfl HOF.out (some ⟨_, 0, none⟩) 1 1 [.int .i64 xi, .slice aa an ac, .bool false, .slice na lp nc, .bool false, .slice da lq dc] rfl rfl (fun _ => ⟨_, rfl, World.news_of_block HNF.out⟩) (by intro u hu; simp at hu; rcases hu with rfl | rfl | rfl | rfl | rfl | rfl <;> rfl) (by omega) (by unfold maxLen; omega) (by omega) hwF ?_
     intro p9 cap9 w9 hown9 hg9 hat9 hlt9
     have HB9 := hid (HBF.out.grown hg9 hwF (fun b hb => (HOF.out.lt b hb).1))
     have hw9 := HB9.out.size
     have hc9 : ∀ (i : Nat) u, (FL ds)[i]? = some u → w9.cell? ⟨g, i, none⟩ = some u := fun i u hu => (hg9.cell_far ⟨g, i, none⟩ hgF (fun e => by have := HF8.out g e.symm; omega)).trans (hcF i u hu)
     refine hK.out _ _ (fun h => absurd (show true = false from h) (by decide)) trivial ?_
     try simp only [Act.put, List.setIfInBounds_toArray, List.set]
     clear hK K
     refine wpAnyB_ready (rs := [10]) (by kernel_rfl) (by simp) ?_
     refine AllReadyB.cons rfl (fun K hK => ?_) AllReadyB.nil
     refine step_append_form _ rfl (.tmp 51) (.tmp 54) 81 81 rfl w.heap.size 135 135 i0 (.agg #[.int .i64 0, .slice none 0 0, .bool false, .slice none 0 0, .bool false, .slice none 0 0]) 6 96 Tryz.underlying81 Tryz.underlying81 hi hz0 hz1 hz2 rfl (by decide) (.slice (some ⟨p9, 0, none⟩) (k + 1) cap9) (k + 1) (FL (ds.take k) ++ [.int .i64 xi, .slice aa an ac, .bool false, .slice na lp nc, .bool false, .slice da lq dc]) rfl hown9 (some ⟨g, k * 6, none⟩) (q - k) _ (FL (ds.drop k)) rfl (by have h1 := HDK.out; rw [FL_len]; omega) (fun _ => ⟨_, rfl, fun j u hu => by rw [Addr.add_lit]; exact hc9 _ u (FL_drop (by rw [HQ.out]; omega) hu)⟩) (FL_one' _) (by omega) (by unfold maxLen; omega) (by omega) hw9 ?_
     intro p10 cap10 w10 hown10 hg10 hat10 hlt10
     have HB10 := hid (HB9.out.grown hg10 hw9 (fun b hb => (hown9.lt b hb).1))
     have HO10 : Hid (w10.ownsRow w.heap.size 135 6 (.slice (some ⟨p10, 0, none⟩) (q + 1) cap10) (q + 1) (FL (putI ds k x))) := hid (by rw [HPK.out, show q + 1 = k + 1 + (q - k) by omega]; exact hown10)
     refine hK.out _ _ (fun h => absurd (show true = false from h) (by decide)) trivial ?_
     try simp only [Act.put, List.setIfInBounds_toArray, List.set]
     clear hK K hown9 hg9 hat9 hlt9 hown10 hg10 hat10 hlt10
     refine wpAnyB_ready (rs := [11]) (by kernel_rfl) (by simp) ?_
     refine AllReadyB.cons rfl (fun K hK => ?_) AllReadyB.nil
     go_simp
     refine hK.out _ _ (fun h => absurd (show true = false from h) (by decide)) trivial ?_
     try simp only [Act.put, List.setIfInBounds_toArray, List.set]
     clear hK K
     try rw [show k + 1 + (q - k) = q + 1 by omega]
     refine wpAnyB_done (by kernel_rfl) ?_ _
     go_wp2
     (try go_ret)
     exact HFIN.out _ _ _ HO10.out HB10.out
    refine AllReadyB.cons rfl (fun K hK => ?_) ?_
    ·go_simp
     refine hK.out _ _ (fun h => absurd (show true = false from h) (by decide)) trivial ?_
     try simp only [Act.put, List.setIfInBounds_toArray, List.set]
     clear hK K
     have hwB : w.heap.size ≤ (Wd.alloc (.cells #[.int .i64 xi, .slice aa an ac, .bool false, .slice na lp nc, .bool false, .slice da lq dc] 135)).heap.size := Nat.le_trans hwd (by simp)
     have HBB := hid (HBD.out.alloc hwd (.cells #[.int .i64 xi, .slice aa an ac, .bool false, .slice na lp nc, .bool false, .slice da lq dc] 135))
     have HNB := hid (BoxN.new Wd #[.int .i64 xi, .slice aa an ac, .bool false, .slice na lp nc, .bool false, .slice da lq dc] 135)
     have hcgB : ∀ (i : Nat) u, (FL ds)[i]? = some u → (Wd.alloc (.cells #[.int .i64 xi, .slice aa an ac, .bool false, .slice na lp nc, .bool false, .slice da lq dc] 135)).cell? ⟨g, i, none⟩ = some u := fun i u hu => (World.cell?_alloc_lt _ _ ⟨g, i, none⟩ hgd).trans (hcg i u hu)
     have hgdB : g < (Wd.alloc (.cells #[.int .i64 xi, .slice aa an ac, .bool false, .slice na lp nc, .bool false, .slice da lq dc] 135)).heap.size := Nat.lt_of_lt_of_le hgd (by simp)
     generalize hWB : Wd.alloc (.cells #[.int .i64 xi, .slice aa an ac, .bool false, .slice na lp nc, .bool false, .slice da lq dc] 135) = WB at *
     refine wpAnyB_ready (rs := [3]) (by kernel_rfl) (by simp) ?_
     refine AllReadyB.cons rfl (fun K hK => ?_) AllReadyB.nil
     ·refine step_append_ms rfl (.const (.slice none 0 0)) (.tmp 47) rfl rfl rfl (ds.take k) HTK.out.symm (by omega) (fun _ => ⟨g, 0, rfl, fun i u hu => by rw [Nat.zero_add]; exact hcgB i u (FL_take hu)⟩) ?_
      intro u8 c8 w8 hown8 hb8
      have hw8 : w.heap.size ≤ w8.heap.size := Nat.le_trans hwB hb8.size
      have HO8 := hid (own_lower hown8 hwB)
      have HF8 : Hid (∀ b, (Value.slice u8 k c8).ownBlock = some b → g < b) := hid (fun b hb => Nat.lt_of_lt_of_le hgdB (hown8.lt b hb).1)
      have HB8 := hid (HBB.out.trans (hb8.mono hwB))
      refine hK.out _ _ (fun h => absurd (show true = false from h) (by decide)) trivial ?_
      try simp only [Act.put, List.setIfInBounds_toArray, List.set]
      have HOF := HO8
      have HNF := hid (HNB.out.below hb8 HNB.out.lt)
      have HBF := HB8
      have hwF := hw8
      have hcF : ∀ (i : Nat) u, (FL ds)[i]? = some u → w8.cell? ⟨g, i, none⟩ = some u := fun i u hu => (hb8.cell (p := ⟨g, i, none⟩) hgdB).trans (hcgB i u hu)
      have hgF : g < w8.heap.size := Nat.lt_of_lt_of_le hgdB hb8.size
      clear hK K hown8 hb8
      refine wpAnyB_ready (rs := [6]) (by kernel_rfl) (by simp) ?_
      refine AllReadyB.cons rfl (fun K hK => ?_) AllReadyB.nil
      refine step_append_form _ rfl (.tmp 48) (.tmp 50) 81 81 rfl w.heap.size 135 135 i0 (.agg #[.int .i64 0, .slice none 0 0, .bool false, .slice none 0 0, .bool false, .slice none 0 0]) 6 96 Tryz.underlying81 Tryz.underlying81 hi hz0 hz1 hz2 rfl (by decide) (.slice u8 k c8) k (FL (ds.take k)) rfl HOF.out (some ⟨_, 0, none⟩) 1 1 [.int .i64 xi, .slice aa an ac, .bool false, .slice na lp nc, .bool false, .slice da lq dc] rfl rfl (fun _ => ⟨_, rfl, World.news_of_block HNF.out⟩) (by intro u hu; simp at hu; rcases hu with rfl | rfl | rfl | rfl | rfl | rfl <;> rfl) (by omega) (by unfold maxLen; omega) (by omega) hwF ?_
      intro p9 cap9 w9 hown9 hg9 hat9 hlt9
      have HB9 := hid (HBF.out.grown hg9 hwF (fun b hb => (HOF.out.lt b hb).1))
      have hw9 := HB9.out.size
      have hc9 : ∀ (i : Nat) u, (FL ds)[i]? = some u → w9.cell? ⟨g, i, none⟩ = some u := fun i u hu => (hg9.cell_far ⟨g, i, none⟩ hgF (fun e => by have := HF8.out g e.symm; omega)).trans (hcF i u hu)
      refine hK.out _ _ (fun h => absurd (show true = false from h) (by decide)) trivial ?_
      try simp only [Act.put, List.setIfInBounds_toArray, List.set]
      clear hK K
      refine wpAnyB_ready (rs := [10]) (by kernel_rfl) (by simp) ?_
      refine AllReadyB.cons rfl (fun K hK => ?_) AllReadyB.nil
      refine step_append_form _ rfl (.tmp 51) (.tmp 54) 81 81 rfl w.heap.size 135 135 i0 (.agg #[.int .i64 0, .slice none 0 0, .bool false, .slice none 0 0, .bool false, .slice none 0 0]) 6 96 Tryz.underlying81 Tryz.underlying81 hi hz0 hz1 hz2 rfl (by decide) (.slice (some ⟨p9, 0, none⟩) (k + 1) cap9) (k + 1) (FL (ds.take k) ++ [.int .i64 xi, .slice aa an ac, .bool false, .slice na lp nc, .bool false, .slice da lq dc]) rfl hown9 (some ⟨g, k * 6, none⟩) (q - k) _ (FL (ds.drop k)) rfl (by have h1 := HDK.out; rw [FL_len]; omega) (fun _ => ⟨_, rfl, fun j u hu => by rw [Addr.add_lit]; exact hc9 _ u (FL_drop (by rw [HQ.out]; omega) hu)⟩) (FL_one' _) (by omega) (by unfold maxLen; omega) (by omega) hw9 ?_
      intro p10 cap10 w10 hown10 hg10 hat10 hlt10
      have HB10 := hid (HB9.out.grown hg10 hw9 (fun b hb => (hown9.lt b hb).1))
      have HO10 : Hid (w10.ownsRow w.heap.size 135 6 (.slice (some ⟨p10, 0, none⟩) (q + 1) cap10) (q + 1) (FL (putI ds k x))) := hid (by rw [HPK.out, show q + 1 = k + 1 + (q - k) by omega]; exact hown10)
      refine hK.out _ _ (fun h => absurd (show true = false from h) (by decide)) trivial ?_
      try simp only [Act.put, List.setIfInBounds_toArray, List.set]
      clear hK K hown9 hg9 hat9 hlt9 hown10 hg10 hat10 hlt10
      refine wpAnyB_ready (rs := [11]) (by kernel_rfl) (by simp) ?_
      refine AllReadyB.cons rfl (fun K hK => ?_) AllReadyB.nil
      go_simp
      refine hK.out _ _ (fun h => absurd (show true = false from h) (by decide)) trivial ?_
      try simp only [Act.put, List.setIfInBounds_toArray, List.set]
      clear hK K
      try rw [show k + 1 + (q - k) = q + 1 by omega]
      refine wpAnyB_done (by kernel_rfl) ?_ _
      go_wp2
      (try go_ret)
      exact HFIN.out _ _ _ HO10.out HB10.out
    exact AllReadyB.nil
end Go.Proofs.YthblaeleogdfpaaGreatDoor
