/- Contract of law39's chain: the example's tables. Contract of law39's awake. -/
import Derived.Deep.Cut
import Derived.Deep.RegionLawGrows
import Derived.Test.YtaajpliifdlokaaGreatDoorLnNrad
import Derived.Test.YtaajpliifdlokaaGreatDoorLnNral
import Derived.Test.YtaajpliifdlokaaGreatDoorLnNrao
import Derived.Test.YtaajpliifdlokaaGreatDoorLnNrbh
set_option linter.unusedVariables false
set_option linter.unusedSimpArgs false
namespace Go.Proofs.YtaajpliifdlokaaGreatDoor
open Go.RowKit
set_option maxRecDepth 100000 in
set_option maxHeartbeats 8000000 in
theorem law39_chain (w : World) : Calls Tryz.prog 54 #[] w (ChainP w) := by
 obtain ⟨i0, hi, hz0, hz1, hz2⟩ := info_parts info_cell
 obtain ⟨i1, hi1, hy0, hy1, hy2⟩ := info_parts info_taC
 have HI0 := hid (BoxN.new w #[.int .i64 4, .int .i64 3, .int .i64 1] 3)
 have HB0 := hid ((Below.refl w.heap.size w).alloc (Nat.le_refl _) (.cells #[.int .i64 4, .int .i64 3, .int .i64 1] 3))
 go_enter Tryz.func54, Tryz.ntmps54
 go_wp2_with fail
 generalize w.alloc (.cells #[.int .i64 4, .int .i64 3, .int .i64 1] 3) = W1 at *
 have hw1 := HI0.out.lt
 go_loopg [8, 1] 3 (fun N i s1 wr => ∃ (q : Nat) (lo hf : Nat → Nat) (tv : Nat → Value), i = .int .i64 (q : Int) ∧ q + N = 3 ∧ Hid (BoxN wr w.heap.size 3 #[.int .i64 4, .int .i64 3, .int .i64 1]) ∧ Hid (Below w.heap.size w wr) ∧ Hid (wr.ownsRow W1.heap.size 51 3 s1 q (flatK 3 q (taF chB tv))) ∧
  Hid (∀ j, j < q → TabB wr (lo j) (hf j) (nOf j) (tv j) ∧ W1.heap.size ≤ lo j ∧ hf j ≤ wr.heap.size ∧ ∀ m, m < j → hf m ≤ lo j) ∧ W1.heap.size ≤ wr.heap.size)
 case atStart => exact ⟨0, fun _ => 0, fun _ => 0, fun _ => .bool false, rfl, rfl, HI0, HB0, hid (World.ownsRow_nil _ _ _ _), hid (fun j h => absurd h (by omega)), Nat.le_refl _⟩
 case round =>
  obtain ⟨q, lo, hf, tv, rfl, hq, HI, HB, HRW, HTB, hlo⟩ := hrel
  have hwz := HB.out.size
  obtain ⟨oa, oc, hsl⟩ := own_slice HRW.out
  subst hsl
  obtain ⟨wo, rfl⟩ : ∃ wo, wo = wr := ⟨wr, rfl⟩
  obtain ⟨go, rfl⟩ : ∃ go, go = gk := ⟨gk, rfl⟩
  by_cases hp : 0 < go
  ·have hq3 : q < 3 := by omega
   have hqi : (q : Int) < 3 := by omega
   have hn4 : nOf q ≤ 4 := by rcases (show q = 0 ∨ q = 1 ∨ q = 2 by omega) with rfl | rfl | rfl <;> decide
   have k0 : wo.cell? ⟨w.heap.size, q, none⟩ = some (.int .i64 (nOf q : Int)) := HI.out.cell q (by rcases (show q = 0 ∨ q = 1 ∨ q = 2 by omega) with rfl | rfl | rfl <;> rfl)
   have hcb := (BoxN.new wo #[.string ⟨#[97]⟩, .slice none 0 0, .string ⟨#[98]⟩, .slice none 0 0] 55).alloc (.cells #[.int .i64 ((q : Int) + 1), .string ⟨#[]⟩, .slice (some ⟨wo.heap.size, 0, none⟩) 2 2] 51)
   have htb := BoxN.new (wo.alloc (.cells #[.string ⟨#[97]⟩, .slice none 0 0, .string ⟨#[98]⟩, .slice none 0 0] 55)) #[.int .i64 ((q : Int) + 1), .string ⟨#[]⟩, .slice (some ⟨wo.heap.size, 0, none⟩) 2 2] 51
   rw [World.size_alloc] at htb
   have HCH : Hid (ChI wo ((wo.alloc (.cells #[.string ⟨#[97]⟩, .slice none 0 0, .string ⟨#[98]⟩, .slice none 0 0] 55)).alloc (.cells #[.int .i64 ((q : Int) + 1), .string ⟨#[]⟩, .slice (some ⟨wo.heap.size, 0, none⟩) 2 2] 51)) ((q : Int) + 1) 0 0 (.slice none 0 0) (.slice none 0 0)) := hid
    ⟨((Below.refl wo.heap.size wo).alloc (Nat.le_refl _) _).alloc (by simp) _, hcb, htb, World.ownsRow_nil _ _ _ _, World.ownsRow_nil _ _ _ _, fun b hb => by cases hb⟩
   clear hcb htb
   obtain ⟨nq, hnq⟩ : ∃ nq, nq = nOf q := ⟨_, rfl⟩
   rw [← hnq] at k0 hn4
   have HNQ := hid hnq.symm
   clear hnq
   go_wp2_with fail
   generalize (wo.alloc (.cells #[.string ⟨#[97]⟩, .slice none 0 0, .string ⟨#[98]⟩, .slice none 0 0] 55)).alloc (.cells #[.int .i64 ((q : Int) + 1), .string ⟨#[]⟩, .slice (some ⟨wo.heap.size, 0, none⟩) 2 2] 51) = W2 at *
   clear k0
   go_loopg [20] nq (fun N i wr => ∃ (r : Nat) (v0 v1 : Value), i = .int .i64 (r : Int) ∧ r + N = nq ∧ Hid (ChI wo wr ((q : Int) + 1) r r v0 v1))
   case atStart => exact ⟨0, _, _, rfl, by omega, HCH⟩
   case round =>
    obtain ⟨r, v0, v1, rfl, hr, HC⟩ := hrel
    obtain ⟨a0, c0, hs0⟩ := own_slice HC.out.own0
    obtain ⟨a1, c1, hs1⟩ := own_slice HC.out.own1
    subst hs0 hs1
    have hwr := HC.out.bel.size
    by_cases hp2 : 0 < gk
    ·have hrn : r < 4 := by omega
     have hrni : (r : Int) < (nq : Int) := by omega
     go_upto_region 9 with fail
     have HCd := hid (HC.out.drew)
     refine wp_region_before (st := 12) (T := fun w' => w'.cell? ⟨wo.heap.size + 1, 2, none⟩ = some (.slice (some ⟨wo.heap.size, 0, none⟩) 2 2)) (S := fun w' => w'.cell? ⟨wo.heap.size, 1, none⟩ = some (.slice a0 r c0)) (by kernel_rfl) ?_
     generalize wr.drew = Wd at *
     have hTd := HCd.out.tbx.cell 2 rfl
     have hSd := HCd.out.cbx.cell 1 rfl
     refine wpAnyB_takeT (i := 0) (oi := ?o0_1) (v := ?v0_1) ?hi0_1 (by kernel_rfl) (by kernel_rfl) (by kernel_rfl) (by kernel_rfl) ?hq0_1 ?hy0_1 (fun _ => hSd) hTd ?r0_1
     case hi0_1 => (simp only [List.getElem?_toArray, List.getElem?_cons_zero, List.getElem?_cons_succ]; exact rfl)
     case hq0_1 => exact fun _ _ _ h => h
     case hy0_1 =>
      refine Or.inl ⟨by rfl, ?_⟩
      intro w' hSw
      (try dsimp only at hSw)
      first
      | (go_simp; done)
      | (go_simp; with_reducible rfl)
     try simp only [Act.put, List.setIfInBounds_toArray, List.set_cons_zero, List.set_cons_succ]
     refine wpAnyB_takeT (i := 1) (oi := ?o1_2) (v := ?v1_2) ?hi1_2 (by kernel_rfl) (by kernel_rfl) (by kernel_rfl) (by kernel_rfl) ?hq1_2 ?hy1_2 (fun _ => hSd) hTd ?r1_2
     case hi1_2 => (simp only [List.getElem?_toArray, List.getElem?_cons_zero, List.getElem?_cons_succ]; exact rfl)
     case hq1_2 => exact fun _ _ _ h => h
     case hy1_2 =>
      refine Or.inl ⟨by rfl, ?_⟩
      intro w' hSw
      (try dsimp only at hSw)
      first
      | (go_simp; done)
      | (go_simp; with_reducible rfl)
     try simp only [Act.put, List.setIfInBounds_toArray, List.set_cons_zero, List.set_cons_succ]
     refine wpAnyB_takeT (i := 2) (oi := ?o2_3) (v := ?v2_3) ?hi2_3 (by kernel_rfl) (by kernel_rfl) (by kernel_rfl) (by kernel_rfl) ?hq2_3 ?hy2_3 (fun _ => hSd) hTd ?r2_3
     case hi2_3 => (simp only [List.getElem?_toArray, List.getElem?_cons_zero, List.getElem?_cons_succ]; exact rfl)
     case hq2_3 => exact fun _ _ _ h => h
     case hy2_3 =>
      refine Or.inl ⟨by rfl, ?_⟩
      intro w' hSw
      (try dsimp only at hSw)
      first
      | (go_simp; done)
      | (go_simp; with_reducible rfl)
     try simp only [Act.put, List.setIfInBounds_toArray, List.set_cons_zero, List.set_cons_succ]
     refine wpAnyB_takeT (i := 3) (oi := ?o3_4) (v := ?v3_4) ?hi3_4 (by kernel_rfl) (by kernel_rfl) (by kernel_rfl) (by kernel_rfl) ?hq3_4 ?hy3_4 (fun _ => hSd) hTd ?r3_4
     case hi3_4 => (simp only [List.getElem?_toArray, List.getElem?_cons_zero, List.getElem?_cons_succ]; exact rfl)
     case hq3_4 => exact fun _ _ _ h => h
     case hy3_4 =>
      refine Or.inl ⟨by rfl, ?_⟩
      intro w' hSw
      (try dsimp only at hSw)
      first
      | (go_simp; done)
      | (go_simp; with_reducible rfl)
     try simp only [Act.put, List.setIfInBounds_toArray, List.set_cons_zero, List.set_cons_succ]
     refine wpAnyB_takeT (i := 4) (oi := ?o4_5) (v := ?v4_5) ?hi4_5 (by kernel_rfl) (by kernel_rfl) (by kernel_rfl) (by kernel_rfl) ?hq4_5 ?hy4_5 (fun _ => hSd) hTd ?r4_5
     case hi4_5 => (simp only [List.getElem?_toArray, List.getElem?_cons_zero, List.getElem?_cons_succ]; exact rfl)
     case hq4_5 => exact fun _ _ _ h => h
     case hy4_5 =>
      refine Or.inl ⟨by rfl, ?_⟩
      intro w' hSw
      (try dsimp only at hSw)
      first
      | (go_simp; done)
      | (go_simp; with_reducible rfl)
     try simp only [Act.put, List.setIfInBounds_toArray, List.set_cons_zero, List.set_cons_succ]
     refine wpAnyB_takeT (i := 5) (oi := ?o5_6) (v := ?v5_6) ?hi5_6 (by kernel_rfl) (by kernel_rfl) (by kernel_rfl) (by kernel_rfl) ?hq5_6 ?hy5_6 (fun _ => hSd) hTd ?r5_6
     case hi5_6 => (simp only [List.getElem?_toArray, List.getElem?_cons_zero, List.getElem?_cons_succ]; exact rfl)
     case hq5_6 => exact fun _ _ _ h => h
     case hy5_6 =>
      refine Or.inl ⟨by rfl, ?_⟩
      intro w' hSw
      (try dsimp only at hSw)
      first
      | (go_simp; done)
      | (go_simp; with_reducible rfl)
     try simp only [Act.put, List.setIfInBounds_toArray, List.set_cons_zero, List.set_cons_succ]
     refine wpAnyB_take (i := 6) (oi := ?o6_7) (v := ?v6_7) ?hi6_7 (by kernel_rfl) (by kernel_rfl) (by kernel_rfl) [12, 9] (by kernel_rfl) ?hq6_7 ?hy6_7 hSd hTd ?r6_7
     case hi6_7 => (simp only [List.getElem?_toArray, List.getElem?_cons_zero, List.getElem?_cons_succ]; exact rfl)
     case hq6_7 => exact fun _ _ _ h => h
     case hy6_7 =>
      refine Or.inl ⟨by rfl, ?_⟩
      intro w' hSw
      (try dsimp only at hSw)
      first
      | (go_simp; done)
      | (go_simp; with_reducible rfl)
     try simp only [Act.put, List.setIfInBounds_toArray, List.set_cons_zero, List.set_cons_succ]
     refine wpAnyB_takeT (i := 7) (oi := ?o7_8) (v := ?v7_8) ?hi7_8 (by kernel_rfl) (by kernel_rfl) (by kernel_rfl) (by kernel_rfl) ?hq7_8 ?hy7_8 (fun _ => hSd) hTd ?r7_8
     case hi7_8 => (simp only [List.getElem?_toArray, List.getElem?_cons_zero, List.getElem?_cons_succ]; exact rfl)
     case hq7_8 => exact fun _ _ _ h => h
     case hy7_8 =>
      refine Or.inl ⟨by rfl, ?_⟩
      intro w' hSw
      (try dsimp only at hSw)
      first
      | (go_simp; done)
      | (go_simp; with_reducible rfl)
     try simp only [Act.put, List.setIfInBounds_toArray, List.set_cons_zero, List.set_cons_succ]
     refine wpAnyB_ready (rs := [8]) (by kernel_rfl) (by simp) ?_
     refine AllReadyB.cons rfl (fun K hK => ?_) AllReadyB.nil
     go_simp
     have HCA := hid (HCd.out.later ((Below.refl Wd.heap.size Wd).alloc (Nat.le_refl _) (.cells #[.bool false, .string ⟨#[107]⟩] 84)))
     have HNA := hid (BoxN.new Wd #[.bool false, .string ⟨#[107]⟩] 84)
     have hzA : (Wd.alloc (.cells #[.bool false, .string ⟨#[107]⟩] 84)).heap.size = Wd.heap.size + 1 := by simp
     have hwd := HCd.out.bel.size
     refine hK.out _ _ (fun _ => HCA.out.cbx.cell 1 rfl) (HCA.out.tbx.cell 2 rfl) ?_
     try simp only [Act.put, List.setIfInBounds_toArray, List.set_cons_zero, List.set_cons_succ]
     clear hK K
     refine wpAnyB_ready (rs := [9]) (by kernel_rfl) (by simp) ?_
     refine AllReadyB.cons rfl (fun K hK => ?_) AllReadyB.nil
     refine step_append_form _ rfl (.tmp 29) (.tmp 31) 53 53 rfl wo.heap.size 84 84 i0 (.agg #[.bool false, .string ⟨#[]⟩]) 2 24 Tryz.underlying53 Tryz.underlying53 hi hz0 hz1 hz2 rfl (by decide) (.slice a0 r c0) r _ rfl HCA.out.own0 (some ⟨_, 0, none⟩) 1 1 [.bool false, .string ⟨#[107]⟩] rfl rfl (fun _ => ⟨_, rfl, World.news_of_block HNA.out⟩) (by intro u hu; simp at hu; rcases hu with rfl | rfl <;> rfl) (by omega) (by unfold maxLen; omega) (by omega) (by simp; omega) ?_
     intro p7 cap7 w7 hown hg hat hlt
     have hcbx := HCA.out.cbx.grown hg (fun e => own_ne HCA.out.own0 HCA.out.cbx (by decide) e.symm)
     have q1 := hcbx.cell 1 rfl
     have fq1 := hcbx.frozen 1
     have q2 := (HCA.out.tbx.grown hg (fun e => own_ne HCA.out.own0 HCA.out.tbx (by decide) e.symm)).cell 2 rfl
     have HG7 := hid hg
     have HOWN7 := hid hown
     have HAT7 := hid hat
     clear hown hg hat hcbx
     refine hK.out _ _ (fun _ => q1) q2 ?_
     try simp only [Act.put, List.setIfInBounds_toArray, List.set_cons_zero, List.set_cons_succ]
     clear hK K
     refine wpAnyB_ready (rs := [10]) (by kernel_rfl) (by simp) ?_
     refine AllReadyB.cons rfl (fun K hK => ?_) AllReadyB.nil
     go_simp
     refine hK.out _ _ (fun _ => q1) q2 ?_
     try simp only [Act.put, List.setIfInBounds_toArray, List.set_cons_zero, List.set_cons_succ]
     clear hK K
     refine wpAnyB_ready (rs := [11]) (by kernel_rfl) (by simp) ?_
     refine AllReadyB.cons rfl (fun K hK => ?_) AllReadyB.nil
     go_simp
     refine hK.out _ _ (fun _ => q1) q2 ?_
     try simp only [Act.put, List.setIfInBounds_toArray, List.set_cons_zero, List.set_cons_succ]
     clear hK K
     have HC9 := hid (HCA.out.push0 rfl HOWN7.out HG7.out HAT7.out)
     refine wpAnyB_ready (rs := [12]) (by kernel_rfl) (by simp) ?_
     refine AllReadyB.cons rfl (fun K hK => ?_) AllReadyB.nil
     go_simp
     refine hK.out _ _ (fun h => absurd (show true = false from h) (by decide)) (HC9.out.tbx.cell 2 rfl) ?_
     try simp only [Act.put, List.setIfInBounds_toArray, List.set_cons_zero, List.set_cons_succ]
     clear hK K
     refine wpAnyB_done (by kernel_rfl) ?_ _
     clear q1 q2 fq1 hTd hSd
     obtain ⟨W5, hW5⟩ : ∃ W5, W5 = w7.setCell ⟨wo.heap.size, 1, none⟩ (.slice (some ⟨p7, 0, none⟩) (r + 1) cap7) := ⟨_, rfl⟩
     rw [← hW5] at HC9
     go_upto_region 10 with fail
     rw [← hW5]
     clear hW5 HG7 HOWN7 HAT7 HCA HNA hzA HCd HC hwd
     have hw5 := HC9.out.bel.size
     obtain ⟨dg, hdg⟩ : ∃ dg, dg = digB.getD r ⟨#[]⟩ := ⟨_, rfl⟩
     have HDG := hid hdg
     have hr4i : (r : Int) < 4 := by omega
     have HDD := hid (fun (W : World) => (BoxN.new W #[.string ⟨#[49]⟩, .string ⟨#[50]⟩, .string ⟨#[51]⟩, .string ⟨#[52]⟩] 9).cell r (v := .string dg) (by rw [hdg]; rcases (show r = 0 ∨ r = 1 ∨ r = 2 ∨ r = 3 by omega) with rfl | rfl | rfl | rfl <;> rfl))
     clear hdg
     have HCd := hid (HC9.out.drew)
     refine wp_region_before (st := 16) (T := fun w' => w'.cell? ⟨wo.heap.size + 1, 2, none⟩ = some (.slice (some ⟨wo.heap.size, 0, none⟩) 2 2)) (S := fun w' => w'.cell? ⟨wo.heap.size, 3, none⟩ = some (.slice a1 r c1)) (by kernel_rfl) ?_
     generalize W5.drew = Wd at *
     have hTd := HCd.out.tbx.cell 2 rfl
     have hSd := HCd.out.cbx.cell 3 rfl
     refine wpAnyB_takeT (i := 0) (oi := ?o0_9) (v := ?v0_9) ?hi0_9 (by kernel_rfl) (by kernel_rfl) (by kernel_rfl) (by kernel_rfl) ?hq0_9 ?hy0_9 (fun _ => hSd) hTd ?r0_9
     case hi0_9 => (simp only [List.getElem?_toArray, List.getElem?_cons_zero, List.getElem?_cons_succ]; exact rfl)
     case hq0_9 => exact fun _ _ _ h => h
     case hy0_9 =>
      refine Or.inl ⟨by rfl, ?_⟩
      intro w' hSw
      (try dsimp only at hSw)
      first
      | (go_simp; done)
      | (go_simp; with_reducible rfl)
     try simp only [Act.put, List.setIfInBounds_toArray, List.set_cons_zero, List.set_cons_succ]
     refine wpAnyB_takeT (i := 1) (oi := ?o1_10) (v := ?v1_10) ?hi1_10 (by kernel_rfl) (by kernel_rfl) (by kernel_rfl) (by kernel_rfl) ?hq1_10 ?hy1_10 (fun _ => hSd) hTd ?r1_10
     case hi1_10 => (simp only [List.getElem?_toArray, List.getElem?_cons_zero, List.getElem?_cons_succ]; exact rfl)
     case hq1_10 => exact fun _ _ _ h => h
     case hy1_10 =>
      refine Or.inl ⟨by rfl, ?_⟩
      intro w' hSw
      (try dsimp only at hSw)
      first
      | (go_simp; done)
      | (go_simp; with_reducible rfl)
     try simp only [Act.put, List.setIfInBounds_toArray, List.set_cons_zero, List.set_cons_succ]
     refine wpAnyB_takeT (i := 2) (oi := ?o2_11) (v := ?v2_11) ?hi2_11 (by kernel_rfl) (by kernel_rfl) (by kernel_rfl) (by kernel_rfl) ?hq2_11 ?hy2_11 (fun _ => hSd) hTd ?r2_11
     case hi2_11 => (simp only [List.getElem?_toArray, List.getElem?_cons_zero, List.getElem?_cons_succ]; exact rfl)
     case hq2_11 => exact fun _ _ _ h => h
     case hy2_11 =>
      refine Or.inl ⟨by rfl, ?_⟩
      intro w' hSw
      (try dsimp only at hSw)
      first
      | (go_simp; done)
      | (go_simp; with_reducible rfl)
     try simp only [Act.put, List.setIfInBounds_toArray, List.set_cons_zero, List.set_cons_succ]
     refine wpAnyB_takeT (i := 3) (oi := ?o3_12) (v := ?v3_12) ?hi3_12 (by kernel_rfl) (by kernel_rfl) (by kernel_rfl) (by kernel_rfl) ?hq3_12 ?hy3_12 (fun _ => hSd) hTd ?r3_12
     case hi3_12 => (simp only [List.getElem?_toArray, List.getElem?_cons_zero, List.getElem?_cons_succ]; exact rfl)
     case hq3_12 => exact fun _ _ _ h => h
     case hy3_12 =>
      refine Or.inl ⟨by rfl, ?_⟩
      intro w' hSw
      (try dsimp only at hSw)
      first
      | (go_simp; done)
      | (go_simp; with_reducible rfl)
     try simp only [Act.put, List.setIfInBounds_toArray, List.set_cons_zero, List.set_cons_succ]
     refine wpAnyB_takeT (i := 4) (oi := ?o4_13) (v := ?v4_13) ?hi4_13 (by kernel_rfl) (by kernel_rfl) (by kernel_rfl) (by kernel_rfl) ?hq4_13 ?hy4_13 (fun _ => hSd) hTd ?r4_13
     case hi4_13 => (simp only [List.getElem?_toArray, List.getElem?_cons_zero, List.getElem?_cons_succ]; exact rfl)
     case hq4_13 => exact fun _ _ _ h => h
     case hy4_13 =>
      refine Or.inl ⟨by rfl, ?_⟩
      intro w' hSw
      (try dsimp only at hSw)
      first
      | (go_simp; done)
      | (go_simp; with_reducible rfl)
     try simp only [Act.put, List.setIfInBounds_toArray, List.set_cons_zero, List.set_cons_succ]
     refine wpAnyB_takeT (i := 5) (oi := ?o5_14) (v := ?v5_14) ?hi5_14 (by kernel_rfl) (by kernel_rfl) (by kernel_rfl) (by kernel_rfl) ?hq5_14 ?hy5_14 (fun _ => hSd) hTd ?r5_14
     case hi5_14 => (simp only [List.getElem?_toArray, List.getElem?_cons_zero, List.getElem?_cons_succ]; exact rfl)
     case hq5_14 => exact fun _ _ _ h => h
     case hy5_14 =>
      refine Or.inl ⟨by rfl, ?_⟩
      intro w' hSw
      (try dsimp only at hSw)
      first
      | (go_simp; done)
      | (go_simp; with_reducible rfl)
     try simp only [Act.put, List.setIfInBounds_toArray, List.set_cons_zero, List.set_cons_succ]
     refine wpAnyB_take (i := 6) (oi := ?o6_15) (v := ?v6_15) ?hi6_15 (by kernel_rfl) (by kernel_rfl) (by kernel_rfl) [16, 13] (by kernel_rfl) ?hq6_15 ?hy6_15 hSd hTd ?r6_15
     case hi6_15 => (simp only [List.getElem?_toArray, List.getElem?_cons_zero, List.getElem?_cons_succ]; exact rfl)
     case hq6_15 => exact fun _ _ _ h => h
     case hy6_15 =>
      refine Or.inl ⟨by rfl, ?_⟩
      intro w' hSw
      (try dsimp only at hSw)
      first
      | (go_simp; done)
      | (go_simp; with_reducible rfl)
     try simp only [Act.put, List.setIfInBounds_toArray, List.set_cons_zero, List.set_cons_succ]
     refine wpAnyB_takeT (i := 8) (oi := ?o8_16) (v := ?v8_16) ?hi8_16 (by kernel_rfl) (by kernel_rfl) (by kernel_rfl) (by kernel_rfl) ?hq8_16 ?hy8_16 (fun _ => hSd) hTd ?r8_16
     case hi8_16 => (simp only [List.getElem?_toArray, List.getElem?_cons_zero, List.getElem?_cons_succ]; exact rfl)
     case hq8_16 => exact fun _ _ _ h => h
     case hy8_16 =>
      refine Or.inl ⟨by rfl, ?_⟩
      intro w' hSw
      (try dsimp only at hSw)
      first
      | (go_simp; done)
      | (go_simp; with_reducible rfl)
     try simp only [Act.put, List.setIfInBounds_toArray, List.set_cons_zero, List.set_cons_succ]
     refine wpAnyB_ready (rs := [7]) (by kernel_rfl) (by simp) ?_
     refine AllReadyB.cons rfl (fun K hK => ?_) AllReadyB.nil
     go_simp
     have HCA := hid (HCd.out.later ((Below.refl Wd.heap.size Wd).alloc (Nat.le_refl _) (.cells #[.string ⟨#[49]⟩, .string ⟨#[50]⟩, .string ⟨#[51]⟩, .string ⟨#[52]⟩] 9)))
     have hzA : (Wd.alloc (.cells #[.string ⟨#[49]⟩, .string ⟨#[50]⟩, .string ⟨#[51]⟩, .string ⟨#[52]⟩] 9)).heap.size = Wd.heap.size + 1 := by simp
     have hwd := HCd.out.bel.size
     have hdd := HDD.out Wd
     refine hK.out _ _ (fun _ => HCA.out.cbx.cell 3 rfl) (HCA.out.tbx.cell 2 rfl) ?_
     try simp only [Act.put, List.setIfInBounds_toArray, List.set_cons_zero, List.set_cons_succ]
     clear hK K
     refine wpAnyB_ready (rs := [9]) (by kernel_rfl) (by simp) ?_
     refine AllReadyB.cons rfl (fun K hK => ?_) AllReadyB.nil
     go_simp
     refine hK.out _ _ (fun _ => HCA.out.cbx.cell 3 rfl) (HCA.out.tbx.cell 2 rfl) ?_
     try simp only [Act.put, List.setIfInBounds_toArray, List.set_cons_zero, List.set_cons_succ]
     clear hK K
     refine wpAnyB_ready (rs := [10]) (by kernel_rfl) (by simp) ?_
     refine AllReadyB.cons rfl (fun K hK => ?_) AllReadyB.nil
     go_simp
     refine hK.out _ _ (fun _ => HCA.out.cbx.cell 3 rfl) (HCA.out.tbx.cell 2 rfl) ?_
     try simp only [Act.put, List.setIfInBounds_toArray, List.set_cons_zero, List.set_cons_succ]
     clear hK K
     refine wpAnyB_ready (rs := [11]) (by kernel_rfl) (by simp) ?_
     refine AllReadyB.cons rfl (fun K hK => ?_) AllReadyB.nil
     go_simp
     refine hK.out _ _ (fun _ => HCA.out.cbx.cell 3 rfl) (HCA.out.tbx.cell 2 rfl) ?_
     try simp only [Act.put, List.setIfInBounds_toArray, List.set_cons_zero, List.set_cons_succ]
     clear hK K
     refine wpAnyB_ready (rs := [12]) (by kernel_rfl) (by simp) ?_
     refine AllReadyB.cons rfl (fun K hK => ?_) AllReadyB.nil
     go_simp
     have HCB := hid (HCA.out.later ((Below.refl (Wd.alloc (.cells #[.string ⟨#[49]⟩, .string ⟨#[50]⟩, .string ⟨#[51]⟩, .string ⟨#[52]⟩] 9)).heap.size (Wd.alloc (.cells #[.string ⟨#[49]⟩, .string ⟨#[50]⟩, .string ⟨#[51]⟩, .string ⟨#[52]⟩] 9))).alloc (Nat.le_refl _) (.cells #[.bool false, .string dg] 84)))
     have hnb := BoxN.new (Wd.alloc (.cells #[.string ⟨#[49]⟩, .string ⟨#[50]⟩, .string ⟨#[51]⟩, .string ⟨#[52]⟩] 9)) #[.bool false, .string dg] 84
     rw [World.size_alloc] at hnb
     have HNB := hid hnb
     have hzB : ((Wd.alloc (.cells #[.string ⟨#[49]⟩, .string ⟨#[50]⟩, .string ⟨#[51]⟩, .string ⟨#[52]⟩] 9)).alloc (.cells #[.bool false, .string dg] 84)).heap.size = Wd.heap.size + 2 := by simp
     clear hdd hnb
     refine hK.out _ _ (fun _ => HCB.out.cbx.cell 3 rfl) (HCB.out.tbx.cell 2 rfl) ?_
     try simp only [Act.put, List.setIfInBounds_toArray, List.set_cons_zero, List.set_cons_succ]
     clear hK K
     refine wpAnyB_ready (rs := [13]) (by kernel_rfl) (by simp) ?_
     refine AllReadyB.cons rfl (fun K hK => ?_) AllReadyB.nil
     refine step_append_form _ rfl (.tmp 41) (.tmp 47) 53 53 rfl wo.heap.size 84 84 i0 (.agg #[.bool false, .string ⟨#[]⟩]) 2 24 Tryz.underlying53 Tryz.underlying53 hi hz0 hz1 hz2 rfl (by decide) (.slice a1 r c1) r _ rfl HCB.out.own1 (some ⟨_, 0, none⟩) 1 1 [.bool false, .string dg] rfl rfl (fun _ => ⟨_, rfl, World.news_of_block HNB.out⟩) (by intro u hu; simp at hu; rcases hu with rfl | rfl <;> rfl) (by omega) (by unfold maxLen; omega) (by omega) (by simp; omega) ?_
     intro p8 cap8 w8 hown hg hat hlt
     have hcbx := HCB.out.cbx.grown hg (fun e => own_ne HCB.out.own1 HCB.out.cbx (by decide) e.symm)
     have q1 := hcbx.cell 3 rfl
     have fq1 := hcbx.frozen 3
     have q2 := (HCB.out.tbx.grown hg (fun e => own_ne HCB.out.own1 HCB.out.tbx (by decide) e.symm)).cell 2 rfl
     have HG8 := hid hg
     have HOWN8 := hid hown
     have HAT8 := hid hat
     clear hown hg hat hcbx
     refine hK.out _ _ (fun _ => q1) q2 ?_
     try simp only [Act.put, List.setIfInBounds_toArray, List.set_cons_zero, List.set_cons_succ]
     clear hK K
     refine wpAnyB_ready (rs := [14]) (by kernel_rfl) (by simp) ?_
     refine AllReadyB.cons rfl (fun K hK => ?_) AllReadyB.nil
     go_simp
     refine hK.out _ _ (fun _ => q1) q2 ?_
     try simp only [Act.put, List.setIfInBounds_toArray, List.set_cons_zero, List.set_cons_succ]
     clear hK K
     refine wpAnyB_ready (rs := [15]) (by kernel_rfl) (by simp) ?_
     refine AllReadyB.cons rfl (fun K hK => ?_) AllReadyB.nil
     go_simp
     refine hK.out _ _ (fun _ => q1) q2 ?_
     try simp only [Act.put, List.setIfInBounds_toArray, List.set_cons_zero, List.set_cons_succ]
     clear hK K
     have HCC := hid (HCB.out.push1 rfl (by rw [← HDG.out]; exact HOWN8.out) HG8.out HAT8.out)
     refine wpAnyB_ready (rs := [16]) (by kernel_rfl) (by simp) ?_
     refine AllReadyB.cons rfl (fun K hK => ?_) AllReadyB.nil
     go_simp
     refine hK.out _ _ (fun h => absurd (show true = false from h) (by decide)) (HCC.out.tbx.cell 2 rfl) ?_
     try simp only [Act.put, List.setIfInBounds_toArray, List.set_cons_zero, List.set_cons_succ]
     clear hK K
     refine wpAnyB_done (by kernel_rfl) ?_ _
     clear q1 q2 fq1 hTd hSd
     go_wp2
     go_roundg (gk - 1)
     case rel => exact ⟨r + 1, _, _, by go_num, by omega, HCC⟩
     case measure => omega
    ·obtain rfl : gk = 0 := by omega
     obtain rfl : nq = r := by omega
     have hrni : ¬ (nq : Int) < (nq : Int) := by omega
     have hbt := HC.out.built
     have x0 := HC.out.tbx.cell 0 rfl
     have x1 := HC.out.tbx.cell 1 rfl
     have x2 := HC.out.tbx.cell 2 rfl
     have hrw := own_later HRW.out HC.out.bel
     have HRA := hid (hrw.alloc (.cells #[.int .i64 ((q : Int) + 1), .string ⟨#[]⟩, .slice (some ⟨wo.heap.size, 0, none⟩) 2 2] 51))
     have HNA := hid (BoxN.new wr #[.int .i64 ((q : Int) + 1), .string ⟨#[]⟩, .slice (some ⟨wo.heap.size, 0, none⟩) 2 2] 51)
     have HBT := hid hbt
     have HCC := HC
     have hzA : (wr.alloc (.cells #[.int .i64 ((q : Int) + 1), .string ⟨#[]⟩, .slice (some ⟨wo.heap.size, 0, none⟩) 2 2] 51)).heap.size = wr.heap.size + 1 := by simp
     clear hbt hrw
     go_wp2_with (at_builtin; refine wpList_append_form _ rfl _ _ 25 25 rfl W1.heap.size 51 51 i1 (.agg #[.int .i64 0, .string ⟨#[]⟩, .slice none 0 0]) 3 48 Tryz.underlying25 Tryz.underlying25 hi1 hy0 hy1 hy2 rfl (by decide) (.slice oa q oc) q _ rfl HRA.out (some ⟨_, 0, none⟩) 1 1 [.int .i64 ((q : Int) + 1), .string ⟨#[]⟩, .slice (some ⟨wo.heap.size, 0, none⟩) 2 2] rfl rfl (fun _ => ⟨_, rfl, World.news_of_block HNA.out⟩) (by intro u hu; simp at hu; rcases hu with rfl | rfl | rfl <;> rfl) (by omega) (by unfold maxLen; omega) (by omega) (by simp; omega) ?_; intro p7 cap7 w7 hown7 hg7 hat7 hlt7; have HG7 := hid hg7; have HOWN7 := hid hown7; clear hown7 hg7 hat7)
     clear x0 x1 x2
     go_wp2
     have hg7 := HG7.out
     have hrl := HRA.out.lt
     have hsz7 := hg7.size
     have hB7 : Below w.heap.size w w7 := (HB.out.trans (((HCC.out.bel.trans ((Below.refl wr.heap.size wr |>.alloc (Nat.le_refl _) (.cells #[.int .i64 ((q : Int) + 1), .string ⟨#[]⟩, .slice (some ⟨wo.heap.size, 0, none⟩) 2 2] 51)).mono hwr)).mono hwz))).trans ⟨hg7.os, hg7.tape, hg7.output, hg7.size, fun k hk => hg7.block k (by omega) (fun e => by have := (hrl k e.symm).1; have := hw1; omega)⟩
     have hI7 : BoxN w7 w.heap.size 3 #[.int .i64 4, .int .i64 3, .int .i64 1] := ((HI.out.below HCC.out.bel HI.out.lt).alloc (.cells #[.int .i64 ((q : Int) + 1), .string ⟨#[]⟩, .slice (some ⟨wo.heap.size, 0, none⟩) 2 2] 51)).grown hg7 (fun e => own_ne HRA.out ((HI.out.below HCC.out.bel HI.out.lt).alloc (.cells #[.int .i64 ((q : Int) + 1), .string ⟨#[]⟩, .slice (some ⟨wo.heap.size, 0, none⟩) 2 2] 51)) (by decide) e.symm)
     have hold : ∀ lo hi n v, TabB wo lo hi n v → hi ≤ wo.heap.size → TabB w7 lo hi n v := fun lo hi n v h h2 =>
      ((h.keep (W' := wr.alloc (.cells #[.int .i64 ((q : Int) + 1), .string ⟨#[]⟩, .slice (some ⟨wo.heap.size, 0, none⟩) 2 2] 51)) fun b cur e _ hb _ _ => (Below.heap_alloc wr _ b (by omega)).trans (HCC.out.bel.block b (by omega))).grown HRA.out hg7 (by omega))
     have hnew : TabB w7 wo.heap.size wr.heap.size nq (.slice (some ⟨wo.heap.size, 0, none⟩) 2 2) := (HBT.out.keep (W' := wr.alloc (.cells #[.int .i64 ((q : Int) + 1), .string ⟨#[]⟩, .slice (some ⟨wo.heap.size, 0, none⟩) 2 2] 51)) fun b cur e _ hb _ _ => Below.heap_alloc wr _ b hb).grown HRA.out hg7 (by omega)
     have HB7 := hid hB7
     have HI7 := hid hI7
     have hchb : chB.getD q Ta.z = ⟨(q : Int) + 1, ⟨#[]⟩, chC (nOf q)⟩ := by rcases (show q = 0 ∨ q = 1 ∨ q = 2 by omega) with rfl | rfl | rfl <;> rfl
     have HRW7 : Hid (w7.ownsRow W1.heap.size 51 3 (.slice (some ⟨p7, 0, none⟩) (q + 1) cap7) (q + 1) (flatK 3 (q + 1) (taF chB (fun i => if i = q then .slice (some ⟨wo.heap.size, 0, none⟩) 2 2 else tv i)))) := hid (by
      have h := HOWN7.out
      rw [flat_push (f' := taF chB (fun i => if i = q then .slice (some ⟨wo.heap.size, 0, none⟩) 2 2 else tv i)) (fun i hi j hj => by
       have : i ≠ q := by omega
       simp [taF, this]) (by
       simp only [taF, List.range_succ, List.range_zero, List.nil_append, List.map_append, List.map_cons, List.map_nil, if_true]
       rw [hchb]
       rfl)] at h
      exact h)
     go_roundg (go - 1)
     case rel => exact ⟨q + 1, fun i => if i = q then wo.heap.size else lo i, fun i => if i = q then wr.heap.size else hf i, fun i => if i = q then .slice (some ⟨wo.heap.size, 0, none⟩) 2 2 else tv i, by go_num, by omega, HI7, HB7, HRW7, hid (fun j hj => by
      by_cases h1 : j = q
      ·subst h1
       simp only [if_true]
       refine ⟨by rw [HNQ.out]; exact hnew, hlo, by omega, fun m hm => ?_⟩
       have : m ≠ j := by omega
       simp only [if_neg this]
       exact (HTB.out m hm).2.2.1
      ·have hjq : j < q := by omega
       obtain ⟨b1, b2, b3, b4⟩ := HTB.out j hjq
       simp only [if_neg h1]
       refine ⟨hold _ _ _ _ b1 b3, b2, by omega, fun m hm => ?_⟩
       have : m ≠ q := by omega
       simp only [if_neg this]
       exact b4 m hm), by omega⟩
     case measure => omega
  ·obtain rfl : go = 0 := by omega
   obtain rfl : q = 3 := by omega
   obtain ⟨b1, b2, b3, -⟩ := HTB.out 0 (by omega)
   obtain ⟨v0, v1, et, hcb, h0, h1, ha, hl, hh0, hh1⟩ := b1
   obtain ⟨c1, cap, e1, hc1, hc1l⟩ := h1.form (by decide)
   subst e1
   obtain ⟨gr, capr, e2, hgr, hgrl⟩ := HRW.out.form (by omega)
   obtain ⟨rfl, -, rfl⟩ := Value.slice.inj e2
   have hnull := TabB.nulled (v := tv 0) hcb h0 h1 (fun e => ha _ e rfl) hl hh0 (hh1 c1 rfl) et
   have hgc : gr ≠ c1 := fun e => own_ne2 HRW.out h1 (by decide) rfl (by rw [e]; rfl)
   have k2 : wo.cell? ⟨gr, 2, none⟩ = some (.slice (some ⟨lo 0, 0, none⟩) 2 2) := by
    have h2 := (HRW.out.cellAt 2 (by omega)).trans (flatK_at (k := 3) (f := taF chB tv) (i := 0) (j := 2) (by omega) (by omega))
    rw [← et]
    exact h2
   have k3 : wo.cell? ⟨lo 0, 3, none⟩ = some (.slice (some ⟨c1, 0, none⟩) 4 cap) := hcb.cell 3 rfl
   have m6 : wo.cell? ⟨c1, 6, none⟩ = some (.bool false) := h1.cellAt 6 (by decide)
   have m7 : wo.cell? ⟨c1, 7, none⟩ = some (.string ⟨#[52]⟩) := h1.cellAt 7 (by decide)
   have f6 := h1.frozenAt 6
   have f7 := h1.frozenAt 7
   have HNU := hid hnull
   have HIN := hid (fun (W' : World) (hk : ∀ b, b ≠ c1 → W'.heap[b]? = wo.heap[b]?) => (own_keepB (w' := W') HRW.out fun b hb => hk b (fun e => hgc (by rw [← e]; exact Option.some.inj hb))))
   have hc1h := hh1 c1 rfl
   obtain ⟨t1, t2, t3, t4⟩ := HTB.out 1 (by omega)
   obtain ⟨u1, u2, u3, u4⟩ := HTB.out 2 (by omega)
   have HT1 := hid (fun (W' : World) (hk : ∀ b, b ≠ c1 → W'.heap[b]? = wo.heap[b]?) => (t1.keep (W' := W') fun b cur e hb _ _ _ => hk b (by have := t4 0 (by omega); omega)).read)
   have HT2 := hid (fun (W' : World) (hk : ∀ b, b ≠ c1 → W'.heap[b]? = wo.heap[b]?) => (u1.keep (W' := W') fun b cur e hb _ _ _ => hk b (by have := u4 0 (by omega); omega)).read)
   have hcw : w.heap.size ≤ c1 := by omega
   clear hcb h0 h1 ha hh0 hh1 hnull t1 u1 t4 u4 e2
   go_wp2
   go_ret
   have hk : ∀ b, b ≠ c1 → ((wo.setCell ⟨c1, 6, none⟩ (.bool true)).setCell ⟨c1, 7, none⟩ (.string ⟨#[]⟩)).heap[b]? = wo.heap[b]? := fun b hb => by
    rw [Below.heap_setCell _ _ _ _ hb, Below.heap_setCell _ _ _ _ hb]
   have hrowN := HIN.out _ hk
   refine ⟨_, rfl, ⟨tv, ((inK_of_owns hrowN).more fun b hb => ?_).congr fun i hi j hj => ?_, fun i hi => ?_⟩, (HB.out.setCell (p := ⟨c1, 6, none⟩) hcw _).setCell (p := ⟨c1, 7, none⟩) hcw _⟩
   ·have h2 := hrowN.lt b hb
    exact ⟨by omega, h2.2⟩
   ·rcases (show i = 0 ∨ i = 1 ∨ i = 2 by omega) with rfl | rfl | rfl <;> rcases (show j = 0 ∨ j = 1 ∨ j = 2 by omega) with rfl | rfl | rfl <;> rfl
   ·rcases (show i = 0 ∨ i = 1 ∨ i = 2 by simp [chainL] at hi; omega) with rfl | rfl | rfl
    ·exact HNU.out.more fun b hb => ⟨by have := hb.1; omega, by have := hb.2; simp; omega⟩
    ·exact (HT1.out _ hk).more fun b hb => ⟨by have := hb.1; omega, by have := hb.2; simp; omega⟩
    ·exact (HT2.out _ hk).more fun b hb => ⟨by have := hb.1; omega, by have := hb.2; simp; omega⟩
end Go.Proofs.YtaajpliifdlokaaGreatDoor

namespace Go.Proofs.YtaajpliifdlokaaGreatDoor
open Go.RowKit
theorem law39_awake (w : World) (hT : Tabs w) : Calls Tryz.prog 28 #[] w (Ret w (.bool true)) := law39_awake_of law39_chain w hT
end Go.Proofs.YtaajpliifdlokaaGreatDoor
