/- Contract of explain.Run at operations that can be done. -/
import Derived.Test.YtaajpliifdlokaaGreatDoorLnNraw
import Derived.Test.YtaajpliifdlokaaGreatDoorLnNrac
set_option linter.unusedVariables false
set_option linter.unusedSimpArgs false
namespace Go.Proofs.YtaajpliifdlokaaGreatDoor
open Go.RowKit
theorem do_len {xs : List Co} {o : Po} (hl : xs.length ≤ 64) (hc : canL xs.length o = true) : (doL xs o).length ≤ 64 := by
  unfold doL
  by_cases h3 : o.kind = 3
  · rw [if_pos h3, projL_len]
    exact (can_ks hc h3).2
  · rw [if_neg h3, selL_len]
    exact hl
theorem run_ok : ∀ (os : List Po) (xs : List Co), Few xs → xs.length ≤ 64 → canRun xs os = true → ∀ q, Few (runL xs (os.take q)) ∧ (runL xs (os.take q)).length ≤ 64 ∧ (q < os.length → canL (runL xs (os.take q)).length (os.getD q Po.z) = true)
  | [], xs, h, hl, _, q => ⟨by simpa [runL] using h, by simpa [runL] using hl, fun hq => by simp at hq⟩
  | o :: os, xs, h, hl, hc, q => by
    unfold canRun at hc
    rw [Bool.and_eq_true] at hc
    cases q with
    | zero => exact ⟨by simpa [runL] using h, by simpa [runL] using hl, fun _ => by simpa [runL] using hc.1⟩
    | succ q =>
      obtain ⟨h1, h2, h3⟩ := run_ok os (doL xs o) (few_do h hc.1) (do_len hl hc.1) hc.2 q
      refine ⟨by simpa [runL] using h1, by simpa [runL] using h2, fun hq => ?_⟩
      have := h3 (by simpa using hq)
      simpa [runL] using this
theorem run_snoc (xs : List Co) {os : List Po} {q : Nat} (h : q < os.length) : runL xs (os.take (q + 1)) = doL (runL xs (os.take q)) (os.getD q Po.z) := by
  rw [List.take_succ_eq_append_getElem h, runL_append]
  simp [runL, List.getD, h]
theorem RdKs.more {w : World} {S S' : Nat → Prop} {v : Value} {ks : List Int} (h : RdKs w S v ks) (hS : ∀ b, S b → S' b) : RdKs w S' v ks := InK.more h hS
theorem RdKs.keep {w w' : World} {S : Nat → Prop} {v : Value} {ks : List Int} (h : RdKs w S v ks) (hk : ∀ p : Addr, S p.block → w'.cell? p = w.cell? p) : RdKs w' S v ks := InK.keep h hk
def OwnCo (w : World) (B O : Nat) (W : World) (v : Value) (ys : List Co) : Prop := RdCo W (fun b => B ≤ b ∧ b < W.heap.size ∧ b ≠ O) v ys ∧ Below w.heap.size w W
theorem rdCo_len {w : World} {S : Nat → Prop} {v : Value} {ys : List Co} (h : RdCo w S v ys) : ∃ a c, v = .slice a ys.length c := by
  obtain ⟨cv, ⟨a, c, e, -⟩, -⟩ := h
  exact ⟨a, c, e⟩
theorem rdPo_at {w : World} {S : Nat → Prop} {v : Value} {os : List Po} (h : RdPo w S v os) {q : Nat} (hq : q < os.length) : ∃ b o c uv, v = .slice (some ⟨b, o, none⟩) os.length c ∧ S b ∧ RdKs w S uv (os.getD q Po.z).cols ∧ os.length ≤ c ∧ c ≤ maxLen ∧
    w.cell? ⟨b, o + q * 4, none⟩ = some (.int .i64 (os.getD q Po.z).kind) ∧ w.cell? ⟨b, o + q * 4 + 1, none⟩ = some (.int .i64 (os.getD q Po.z).col) ∧ w.cell? ⟨b, o + q * 4 + 2, none⟩ = some (.string (os.getD q Po.z).text) ∧ w.cell? ⟨b, o + q * 4 + 3, none⟩ = some uv := by
  obtain ⟨uv, ⟨a, c, rfl, h1, h2, h3⟩, hk⟩ := h
  obtain ⟨b, o, rfl, hb, hc⟩ := h3 (by omega)
  exact ⟨b, o, c, uv q, rfl, hb, hk q hq, h1, h2, hc q hq 0 (by omega), hc q hq 1 (by omega), hc q hq 2 (by omega), hc q hq 3 (by omega)⟩
set_option maxRecDepth 100000 in
set_option maxHeartbeats 4000000 in
theorem expl_Run (t : Ta) (v lv : Value) (os : List Po) (B : Nat) (w : World) (ht : TabV t) (hx : Few t.cols) (hv : RdCo w (· < B) v t.cols) (hlv : RdPo w (· < B) lv os) (hB : B ≤ w.heap.size) (hT : Tabs w) (hcan : canRun t.cols os = true) (hol : os.length ≤ 5) :
  Calls Tryz.prog 163 #[.agg #[.int .i64 t.id, .string t.name, v], lv] w (fun e w' => ∃ y, e = .returned (.tuple #[.agg #[.int .i64 t.id, .string t.name, y], .int .i64 0]) ∧ RdCo w' (News w w') y (runL t.cols os) ∧ Below w.heap.size w w') := by
 have hxl64 : t.cols.length ≤ 64 := ht.2.2.2.1
 have hkeep := fun W (hW : Below w.heap.size w W) => (hv.keep fun p (hp : p.block < B) => hW.cell (p := p) (by omega) : RdCo W (· < B) v t.cols)
 have HVL := hid (fun W (hW : Below w.heap.size w W) => table_Valid t v B W ht (hkeep W hW) (Nat.le_trans hB hW.size) (hT.below hW))
 have HOW := hid (fun W (hW : Below w.heap.size w W) => lists_Own t.id t.name v t.cols B W (hkeep W hW) (Nat.le_trans hB hW.size) (by omega) (fun x hxx => by rw [hx.cells x hxx]; have := hx.rows; omega))
 have hrun := run_ok os t.cols hx hxl64 hcan
 have HCA := hid (fun q (hq : q < os.length) y u W (hy : RdCo W (· < W.heap.size) y (runL t.cols (os.take q))) (hu : RdKs W (· < W.heap.size) u (os.getD q Po.z).cols) => expl_can (os.getD q Po.z) t.id t.name y u (runL t.cols (os.take q)) W.heap.size W hy hu.op (Nat.le_refl _) ((hrun q).2.2 hq))
 have HDO := hid (fun q (hq : q < os.length) y u W (hy : RdCo W (· < W.heap.size) y (runL t.cols (os.take q))) (hu : RdKs W (· < W.heap.size) u (os.getD q Po.z).cols) => expl_does (os.getD q Po.z) t.id t.name y u (runL t.cols (os.take q)) W.heap.size W hy hu.op (Nat.le_refl _) (hrun q).1 (hrun q).2.1 ((hrun q).2.2 hq))
 have HSN := hid (fun q (hq : q < os.length) => run_snoc t.cols hq)
 have HALL : Hid (runL t.cols (os.take os.length) = runL t.cols os) := hid (by rw [List.take_length])
 have HZ : Hid (runL t.cols (os.take 0) = t.cols) := hid rfl
 obtain ⟨va, vc, rfl⟩ := rdCo_len hv
 obtain ⟨la, lc, rfl⟩ : ∃ a c, lv = .slice a os.length c := by
  obtain ⟨uv, ⟨a, c, e, -⟩, -⟩ := hlv
  exact ⟨a, c, e⟩
 have HLV := hid hlv
 have HAT := hid (fun q (hq : q < os.length) W (hW : Below w.heap.size w W) => rdPo_at (hlv.keep (w' := W) fun p (hp : p.block < B) => hW.cell (p := p) (by omega)) hq)
 clear hv hlv hkeep hT ht hx hcan hrun
 obtain ⟨id, nm, xs⟩ := t
 simp only at *
 generalize hxl : xs.length = L at *
 clear hxl
 generalize hkl : os.length = m at *
 have HX0 := hid ((BoxN.new w #[.int .i64 id, .string nm, .slice va L vc] 51).alloc (.cells #[.int .i64 0, .string ⟨#[]⟩, .slice none 0 0] 51))
 have hy0 := BoxN.new (w.alloc (.cells #[.int .i64 id, .string nm, .slice va L vc] 51)) #[.int .i64 0, .string ⟨#[]⟩, .slice none 0 0] 51
 rw [World.size_alloc] at hy0
 have HY0 := hid hy0
 have HB0 := hid (((Below.refl w.heap.size w).alloc (Nat.le_refl _) (.cells #[.int .i64 id, .string nm, .slice va L vc] 51)).alloc (by simp) (.cells #[.int .i64 0, .string ⟨#[]⟩, .slice none 0 0] 51))
 have hz0' : ((w.alloc (.cells #[.int .i64 id, .string nm, .slice va L vc] 51)).alloc (.cells #[.int .i64 0, .string ⟨#[]⟩, .slice none 0 0] 51)).heap.size = w.heap.size + 2 := by simp
 have x0 := HX0.out.cell 0 rfl
 have x1 := HX0.out.cell 1 rfl
 have x2 := HX0.out.cell 2 rfl
 have hd5 : ¬ (5 : Int) < (m : Int) := by omega
 clear hy0
 go_enter Tryz.func163, Tryz.ntmps163
 generalize hLA : Code.loop _ = LA
 go_wp2_with fail
 generalize (w.alloc (.cells #[.int .i64 id, .string nm, .slice va L vc] 51)).alloc (.cells #[.int .i64 0, .string ⟨#[]⟩, .slice none 0 0] 51) = W0 at *
 have hz0a := Nat.le_of_eq hz0'
 have hz0b := Nat.le_of_eq hz0'.symm
 clear hz0'
 with_reducible refine (HVL.out W0 HB0.out).mono ?_
 rintro e w1 ⟨rfl, hb1⟩
 have HB1 := hid (HB0.out.trans (hb1.mono (by omega)))
 have HX1 := hid (HX0.out.below hb1 HX0.out.lt)
 have HY1 := hid (HY0.out.below hb1 HY0.out.lt)
 have hz1 := hb1.size
 clear x0 x1 x2 hb1 HVL
 have x0 := HX1.out.cell 0 rfl
 have x1 := HX1.out.cell 1 rfl
 have x2 := HX1.out.cell 2 rfl
 go_wp2_with fail
 with_reducible refine (HOW.out w1 HB1.out).mono ?_
 rintro e w2 ⟨y2, rfl, hco2, hb2⟩
 have HB2 := hid (HB1.out.trans (hb2.mono (by omega)))
 have HX2 := hid (HX1.out.below hb2 HX1.out.lt)
 have HY2 := hid (HY1.out.below hb2 HY1.out.lt)
 have hz2 := hb2.size
 have hrd2 : RdCo (w2.alloc (.cells #[.int .i64 id, .string nm, y2] 51)) (fun b => W0.heap.size ≤ b ∧ b < w2.heap.size) y2 xs := (hco2.read.keep (fun p hp => World.cell?_alloc_lt _ _ _ hp.2)).more fun b hb => ⟨by have := hb.1; omega, hb.2⟩
 have HRD2 := hid hrd2
 have HQ3 := hid (BoxN.new w2 #[.int .i64 id, .string nm, y2] 51)
 have HY3 := hid (HY2.out.alloc (.cells #[.int .i64 id, .string nm, y2] 51))
 have HB3 := hid (HB2.out.alloc (by omega) (.cells #[.int .i64 id, .string nm, y2] 51))
 have hz3 : (w2.alloc (.cells #[.int .i64 id, .string nm, y2] 51)).heap.size = w2.heap.size + 1 := by simp
 obtain ⟨ya, yc, rfl⟩ := rdCo_len hrd2
 clear x0 x1 x2 hb2 HOW hco2 hrd2
 go_wp2_with fail
 generalize w2.alloc (.cells #[.int .i64 id, .string nm, .slice ya xs.length yc] 51) = W3 at *
 have hz3a := Nat.le_of_eq hz3
 have hz3b := Nat.le_of_eq hz3.symm
 clear hz3
 subst hLA
 go_loopg [23] m (fun N i wr => ∃ (q : Nat) (y : Value), i = .int .i64 (q : Int) ∧ q + N = m ∧ w2.heap.size < wr.heap.size ∧ Hid (Below w.heap.size w wr) ∧ Hid (BoxN wr (w.heap.size + 1) 51 #[.int .i64 0, .string ⟨#[]⟩, .slice none 0 0]) ∧ Hid (BoxN wr w2.heap.size 51 #[.int .i64 id, .string nm, y]) ∧ Hid (RdCo wr (fun b => W0.heap.size ≤ b ∧ b < wr.heap.size ∧ b ≠ w2.heap.size) y (runL xs (os.take q))))
 case atStart => exact ⟨0, _, rfl, by omega, by omega, HB3, HY3, HQ3, hid (by rw [HZ.out]; exact HRD2.out.more fun b hb => ⟨hb.1, by have := hb.2; omega, by have := hb.2; omega⟩)⟩
 case round =>
  obtain ⟨q, y, rfl, hq, hlw, HB, HY, HQ, HRD⟩ := hrel
  obtain ⟨ya, yc, rfl⟩ := rdCo_len HRD.out
  by_cases hp : 0 < gk
  ·have hqm : q < m := by omega
   obtain ⟨b, o, c, uv, hl, hb, hks, -, -, k0, k1, k2, k3⟩ := HAT.out q hqm wr HB.out
   obtain ⟨rfl, hmm, rfl⟩ := Value.slice.inj hl
   have hbB : b < B := hb
   obtain ⟨ua, uc, rfl⟩ : ∃ a c, uv = .slice a (os.getD q Po.z).cols.length c := by
    obtain ⟨a, c, e, -⟩ := hks
    exact ⟨a, c, e⟩
   have hws := HB.out.size
   have HKS := hid hks
   have HCQ := hid (HCA.out q hqm)
   have HDQ := hid (HDO.out q hqm)
   have HSNq := hid (HSN.out q hqm)
   clear hl hks
   generalize runL xs (os.take q) = ys at *
   generalize os.getD q Po.z = P at *
   obtain ⟨kind, col, text, cols⟩ := P
   simp only [Po.val] at *
   generalize cols.length = kl at *
   have HO4 := hid (BoxN.new wr #[.int .i64 kind, .int .i64 col, .string text, .slice ua kl uc] 122)
   have HQ4 := hid (HQ.out.alloc (.cells #[.int .i64 kind, .int .i64 col, .string text, .slice ua kl uc] 122))
   have HY4 := hid (HY.out.alloc (.cells #[.int .i64 kind, .int .i64 col, .string text, .slice ua kl uc] 122))
   have HB4 := hid (HB.out.alloc (by omega) (.cells #[.int .i64 kind, .int .i64 col, .string text, .slice ua kl uc] 122))
   have hz4 : (wr.alloc (.cells #[.int .i64 kind, .int .i64 col, .string text, .slice ua kl uc] 122)).heap.size = wr.heap.size + 1 := by simp
   have hRD4 : RdCo (wr.alloc (.cells #[.int .i64 kind, .int .i64 col, .string text, .slice ua kl uc] 122)) (· < wr.heap.size) (.slice ya ys.length yc) ys := (HRD.out.keep (fun p hp => World.cell?_alloc_lt _ _ _ hp.2.1)).more fun b hb => hb.2.1
   have hKS4 : RdKs (wr.alloc (.cells #[.int .i64 kind, .int .i64 col, .string text, .slice ua kl uc] 122)) (· < wr.heap.size) (.slice ua kl uc) cols := (InK.keep HKS.out (fun p (hp : p.block < B) => World.cell?_alloc_lt _ _ _ (by omega))).more fun b (hb : b < B) => by show b < wr.heap.size; omega
   have HRD4 := hid hRD4
   have HKS4 := hid hKS4
   clear hRD4 hKS4
   go_upto_region 9 with fail
   generalize wr.alloc (.cells #[.int .i64 kind, .int .i64 col, .string text, .slice ua kl uc] 122) = W4 at *
   have hz4a := Nat.le_of_eq hz4
   have hz4b := Nat.le_of_eq hz4.symm
   clear hz4 k0 k1 k2 k3
   have q0 := HQ4.out.cell 0 rfl
   have q1 := HQ4.out.cell 1 rfl
   have q2 := HQ4.out.cell 2 rfl
   have o0 := HO4.out.cell 0 rfl
   have o1 := HO4.out.cell 1 rfl
   have o2 := HO4.out.cell 2 rfl
   have o3 := HO4.out.cell 3 rfl
   go_wp2_with fail
   with_reducible refine (HCQ.out (.slice ya ys.length yc) (.slice ua kl uc) W4 (HRD4.out.more fun b (hb : b < wr.heap.size) => by show b < W4.heap.size; omega) (HKS4.out.more fun b (hb : b < wr.heap.size) => by show b < W4.heap.size; omega)).mono ?_
   rintro e w5 ⟨rfl, hb5⟩
   have hz5 := hb5.size
   have HB5 := hid (HB4.out.trans (hb5.mono (by omega)))
   have HQ5 := hid (HQ4.out.below hb5 HQ4.out.lt)
   have HY5 := hid (HY4.out.below hb5 HY4.out.lt)
   have HO5 := hid (HO4.out.below hb5 HO4.out.lt)
   have HRD5 := hid ((HRD4.out.keep (w' := w5) fun p (hp : p.block < wr.heap.size) => hb5.cell (p := p) (by omega)).more (S' := (· < w5.heap.size)) fun b (hb : b < wr.heap.size) => by show b < w5.heap.size; omega)
   have HKS5 : Hid (RdKs w5 (· < w5.heap.size) (.slice ua kl uc) cols) := hid ((HKS4.out.keep (w' := w5) fun p (hp : p.block < wr.heap.size) => hb5.cell (p := p) (by omega)).more fun b (hb : b < wr.heap.size) => by show b < w5.heap.size; omega)
   clear q0 q1 q2 o0 o1 o2 o3 hb5 HCQ
   have q0 := HQ5.out.cell 0 rfl
   have q1 := HQ5.out.cell 1 rfl
   have q2 := HQ5.out.cell 2 rfl
   have o0 := HO5.out.cell 0 rfl
   have o1 := HO5.out.cell 1 rfl
   have o2 := HO5.out.cell 2 rfl
   have o3 := HO5.out.cell 3 rfl
   go_wp2_with fail
   with_reducible refine (HDQ.out (.slice ya ys.length yc) (.slice ua kl uc) w5 HRD5.out HKS5.out).mono ?_
   rintro e w6 ⟨z, rfl, hco6, hb6⟩
   have hz6 := hb6.size
   have HB6 := hid (HB5.out.trans (hb6.mono (by omega)))
   have HQ6 := hid (HQ5.out.below hb6 HQ5.out.lt)
   have HY6 := hid (HY5.out.below hb6 HY5.out.lt)
   have hrd6 := hco6.read
   have HRD6 := hid hrd6
   obtain ⟨za, zc, rfl⟩ := rdCo_len hrd6
   clear q0 q1 q2 o0 o1 o2 o3 hb6 HDQ hco6 hrd6
   have q0 := HQ6.out.cell 0 rfl
   have q1 := HQ6.out.cell 1 rfl
   have q2 := HQ6.out.cell 2 rfl
   have f0 := HQ6.out.frozen 0
   have f1 := HQ6.out.frozen 1
   have f2 := HQ6.out.frozen 2
   go_wp2_with fail
   go_roundg (gk - 1)
   case rel =>
    refine ⟨q + 1, _, by go_num, by omega, by simp; omega, hid (((HB6.out.setCell (by show w.heap.size ≤ w2.heap.size; omega) _).setCell (by show w.heap.size ≤ w2.heap.size; omega) _).setCell (by show w.heap.size ≤ w2.heap.size; omega) _), hid (((HY6.out.other (by show w2.heap.size ≠ w.heap.size + 1; omega) _).other (by show w2.heap.size ≠ w.heap.size + 1; omega) _).other (by show w2.heap.size ≠ w.heap.size + 1; omega) _), hid (((HQ6.out.set 0 _).set 1 _).set 2 _), hid ?_⟩
    rw [HSNq.out]
    refine (HRD6.out.keep fun p hp => ?_).more fun b hb => ⟨by have := hb.1; omega, by have := hb.2; simpa using this, by have := hb.1; omega⟩
    have hp1 := hp.1
    rw [World.cell?_setCell_other _ _ _ _ (by intro e; subst e; simp at hp1; omega), World.cell?_setCell_other _ _ _ _ (by intro e; subst e; simp at hp1; omega), World.cell?_setCell_other _ _ _ _ (by intro e; subst e; simp at hp1; omega)]
   case measure => omega
  ·obtain rfl : gk = 0 := by omega
   obtain rfl : q = m := by omega
   have hrd : RdCo wr (fun b => W0.heap.size ≤ b ∧ b < wr.heap.size ∧ b ≠ w2.heap.size) (.slice ya (runL xs (os.take q)).length yc) (runL xs os) := by
    have h := HRD.out
    rw [HALL.out] at h ⊢
    exact h
   have hRL : Hid ((runL xs os).length = (runL xs (os.take q)).length) := hid (by rw [HALL.out])
   clear HALL HCA HDO HSN HAT HZ
   have HRDF := hid hrd
   clear hrd HRD
   generalize (runL xs (os.take q)).length = kl at *
   have q0 := HQ.out.cell 0 rfl
   have q1 := HQ.out.cell 1 rfl
   have q2 := HQ.out.cell 2 rfl
   have y0 := HY.out.cell 0 rfl
   have y1 := HY.out.cell 1 rfl
   have y2 := HY.out.cell 2 rfl
   have f0 := HY.out.frozen 0
   have f1 := HY.out.frozen 1
   have f2 := HY.out.frozen 2
   go_wp2
   refine bodyPost_ret (v := .tuple #[.agg #[.int .i64 id, .string nm, .slice ya kl yc], .int .i64 0]) (by simp [results, Tryz.results163, go_sem, y0, y1, y2]) rfl ⟨_, rfl, ?_, by have := HB.out; repeat' (first | (with_reducible exact Below.refl _ _) | (with_reducible assumption) | (with_reducible refine below_drewN ?_) | (with_reducible refine Below.alloc ?_ ?_ _) | (with_reducible refine Below.drew ?_) | (with_reducible refine Below.setCell ?_ ?_ _) | (with_reducible refine Below.trans ?_ (Below.mono (by with_reducible assumption) ?_)) | go_size)⟩
   have hws := HB.out.size
   refine (HRDF.out.keep fun p hp => ?_).more fun b hb => ⟨by have := hb.1; omega, by simpa using hb.2.1⟩
   have hp1 := hp.1
   rw [World.cell?_setCell_other _ _ _ _ (by intro e; subst e; simp at hp1; omega), World.cell?_setCell_other _ _ _ _ (by intro e; subst e; simp at hp1; omega), World.cell?_setCell_other _ _ _ _ (by intro e; subst e; simp at hp1; omega)]
end Go.Proofs.YtaajpliifdlokaaGreatDoor
