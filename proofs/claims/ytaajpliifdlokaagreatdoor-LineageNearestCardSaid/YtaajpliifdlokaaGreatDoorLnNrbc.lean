/- Contract of explain.own: the same operations in memory of their own. Contract of explain.Find at valid tables. -/
import Derived.Shelf.Strconv.Clone
import Derived.Laws.OwnMore
import Derived.Deep.RegionHeld3
import Derived.Test.YtaajpliifdlokaaGreatDoorLnNrbb
import Derived.Test.YtaajpliifdlokaaGreatDoorLnNraq
import Derived.Test.YtaajpliifdlokaaGreatDoorLnNraf
set_option linter.unusedVariables false
set_option linter.unusedSimpArgs false
namespace Go.Proofs.YtaajpliifdlokaaGreatDoor
open Go.RowKit Go.Shelf
theorem lib_CloneT (s : ByteArray) (w : World) (h : s.size ≤ 281474976710656) : Calls Tryz.prog 221 #[.string s] w (Ret w (.string s)) := Any.stringslite_Clone Tryz.layCloneT s w h
set_option maxHeartbeats 1000000 in
theorem str_Clone (s : ByteArray) (w : World) (h : s.size ≤ 281474976710656) : Calls Tryz.prog 172 #[.string s] w (Ret w (.string s)) := by
  go_enter Tryz.func172, Tryz.ntmps172
  go_wp2_with fail
  with_reducible refine (lib_CloneT s _ h).mono ?_
  rintro e w1 ⟨rfl, hb⟩
  go_wp2
  go_ret
  exact ⟨rfl, hb⟩
theorem flat_set4 (n : Nat) (f f' : Nat → Nat → Value) (i j : Nat) (hi : i < n) (hj : j < 4) (u : Value) (h1 : f' i j = u) (hf : ∀ i' j', (i' ≠ i ∨ j' ≠ j) → j' < 4 → f' i' j' = f i' j') : (flatK 4 n f).set (i * 4 + j) u = flatK 4 n f' := by
  apply List.ext_getElem?
  intro m
  by_cases hm : m < n * 4
  · have e : m = m / 4 * 4 + m % 4 := by omega
    have hk : m / 4 < n := by omega
    have a1 := flatK_at (k := 4) (f := f') hk (Nat.mod_lt m (by omega))
    have a2 := flatK_at (k := 4) (f := f) hk (Nat.mod_lt m (by omega))
    rw [← e] at a1 a2
    rw [a1, List.getElem?_set]
    by_cases hmi : i * 4 + j = m
    · have e2 : m / 4 = i := by omega
      have e3 : m % 4 = j := by omega
      rw [if_pos hmi, if_pos (by rw [flatK_len]; omega), e2, e3, h1]
    · rw [if_neg hmi, a2, hf _ _ (by omega) (Nat.mod_lt m (by omega))]
  · rw [List.getElem?_eq_none (by rw [List.length_set, flatK_len]; omega), List.getElem?_eq_none (by rw [flatK_len]; omega)]
structure OwnPo (W : World) (base : Nat) (e : TypeId) (v : Value) (L q : Nat) (os : List Po) (cw cv : Nat → Value) : Prop where
  row : W.ownsRow base e 4 v L (flatK 4 L (poF os cw))
  low : base ≤ W.heap.size
  kids : ∀ i, i < q → RdKs W (Own W base v) (cw i) (os.getD i Po.z).cols
  rest : ∀ i, q ≤ i → cw i = cv i
section
variable {W W' : World} {base : Nat} {e : TypeId} {v : Value} {L q : Nat} {os : List Po} {cw cv : Nat → Value}
theorem OwnPo.later (h : OwnPo W base e v L q os cw cv) (hb : Below W.heap.size W W') : OwnPo W' base e v L q os cw cv :=
  ⟨own_later h.row hb, Nat.le_trans h.low hb.size, fun i hi => ((h.kids i hi).keep fun p hp => hb.cell (p := p) hp.2.1).more fun b hb' => ⟨hb'.1, Nat.lt_of_lt_of_le hb'.2.1 hb.size, hb'.2.2⟩, h.rest⟩
theorem OwnPo.text {g cap : Nat} (h : OwnPo W base e (.slice (some ⟨g, 0, none⟩) L cap) L q os cw cv) {i : Nat} (hi : i < L) :
    OwnPo (W.setCell ⟨g, i * 4 + 2, none⟩ (.string (os.getD i Po.z).text)) base e (.slice (some ⟨g, 0, none⟩) L cap) L q os cw cv := by
  have hc : ∀ p : Addr, p.block ≠ g → (W.setCell ⟨g, i * 4 + 2, none⟩ (.string (os.getD i Po.z).text)).cell? p = W.cell? p := fun p hp => World.cell?_setCell_other _ _ _ _ (by intro e; subst e; exact hp rfl)
  refine ⟨?_, by simpa using h.low, fun j hj => ?_, h.rest⟩
  · have h1 := (h.row.stored (i * 4 + 2) (.string (os.getD i Po.z).text)).1
    rw [flat_set4 L (poF os cw) (poF os cw) i 2 hi (by omega) (.string (os.getD i Po.z).text) rfl (fun _ _ _ _ => rfl)] at h1
    exact h1
  · refine ((h.kids j hj).keep fun p hp => hc p fun e => hp.2.2 ?_).more fun b hb => ⟨hb.1, by simpa using hb.2.1, hb.2.2⟩
    rw [e]
    rfl
theorem OwnPo.put {g cap : Nat} (h : OwnPo W base e (.slice (some ⟨g, 0, none⟩) L cap) L q os cw cv) (hq : q < L) {z : Value}
    (hz : RdKs W (fun b => base ≤ b ∧ b < W.heap.size ∧ b ≠ g) z (os.getD q Po.z).cols) :
    OwnPo (W.setCell ⟨g, q * 4 + 3, none⟩ z) base e (.slice (some ⟨g, 0, none⟩) L cap) L (q + 1) os (fun i => if i = q then z else cw i) cv := by
  have hc : ∀ p : Addr, p.block ≠ g → (W.setCell ⟨g, q * 4 + 3, none⟩ z).cell? p = W.cell? p := fun p hp => World.cell?_setCell_other _ _ _ _ (by intro e; subst e; exact hp rfl)
  refine ⟨?_, by simpa using h.low, fun i hi => ?_, fun i hi => ?_⟩
  · have h1 := (h.row.stored (q * 4 + 3) z).1
    rw [flat_set4 L (poF os cw) (poF os fun i => if i = q then z else cw i) q 3 hq (by omega) z (by simp [poF, poC]) (fun i' j' hne hj => ?_)] at h1
    · exact h1
    · rcases (show j' = 0 ∨ j' = 1 ∨ j' = 2 ∨ j' = 3 by omega) with rfl | rfl | rfl | rfl
      · rfl
      · rfl
      · rfl
      · have : i' ≠ q := by omega
        simp [poF, poC, this]
  · by_cases hiq : i = q
    · subst hiq
      rw [if_pos rfl]
      refine (hz.keep fun p hp => hc p hp.2.2).more fun b hb => ⟨hb.1, by simpa using hb.2.1, fun e => hb.2.2 ?_⟩
      simp only [Value.ownBlock, Option.some.injEq] at e
      exact e.symm
    · rw [if_neg hiq]
      refine ((h.kids i (by omega)).keep fun p hp => hc p fun e => hp.2.2 ?_).more fun b hb => ⟨hb.1, by simpa using hb.2.1, hb.2.2⟩
      rw [e]
      rfl
  · rw [if_neg (by omega)]
    exact h.rest i (by omega)
theorem OwnPo.done (h : OwnPo W base e v L L os cw cv) (hl : L = os.length) : RdPo W (fun b => base ≤ b ∧ b < W.heap.size) v os := by
  subst hl
  exact ⟨cw, (inK_of_owns h.row).more fun b hb => h.row.lt b hb, fun i hi => (h.kids i hi).more fun b hb => ⟨hb.1, hb.2.1⟩⟩
end
theorem pcells {g cap L : Nat} {W : World} {base : Nat} {e : TypeId} {f : Nat → Nat → Value} (h : W.ownsRow base e 4 (.slice (some ⟨g, 0, none⟩) L cap) L (flatK 4 L f)) {i : Nat} (hi : i < L) :
    ∀ j, j < 4 → W.cell? ⟨g, i * 4 + j, none⟩ = some (f i j) := fun j hj => by
  rw [h.cellAt _ (by omega)]
  exact flatK_at hi hj
def OpsOk (os : List Po) : Prop := ∀ o ∈ os, o.text.size ≤ 1024 ∧ o.cols.length ≤ 64
theorem can_small {n : Nat} {o : Po} (h : canL n o = true) : o.text.size ≤ 1024 ∧ o.cols.length ≤ 64 := by
  unfold canL at h
  split at h
  · simp only [Bool.and_eq_true, decide_eq_true_eq] at h
    exact ⟨h.2, by omega⟩
  · split at h
    · simp only [Bool.and_eq_true, decide_eq_true_eq] at h
      exact ⟨by omega, by omega⟩
    · split at h
      · simp only [Bool.and_eq_true, decide_eq_true_eq] at h
        exact ⟨by omega, by omega⟩
      · simp only [Bool.and_eq_true, decide_eq_true_eq] at h
        exact ⟨by omega, by omega⟩
theorem can_ok : ∀ {os : List Po} {xs : List Co}, canRun xs os = true → OpsOk os
  | [], _, _ => fun o ho => absurd ho (by simp)
  | p :: os, xs, h => by
    simp only [canRun, Bool.and_eq_true] at h
    intro o ho
    rcases List.mem_cons.1 ho with rfl | ho
    · exact can_small h.1
    · exact can_ok h.2 o ho
set_option maxRecDepth 100000 in
set_option maxHeartbeats 4000000 in
theorem expl_own (v : Value) (os : List Po) (B : Nat) (w : World) (hv : RdPo w (· < B) v os) (hB : B ≤ w.heap.size) (hok : OpsOk os) (hl : os.length ≤ 1048576) :
  Calls Tryz.prog 104 #[v] w (fun e w' => ∃ u, e = .returned u ∧ RdPo w' (News w w') u os ∧ Below w.heap.size w w') := by
 obtain ⟨cv, hcv, hcl⟩ := hv
 have HCL := hid hcl
 have HK1 := hid (fun W (hW : Below w.heap.size w W) => clone_ops (· < B) v os.length (poF os cv) W (hcv.keep fun p (hp : p.block < B) => hW.cell (p := p) (by omega)) (fun b (hb : b < B) => by have := hW.size; omega) (po_one hcl) (by omega))
 have HK2 := hid (fun q (hq : q < os.length) W (hW : Below w.heap.size w W) => clone_ints (· < B) (cv q) (os.getD q Po.z).cols.length (zF (os.getD q Po.z).cols) W (InK.keep (hcl q hq) fun p (hp : p.block < B) => hW.cell (p := p) (by omega)) (fun b (hb : b < B) => by have := hW.size; omega) (fun i _ j _ => rfl) (by have := (hok _ (getD_mem hq Po.z)).2; omega))
 have HK3 := hid (fun q (hq : q < os.length) W => str_Clone (os.getD q Po.z).text W (by have := (hok _ (getD_mem hq Po.z)).1; omega))
 obtain ⟨va, vc, rfl, hvc, hvm, -⟩ := hcv
 clear hcl hok
 unfold maxLen at hvm
 generalize hxl : os.length = L at *
 have HXL := hid hxl
 clear hxl
 go_enter Tryz.func104, Tryz.ntmps104
 generalize hLA : Code.loop _ = LA
 go_wp2_with fail
 with_reducible refine (HK1.out w (Below.refl _ _)).mono ?_
 rintro e w1 ⟨a1, c1, rfl, hown1, hb1⟩
 have hz1 := hb1.size
 have HB1 := hid hb1
 have HO1 : Hid (OwnPo w1 w.heap.size 122 (.slice a1 L c1) L 0 os cv cv) := hid ⟨hown1, hz1, fun i hi => absurd hi (by omega), fun i _ => rfl⟩
 clear hb1 hown1 HK1
 go_wp2_with fail
 subst hLA
 go_loopg [10] L (fun N i wr => ∃ (q : Nat) (cw : Nat → Value), i = .int .i64 (q : Int) ∧ q + N = L ∧ Hid (Below w.heap.size w wr) ∧ Hid (OwnPo wr w.heap.size 122 (.slice a1 L c1) L q os cw cv))
 case atStart => exact ⟨0, cv, rfl, by omega, HB1, HO1⟩
 case round =>
  obtain ⟨q, cw, rfl, hq, HB, HO⟩ := hrel
  have hlo := HO.out.low
  by_cases hp : 0 < gk
  ·have hqL : q < L := by omega
   obtain ⟨g, cap, hg, hgb, hglt⟩ := HO.out.row.form (by omega)
   obtain ⟨rfl, -, rfl⟩ := Value.slice.inj hg
   clear hg
   have hpc := pcells HO.out.row hqL
   have k0 := hpc 0 (by omega)
   have k1 := hpc 1 (by omega)
   have k2 := hpc 2 (by omega)
   have k3 := hpc 3 (by omega)
   have hrest := HO.out.rest q (Nat.le_refl _)
   simp only [poF, poC, Nat.add_zero] at k0 k1 k2 k3
   rw [hrest] at k3
   have HK2q := hid (HK2.out q hqL)
   have HK3q := hid (HK3.out q hqL)
   obtain ⟨ca, ck, hcq, -, -, -⟩ := HCL.out q hqL
   rw [hcq] at k3 HK2q
   have HOT := hid (fun (W : World) (m : Nat) (cw' : Nat → Value) (h : OwnPo W w.heap.size 122 (.slice (some ⟨g, 0, none⟩) L c1) L m os cw' cv) => h.text hqL)
   have HOP := hid (fun (W : World) (h : OwnPo W w.heap.size 122 (.slice (some ⟨g, 0, none⟩) L c1) L q os cw cv) (z : Value) hz => h.put (z := z) hqL hz)
   clear hpc hcq
   generalize os.getD q Po.z = P at *
   obtain ⟨kind, col, text, cols⟩ := P
   simp only at k0 k1 k2 k3 HK2q HK3q HOT HOP
   have HOC := hid (HO.out.later ((Below.refl _ _).alloc (Nat.le_refl _) (.cells #[.int .i64 kind, .int .i64 col, .string text, .slice ca cols.length ck] 122)))
   have HCB := hid (BoxN.new wr #[.int .i64 kind, .int .i64 col, .string text, .slice ca cols.length ck] 122)
   have HBC := hid (HB.out.alloc (by omega) (.cells #[.int .i64 kind, .int .i64 col, .string text, .slice ca cols.length ck] 122))
   have hzc : (wr.alloc (.cells #[.int .i64 kind, .int .i64 col, .string text, .slice ca cols.length ck] 122)).heap.size = wr.heap.size + 1 := by simp
   obtain ⟨nn, hnn⟩ : ∃ nn, nn = cols.length := ⟨_, rfl⟩
   rw [← hnn] at k3 HK2q HOC HCB HBC hzc
   have HNN := hid hnn
   clear hnn
   go_upto_region 5 with fail
   generalize wr.alloc (.cells #[.int .i64 kind, .int .i64 col, .string text, .slice ca nn ck] 122) = W4 at *
   have hzca := Nat.le_of_eq hzc
   have hzcb := Nat.le_of_eq hzc.symm
   clear hzc
   have HG := hid (fun W (hW : Below W4.heap.size W4 W) => (⟨(HCB.out.below hW HCB.out.lt).cell 2 rfl, (HCB.out.below hW HCB.out.lt).cell 3 rfl⟩ : W.cell? ⟨wr.heap.size, 2, none⟩ = some (.string text) ∧ W.cell? ⟨wr.heap.size, 3, none⟩ = some (.slice ca nn ck)))
   have HDR : Hid (Below W4.heap.size W4 W4.drew) := hid (Below.refl W4.heap.size W4).drew
   have HQ4 := hid (fun W (hW : Below W4.heap.size W4 W) => HK2q.out W (HBC.out.trans (hW.mono (by omega))))
   clear k0 k1 k2 k3 HK2q
   go_region_held3 (fun w' => w'.cell? ⟨wr.heap.size, 2, none⟩ = some (.string text) ∧ w'.cell? ⟨wr.heap.size, 3, none⟩ = some (.slice ca nn ck))
    (first | exact HG.out _ (Below.refl _ _) | exact HG.out _ HDR.out | exact HG.out _ HC7.out | exact HG.out _ HC5.out | exact HG.out _ HC6.out | ((repeat rw [World.cell?_setCell_other _ _ _ _ (by intro e; injection e with e; omega)]); exact HG.out _ HC7.out) | go_keep)
    (first
     | (go_at_call 171; go_must (first
      | ((with_reducible refine (HQ4.out _ HDR.out).mono ?_); rintro e w5 ⟨a5, c5, rfl, hown5, hb5⟩; have HC5 : Hid (Below W4.heap.size W4 w5) := hid (HDR.out.trans (hb5.mono (Nat.le_refl _))); have HOWN5 := hid hown5; clear hb5 hown5)
      | ((with_reducible refine (HQ4.out _ HC6.out).mono ?_); rintro e w5 ⟨a5, c5, rfl, hown5, hb5⟩; have HC7 : Hid (Below W4.heap.size W4 w5) := hid (HC6.out.trans (hb5.mono HC6.out.size)); have HOWN5 := hid ((hown5).mono HC6.out.size); have HO5 := hid (HOC.out.later HC7.out); have q5 := (pcells HO5.out.row hqL 2 (by omega)); have q6 := (pcells HO5.out.row hqL 3 (by omega)); have fq5 := HO5.out.row.frozenAt (q * 4 + 2); have fq6 := HO5.out.row.frozenAt (q * 4 + 3); clear hb5 hown5)))
     | (go_at_call 172; go_must (first
      | ((with_reducible refine (HK3q.out w5).mono ?_); rintro e w6 ⟨rfl, hb6⟩; have HC7 : Hid (Below W4.heap.size W4 w6) := hid (HC5.out.trans (hb6.mono HC5.out.size)); have HO5 := hid (HOC.out.later HC7.out); have q5 := (pcells HO5.out.row hqL 2 (by omega)); have q6 := (pcells HO5.out.row hqL 3 (by omega)); have fq5 := HO5.out.row.frozenAt (q * 4 + 2); have fq6 := HO5.out.row.frozenAt (q * 4 + 3); have HB6 := hid hb6; clear hb6)
      | ((with_reducible refine (HK3q.out _).mono ?_); rintro e w6 ⟨rfl, hb6⟩; have HC6 : Hid (Below W4.heap.size W4 w6) := hid (HDR.out.trans (hb6.mono (Nat.le_refl _))); clear hb6))))
   all_goals
    have hz7 := HC7.out.size
    have hgw := HO.out.row.lt g rfl
    have hnew : RdKs w6 (fun b => w.heap.size ≤ b ∧ b < w6.heap.size ∧ b ≠ g) (.slice a5 nn c5) cols := by
     have h5 := own_later HOWN5.out HB6.out
     rw [HNN.out] at h5 ⊢
     exact (inK_of_owns h5).more fun b hb => by have h6 := h5.lt b hb; have h7 := h6.1; simp at h7; exact ⟨by omega, h6.2, by omega⟩
    have HPUT := hid (HOT.out _ _ _ (HOP.out w6 HO5.out _ hnew))
    clear hnew q5 q6 fq5 fq6
    go_wp2
    go_roundg (gk - 1)
    case rel => exact ⟨q + 1, _, by go_num, by omega, hid (((HBC.out.trans (HC7.out.mono (by omega))).setCell (by show w.heap.size ≤ g; omega) _).setCell (by show w.heap.size ≤ g; omega) _), HPUT⟩
    case measure => omega
  ·obtain rfl : gk = 0 := by omega
   obtain rfl : L = q := by omega
   go_wp2
   go_ret
   exact ⟨_, rfl, HO.out.done HXL.out.symm, HB.out⟩
end Go.Proofs.YtaajpliifdlokaaGreatDoor

namespace Go.Proofs.YtaajpliifdlokaaGreatDoor
open Go.RowKit
theorem range_getD {n j : Nat} (h : j < n) : (List.range n).getD j 0 = j := by simp [List.getD, h]
def FoundN (w : World) (r : Option (List Po)) (e : Ending) (w' : World) : Prop :=
  ∃ v, e = .returned (.tuple #[v, .bool r.isSome]) ∧ RdPo w' (News w w') v (r.getD []) ∧ Below w.heap.size w w'
set_option maxRecDepth 100000 in
set_option maxHeartbeats 8000000 in
theorem expl_FindN (ta tb : Ta) (u v : Value) (B : Nat) (w : World) (hta : TabV ta) (htb : TabV tb) (hx : Few ta.cols) (hu : RdCo w (· < B) u ta.cols) (hv : RdCo w (· < B) v tb.cols) (hB : B ≤ w.heap.size) (hT : Tabs w) :
  Calls Tryz.prog 60 #[.agg #[.int .i64 ta.id, .string ta.name, u], .agg #[.int .i64 tb.id, .string tb.name, v]] w (FoundN w (findL ta.cols tb.cols)) := by
 have HVA := hid (fun W (hW : Below w.heap.size w W) => table_Valid ta u B W hta (hu.keep fun p (hp : p.block < B) => hW.cell (p := p) (by omega)) (Nat.le_trans hB hW.size) (hT.below hW))
 have HVB := hid (fun W (hW : Below w.heap.size w W) => table_Valid tb v B W htb (hv.keep fun p (hp : p.block < B) => hW.cell (p := p) (by omega)) (Nat.le_trans hB hW.size) (hT.below hW))
 have hla := hta.2.2.2.1
 have hlb := htb.2.2.2.1
 have HPR := hid (fun W (hW : Below w.heap.size w W) => expl_project ta.id tb.id ta.name tb.name u v ta.cols tb.cols B W (hu.keep fun p (hp : p.block < B) => hW.cell (p := p) (by omega)) (hv.keep fun p (hp : p.block < B) => hW.cell (p := p) (by omega)) (Nat.le_trans hB hW.size) hla hlb)
 have HFI := hid (fun W (hW : Below w.heap.size w W) pv p most (hp : RdPo W (· < W.heap.size) pv p) (he : projOf ta.cols tb.cols = some p) (hm : most ≤ 4) => expl_finder ta.id tb.id ta.name tb.name u v pv ta.cols tb.cols p most W.heap.size W hx hla hlb ((hu.keep fun p (hp : p.block < B) => hW.cell (p := p) (by omega)).more fun b (hb : b < B) => by show b < W.heap.size; have := hW.size; omega) ((hv.keep fun p (hp : p.block < B) => hW.cell (p := p) (by omega)).more fun b (hb : b < B) => by show b < W.heap.size; have := hW.size; omega) hp (Nat.le_refl _) he hm)
 have HOK : Hid (∀ l, findL ta.cols tb.cols = some l → OpsOk l ∧ l.length ≤ 1048576) := hid (fun l hl => by
  obtain ⟨n, hn, hcv⟩ := hx
  refine ⟨can_ok (can_found hcv hlb hl), ?_⟩
  obtain ⟨f, p, e, hf, hp, he, rfl, -, -⟩ := find_shape hl
  have h1 := filt_short hf
  have h2 := proj_short hp
  have h3 := ends_short he
  simp only [List.length_append]
  omega)
 have HNO : Hid (projOf ta.cols tb.cols = none → findL ta.cols tb.cols = none) := hid (fun h => by unfold findL; rw [h])
 have HFN : Hid (∀ p, projOf ta.cols tb.cols = some p → (∀ j, j < 5 → finderL ta.cols tb.cols p j = none) → findL ta.cols tb.cols = none) := hid (fun p h hn => by
  unfold findL
  rw [h]
  exact findSome_nil 0 _ _ (fun j hj => by simp at hj; rw [range_getD hj]; exact hn j hj))
 have HFS : Hid (∀ p q r, projOf ta.cols tb.cols = some p → q < 5 → (∀ j, j < q → finderL ta.cols tb.cols p j = none) → finderL ta.cols tb.cols p q = some r → findL ta.cols tb.cols = some r) := hid (fun p q r h hq hn hs => by
  unfold findL
  rw [h]
  exact findSome_at 0 _ _ q r (by simpa using hq) (fun j hj => by rw [range_getD (by omega)]; exact hn j hj) (by rw [range_getD hq]; exact hs))
 obtain ⟨ua, uc, rfl⟩ := rdCo_len hu
 obtain ⟨va, vc, rfl⟩ := rdCo_len hv
 clear hu hv hta htb hx hT hla hlb
 obtain ⟨ida, na, xs⟩ := ta
 obtain ⟨idb, nb, ys⟩ := tb
 simp only at *
 generalize xs.length = La at *
 generalize ys.length = Lb at *
 have hx0 := (BoxN.new w #[.int .i64 ida, .string na, .slice ua La uc] 51).alloc (.cells #[.int .i64 idb, .string nb, .slice va Lb vc] 51)
 have hy0 := BoxN.new (w.alloc (.cells #[.int .i64 ida, .string na, .slice ua La uc] 51)) #[.int .i64 idb, .string nb, .slice va Lb vc] 51
 rw [World.size_alloc] at hy0
 have HX0 := hid hx0
 have HY0 := hid hy0
 have HB0 := hid (((Below.refl w.heap.size w).alloc (Nat.le_refl _) (.cells #[.int .i64 ida, .string na, .slice ua La uc] 51)).alloc (by simp) (.cells #[.int .i64 idb, .string nb, .slice va Lb vc] 51))
 have hz0 : ((w.alloc (.cells #[.int .i64 ida, .string na, .slice ua La uc] 51)).alloc (.cells #[.int .i64 idb, .string nb, .slice va Lb vc] 51)).heap.size = w.heap.size + 2 := by simp
 have x0 := hx0.cell 0 rfl
 have x1 := hx0.cell 1 rfl
 have x2 := hx0.cell 2 rfl
 clear hx0 hy0
 go_enter Tryz.func60, Tryz.ntmps60
 generalize hLA : Code.loop _ = LA
 go_wp2_with fail
 generalize (w.alloc (.cells #[.int .i64 ida, .string na, .slice ua La uc] 51)).alloc (.cells #[.int .i64 idb, .string nb, .slice va Lb vc] 51) = W0 at *
 have hz0a := Nat.le_of_eq hz0
 have hz0b := Nat.le_of_eq hz0.symm
 clear hz0 x0 x1 x2
 with_reducible refine (HVA.out W0 HB0.out).mono ?_
 rintro e w1 ⟨rfl, hb1⟩
 have hz1 := hb1.size
 have HB1 := hid (HB0.out.trans (hb1.mono (by omega)))
 have HX1 := hid (HX0.out.below hb1 HX0.out.lt)
 have HY1 := hid (HY0.out.below hb1 HY0.out.lt)
 clear hb1 HX0 HY0 HVA
 have y0 := HY1.out.cell 0 rfl
 have y1 := HY1.out.cell 1 rfl
 have y2 := HY1.out.cell 2 rfl
 go_wp2_with fail
 with_reducible refine (HVB.out w1 HB1.out).mono ?_
 rintro e w2 ⟨rfl, hb2⟩
 have hz2 := hb2.size
 have HB2 := hid (HB1.out.trans (hb2.mono (by omega)))
 have HX2 := hid (HX1.out.below hb2 HX1.out.lt)
 have HY2 := hid (HY1.out.below hb2 HY1.out.lt)
 clear hb2 HX1 HY1 HVB y0 y1 y2
 have x0 := HX2.out.cell 0 rfl
 have x1 := HX2.out.cell 1 rfl
 have x2 := HX2.out.cell 2 rfl
 have y0 := HY2.out.cell 0 rfl
 have y1 := HY2.out.cell 1 rfl
 have y2 := HY2.out.cell 2 rfl
 go_wp2_with fail
 with_reducible refine (HPR.out w2 HB2.out).mono ?_
 rintro e w3 ⟨pv, rfl, hpo3, hb3⟩
 have hz3 := hb3.size
 have HB3 := hid (HB2.out.trans (hb3.mono (by omega)))
 have HX3 := hid (HX2.out.below hb3 HX2.out.lt)
 have HY3 := hid (HY2.out.below hb3 HY2.out.lt)
 have HPO3 := hid (hpo3.more (S' := (· < w3.heap.size)) fun b hb => hb.2)
 clear hb3 HX2 HY2 HPR x0 x1 x2 y0 y1 y2 hpo3
 generalize hpj : projOf xs ys = PJ at *
 cases PJ with
 | none =>
  have HN := hid (HNO.out rfl)
  simp only [Option.isSome_none]
  go_wp2
  refine bodyPost_ret (v := .tuple #[.slice none 0 0, .bool false]) (by simp [results, Tryz.results60, go_sem]) rfl ?_
  unfold FoundN
  rw [HN.out]
  exact ⟨_, rfl, RdPo.nil, HB3.out⟩
 | some p =>
  simp only [Option.isSome_some]
  have HFN2 := hid (HFN.out p rfl)
  have HFS2 := hid (fun q r => HFS.out p q r rfl)
  have HFI2 := hid (fun W hW pv most hp hm => HFI.out W hW pv p most hp rfl hm)
  have HPP : Hid (RdPo w3 (· < w3.heap.size) pv p) := HPO3
  clear HFN HFS HFI HPO3 hpj HNO
  obtain ⟨pa, pc, rfl⟩ := rdPo_len HPP.out
  generalize p.length = pl at *
  go_wp2_with fail
  subst hLA
  go_loopg [27] 5 (fun N i wr => ∃ (q : Nat), i = .int .i64 (q : Int) ∧ q + N = 5 ∧ w3.heap.size ≤ wr.heap.size ∧ Hid (Below w3.heap.size w3 wr) ∧ Hid (∀ j, j < q → finderL xs ys p j = none))
  case atStart => exact ⟨0, rfl, by omega, Nat.le_refl _, hid (Below.refl _ _), hid (fun j h => absurd h (by omega))⟩
  case round =>
   obtain ⟨q, rfl, hq, hlw, HBL, HALL⟩ := hrel
   have HBW := hid (HB3.out.trans (HBL.out.mono (by omega)))
   by_cases hp : 0 < gk
   ·have hq5 : q < 5 := by omega
    have HX4 := hid (HX3.out.below HBL.out HX3.out.lt)
    have HY4 := hid (HY3.out.below HBL.out HY3.out.lt)
    have HQ := hid (HFI2.out wr HBW.out (.slice pa pl pc) q ((HPP.out.keep (w' := wr) fun p hp => HBL.out.cell (p := p) hp).more fun b (hb : b < w3.heap.size) => by show b < wr.heap.size; omega) (by omega))
    have HF2q := hid (HFS2.out q)
    have HA1 : Hid (finderL xs ys p q = none → ∀ j, j < q + 1 → finderL xs ys p j = none) := hid (fun h j hj => by
     rcases Nat.lt_or_ge j q with h1 | h1
     ·exact HALL.out j h1
     ·obtain rfl : j = q := by omega
      exact h)
    have x0 := HX4.out.cell 0 rfl
    have x1 := HX4.out.cell 1 rfl
    have x2 := HX4.out.cell 2 rfl
    have y0 := HY4.out.cell 0 rfl
    have y1 := HY4.out.cell 1 rfl
    have y2 := HY4.out.cell 2 rfl
    generalize finderL xs ys p q = R at *
    go_wp2_with fail
    with_reducible refine HQ.out.mono ?_
    rintro e w5 ⟨lv, rfl, hpo5, hb5⟩
    have hz5 := hb5.size
    have HB5 := hid (HBL.out.trans (hb5.mono (by omega)))
    have HBW5 := hid (HBW.out.trans (hb5.mono (by have := HBW.out.size; omega)))
    have HPO5 := hid hpo5
    clear hb5 hpo5 x0 x1 x2 y0 y1 y2
    cases R with
    | none =>
     simp only [Option.isSome_none]
     go_wp2
     go_roundg (gk - 1)
     case rel => exact ⟨q + 1, by go_num, by omega, by omega, HB5, hid (HA1.out trivial)⟩
     case measure => omega
    | some l =>
     simp only [Option.isSome_some]
     have HFD := hid (HF2q.out l hq5 HALL.out rfl)
     have HPL : Hid (RdPo w5 (· < w5.heap.size) lv l) := HPO5
     have hok := HOK.out l HFD.out
     have HOWN := hid (expl_own lv l w5.heap.size w5 HPL.out (Nat.le_refl _) hok.1 hok.2)
     obtain ⟨la, lc, rfl⟩ := rdPo_len HPL.out
     clear hok HPO5
     generalize l.length = ll at *
     go_wp2_with fail
     with_reducible refine HOWN.out.mono ?_
     rintro e w6 ⟨ov, rfl, hpo6, hb6⟩
     have HB6 := hid (HBW5.out.trans (hb6.mono (by have := HBW5.out.size; omega)))
     have hsz5 := HBW5.out.size
     have HPO6 := hid (hpo6.more (S' := News w w6) fun b hb => ⟨Nat.le_trans hsz5 hb.1, hb.2⟩)
     clear hb6 hpo6
     go_wp2
     refine bodyPost_ret (v := .tuple #[ov, .bool true]) (by simp [results, Tryz.results60, go_sem]) rfl ?_
     unfold FoundN
     rw [HFD.out]
     exact ⟨_, rfl, HPO6.out, HB6.out⟩
   ·obtain rfl : gk = 0 := by omega
    obtain rfl : q = 5 := by omega
    have HN := hid (HFN2.out HALL.out)
    go_wp2
    refine bodyPost_ret (v := .tuple #[.slice none 0 0, .bool false]) (by simp [results, Tryz.results60, go_sem]) rfl ?_
    unfold FoundN
    rw [HN.out]
    exact ⟨_, rfl, RdPo.nil, HBW.out⟩
end Go.Proofs.YtaajpliifdlokaaGreatDoor
