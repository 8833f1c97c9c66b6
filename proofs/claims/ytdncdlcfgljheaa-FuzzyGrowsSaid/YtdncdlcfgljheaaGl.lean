/- The walk of FuzzyGrows. -/
import Derived.Test.YtdncdlcfgljheaaGk
import Derived.Test.YtdncdlcfgljheaaGx
namespace Go.Proofs.Ytdncdlcfgljheaa
open Go.RowKit

theorem words_small {xs : List ByteArray} (h : ∀ x ∈ xs, x ∈ wordsL) (i : Nat) : (xs.getD i ⟨#[]⟩).size ≤ 1099511627776 := by
  rcases Nat.lt_or_ge i xs.length with hi | hi
  · have hm : xs.getD i ⟨#[]⟩ ∈ xs := by simp [List.getD, hi]
    have := words_size _ (h _ hm)
    omega
  · rw [List.getD_eq_getElem?_getD, List.getElem?_eq_none hi]
    exact Nat.zero_le _

theorem nearB_mono {L M : Nat} (h : L ≤ M) {s t : ByteArray} (hn : nearB true L (simE L) s t = true) : nearB true M (simE M) s t = true := by
  unfold nearB simE at *
  simp only [Bool.not_true, Bool.false_or, Bool.and_eq_true, decide_eq_true_eq] at *
  exact ⟨by omega, Lv.within_mono h hn.2⟩
theorem nearB_comm {L : Nat} {s t : ByteArray} (hn : nearB true L (simE L) s t = true) : nearB true L (simE L) t s = true := by
  unfold nearB simE at *
  simp only [Bool.not_true, Bool.false_or, Bool.and_eq_true, decide_eq_true_eq] at *
  exact ⟨⟨hn.1.2, hn.1.1⟩, by rw [Lv.within_comm]; exact hn.2⟩
theorem nearB_lev {L : Nat} {s t : ByteArray} (hn : nearB true L (simE L) s t = true) : Lv.lev (pts s) (pts t) ≤ L := by
  unfold nearB simE at hn
  rw [Lv.within_lev] at hn
  simp only [Bool.not_true, Bool.false_or, Bool.and_eq_true, decide_eq_true_eq] at hn
  exact hn.2

theorem Mt.best_exists (N : Mt.Net) (i m n : Nat) : ∃ s, Mt.Best N i m n s := by
  have key : ∀ d, (∀ M, Mt.Pairs N i m n M → M.length ≤ d) → ∃ s, Mt.Best N i m n s := by
    intro d
    induction d with
    | zero => intro h; exact ⟨0, ⟨[], ⟨by simp, by simp, fun p hp => by simp at hp⟩, rfl⟩, h⟩
    | succ d ih =>
      intro h
      by_cases he : ∃ M, Mt.Pairs N i m n M ∧ M.length = d + 1
      · exact ⟨d + 1, he, h⟩
      · exact ih (fun M hM => by
          have h1 := h M hM
          have h2 : M.length ≠ d + 1 := fun e => he ⟨M, hM, e⟩
          omega)
  exact key (m - i) (fun M hM => Mt.rows_le hM)
/-- the greatest number of pairs -/
noncomputable def mx (S : Nat → Nat → Bool) (nq nv : Nat) : Nat := (Mt.best_exists ⟨Mt.nearE S nv, fun _ => false⟩ 0 nq nv).choose
theorem mx_best (S : Nat → Nat → Bool) (nq nv : Nat) : Mt.Best ⟨Mt.nearE S nv, fun _ => false⟩ 0 nq nv (mx S nq nv) := (Mt.best_exists ⟨Mt.nearE S nv, fun _ => false⟩ 0 nq nv).choose_spec
theorem mx_found {S : Nat → Nat → Bool} {nq nv : Nat} {ps : List (Nat × Nat)} (h : Mt.Found S nq nv ps) : ps.length = mx S nq nv := h.best.same (mx_best S nq nv)
theorem mx_mono {S T : Nat → Nat → Bool} {nq nv : Nat} (h : ∀ i j, S i j = true → T i j = true) : mx S nq nv ≤ mx T nq nv :=
  (mx_best S nq nv).mono (mx_best T nq nv) (fun x c he => ⟨by
    have := Mt.nearE_mem.1 he.1
    exact Mt.nearE_mem.2 ⟨this.1, h _ _ this.2⟩, rfl⟩)

theorem Sets.more {w : World} {B B' : Nat} {qv vv : Value} {qs vs : List ByteArray} (h : Sets w B qv vv qs vs) (hB : B ≤ B') (hl : B' ≤ w.heap.size) : Sets w B' qv vv qs vs :=
  ⟨Rd.more h.q hB, Rd.more h.v hB, hl, h.sq, h.sv, h.nq, h.nv, h.setq, h.setv⟩

theorem found_at {S : Nat → Nat → Bool} {nq nv : Nat} {ps : List (Nat × Nat)} (h : Mt.Found S nq nv ps) :
    (∀ i j, i < j → j < ps.length → (ps.getD i (0, 0)).1 < (ps.getD j (0, 0)).1 ∧ (ps.getD i (0, 0)).2 ≠ (ps.getD j (0, 0)).2) ∧
    ∀ k, k < ps.length → (ps.getD k (0, 0)).1 < nq ∧ (ps.getD k (0, 0)).2 < nv ∧ S (ps.getD k (0, 0)).1 (ps.getD k (0, 0)).2 = true := by
  refine ⟨fun i j hij hj => ?_, fun k hk => ?_⟩
  · have := List.pairwise_iff_getElem.1 h.up i j (by omega) hj hij
    simpa [List.getD, hj, show i < ps.length by omega] using this
  · have hm : ps.getD k (0, 0) ∈ ps := by simp [List.getD, hk]
    exact h.real _ hm

/-- what three questions answer -/
structure Asks (K L N D : Int) (qv vv : Value) (w : World) (c m p : Nat) : Prop where
  cov : ∀ W, Below w.heap.size w W → Calls Try.prog 8 #[.agg #[.int .i64 K, .int .i64 L, .int .i64 N, .int .i64 D], qv, vv] W (Ret W (.int .i64 (c : Int)))
  mat : ∀ W, Below w.heap.size w W → Calls Try.prog 10 #[.agg #[.int .i64 K, .int .i64 L, .int .i64 N, .int .i64 D], qv, vv] W (fun e w' => ∃ a k, e = .returned (.slice a m k) ∧ Below W.heap.size W w')
  pai : ∀ W, Below w.heap.size w W → Calls Try.prog 9 #[.agg #[.int .i64 K, .int .i64 L, .int .i64 N, .int .i64 D], qv, vv] W (fun e w' => ∃ a k, e = .returned (.slice a p k) ∧ Below W.heap.size W w')
theorem asks {K L N D : Int} {bnd : Bool} {lim : Nat} {sim : ByteArray → ByteArray → Bool} (hR : Ruled K L N D bnd lim sim) {qv vv : Value} {qs vs : List ByteArray} {B : Nat} {w : World} (hs : Sets w B qv vv qs vs) :
    Asks K L N D qv vv w (Mt.coveredP (nearS bnd lim sim qs vs) qs.length vs.length) (Mt.matchesP (nearS bnd lim sim qs vs) qs.length vs.length).length (mx (nearS bnd lim sim qs vs) qs.length vs.length) where
  cov W hW := fuzzy_Covered K L N D bnd lim sim hR qv vv qs vs B W (hs.below hW)
  mat W hW := (fuzzy_Matches K L N D bnd lim sim hR qv vv qs vs B W (hs.below hW)).mono fun e w' ⟨a, c, he, _, hb⟩ => ⟨a, c, he, hb⟩
  pai W hW := (fuzzy_Pairing K L N D bnd lim sim hR qv vv qs vs B W (hs.below hW)).mono fun e w' ⟨ps, hf, a, c, he, _, hb⟩ => ⟨a, c, by rw [← mx_found hf]; exact he, hb⟩

set_option maxRecDepth 100000 in
set_option maxHeartbeats 8000000 in
theorem law_grows (sa : Option Addr) (sn sc : Nat) (x : Nat) (w : World) (hx : x < 256) (hs : RdU w w.heap.size sa sn sc) :
    Calls Try.prog 3 #[.slice sa sn sc, .int .u8 (x : Int)] w (Ret w (.bool true)) := by
  have HS := hid hs
  clear hs
  obtain ⟨n, hn⟩ : ∃ n : Nat, (x : Int) % 4 = (n : Int) := ⟨x % 4, by omega⟩
  have hn4 : n < 4 := by omega
  go_enter Try.func3, Try.ntmps3
  go_wp2_with fail
  with_reducible refine (law_sane _).mono ?_
  rintro e w1 ⟨rfl, hb1⟩
  have HB1 := hid hb1
  have HS1 : Hid (RdU w1 w1.heap.size sa sn sc) := hid ⟨HS.out.1, HS.out.2.1, fun hp => by
    obtain ⟨b, o, e, hb, hc⟩ := HS.out.2.2 hp
    exact ⟨b, o, e, Nat.lt_of_lt_of_le hb HB1.out.size, fun i hi => by
      obtain ⟨y, hy, hcy⟩ := hc i hi
      exact ⟨y, hy, (HB1.out.cell (p := ⟨b, o + i, none⟩) hb).trans hcy⟩⟩⟩
  clear hb1
  go_wp2_with fail
  with_reducible refine (mill_New sa sn sc _ HS1.out).mono ?_
  rintro e w2 ⟨rfl, hd2, hb2⟩
  have HD2 := hid hd2
  have hg2 := hd2.lt
  have HB2 := hid (HB1.out.trans (hb2.mono HB1.out.size))
  have hz1 := HB1.out.size
  clear hd2 hb2 HS1
  generalize hgg : w1.heap.size = g at *
  clear hgg
  go_wp2_with fail
  with_reducible refine (dice_Query g 6 _ HD2.out (by omega) (by omega)).mono ?_
  rintro e w3 ⟨qa, qc, qs, rfl, hq3, hql, hqm, hqs, hd3, hr3⟩
  have HQ3 := hid hq3
  have HD3 := hid hd3
  have HR3 := hid hr3
  have hz3 := hr3.size
  have HQM := hid hqm
  have HQS := hid hqs
  clear hq3 hd3 hr3 hqm hqs
  go_wp2_with fail
  with_reducible refine (dice_Query g 6 _ HD3.out (by omega) (by omega)).mono ?_
  rintro e w4 ⟨va, vc, vs, rfl, hv4, hvl, hvm, hvs, hd4, hr4⟩
  have HQ4 := hid (own_roll HQ3.out hr4 (Nat.le_refl _) hg2)
  have HSET : Hid (Sets w4 w4.heap.size (.slice qa qs.length qc) (.slice va vs.length vc) qs vs) := hid
    ⟨rdS_of_own HQ4.out, rdS_of_own hv4, Nat.le_refl _, words_small HQM.out, words_small hvm, by omega, by omega, HQS.out.isSet, hvs.isSet⟩
  have HB4 : Hid (Below w.heap.size w w4) := hid (HB2.out.trans ((HR3.out.trans (hr4.mono hz3)).below (B' := w.heap.size) hz1 (by omega)))
  have HQX := hid (rdS_of_own HQ4.out)
  have HVX := hid (rdS_of_own hv4)
  have hz4 := hr4.size
  clear hv4 hvm hvs hd4 hr4 HQ3 HQ4 HD3 HR3 HB2 HD2
  go_wp2_with fail
  have HXA := hid (fun W (h : Sets W W.heap.size (.slice qa qs.length qc) (.slice va vs.length vc) qs vs) => asks (w := W) (show Ruled 2 (n : Int) 0 0 true n (simE n) by simpa using ruledE (n : Int) (by omega) (by omega)) h)
  have HXB := hid (fun W (h : Sets W W.heap.size (.slice qa qs.length qc) (.slice va vs.length vc) qs vs) => asks (w := W) (show Ruled 2 ((n : Int) + 1) 0 0 true (n + 1) (simE (n + 1)) by
    have h := ruledE ((n : Int) + 1) (by omega) (by omega)
    rw [show ((n : Int) + 1).toNat = n + 1 from by omega] at h
    exact h) h)
  have HXT := hid (fun W (h : Sets W W.heap.size (.slice va vs.length vc) (.slice qa qs.length qc) vs qs) => asks (w := W) (show Ruled 2 (n : Int) 0 0 true n (simE n) by simpa using ruledE (n : Int) (by omega) (by omega)) h)
  have HXP := hid (fun W (h : Sets W W.heap.size (.slice qa qs.length qc) (.slice va vs.length vc) qs vs) => fuzzy_Pairing 2 (n : Int) 0 0 true n (simE n) (by simpa using ruledE (n : Int) (by omega) (by omega)) _ _ qs vs _ W h)
  have hSM : ∀ i j, nearS true n (simE n) qs vs i j = true → nearS true (n + 1) (simE (n + 1)) qs vs i j = true := fun i j h => nearB_mono (Nat.le_succ n) h
  have hST : ∀ i j, nearS true n (simE n) qs vs i j = true → nearS true n (simE n) vs qs j i = true := fun i j h => nearB_comm h
  have HLV : Hid (∀ i j, nearS true n (simE n) qs vs i j = true → Lv.lev (pts (qs.getD i ⟨#[]⟩)) (pts (vs.getD j ⟨#[]⟩)) ≤ n) := hid (fun i j h => nearB_lev h)
  have hcov := Mt.coveredP_mono hSM qs.length vs.length
  have hmat := Mt.matchesP_mono hSM qs.length vs.length
  have hpai := mx_mono (nq := qs.length) (nv := vs.length) hSM
  have HFL := hid (fun ps (h : Mt.Found (nearS true n (simE n) qs vs) qs.length vs.length ps) => And.intro h.le_left (h.le_right hST))
  clear hSM hST
  generalize Mt.coveredP (nearS true n (simE n) qs vs) qs.length vs.length = CA at *
  generalize Mt.coveredP (nearS true n (simE n) vs qs) vs.length qs.length = CT at *
  generalize Mt.coveredP (nearS true (n + 1) (simE (n + 1)) qs vs) qs.length vs.length = CB at *
  generalize (Mt.matchesP (nearS true n (simE n) qs vs) qs.length vs.length).length = MA at *
  generalize (Mt.matchesP (nearS true (n + 1) (simE (n + 1)) qs vs) qs.length vs.length).length = MB at *
  generalize mx (nearS true n (simE n) qs vs) qs.length vs.length = PA at *
  generalize mx (nearS true (n + 1) (simE (n + 1)) qs vs) qs.length vs.length = PB at *
  generalize nearS true n (simE n) qs vs = S at *
  have hdc : decide (CB < CA) = false := by simp; omega
  have hdm : decide (MB < MA) = false := by simp; omega
  have hdp : decide (PB < PA) = false := by simp; omega
  generalize hql' : qs.length = ql at *
  generalize hvl' : vs.length = vl at *
  have HLQ := hid hql'
  have HLV' := hid hvl'
  clear hql' hvl'
  have hB5 : Below w4.heap.size w4 ((w4.alloc (.cells #[.int .i64 2, .int .i64 (n : Int), .int .i64 0, .int .i64 0] 29)).alloc (.cells #[.int .i64 2, .int .i64 ((n : Int) + 1), .int .i64 0, .int .i64 0] 29)) := by repeat' (first | (with_reducible exact Below.refl _ _) | (with_reducible assumption) | (with_reducible refine below_drewN ?_) | (with_reducible refine Below.alloc ?_ ?_ _) | (with_reducible refine Below.drew ?_) | (with_reducible refine Below.setCell ?_ ?_ _) | (with_reducible refine Below.trans ?_ (Below.mono (by with_reducible assumption) ?_)) | go_size)
  have HB5 := hid hB5
  have HS5 := hid (HSET.out.below hB5)
  have m0 : ((w4.alloc (.cells #[.int .i64 2, .int .i64 (n : Int), .int .i64 0, .int .i64 0] 29)).alloc (.cells #[.int .i64 2, .int .i64 ((n : Int) + 1), .int .i64 0, .int .i64 0] 29)).cell? ⟨w4.heap.size, 0, none⟩ = some (.int .i64 2) := by simp
  have m1 : ((w4.alloc (.cells #[.int .i64 2, .int .i64 (n : Int), .int .i64 0, .int .i64 0] 29)).alloc (.cells #[.int .i64 2, .int .i64 ((n : Int) + 1), .int .i64 0, .int .i64 0] 29)).cell? ⟨w4.heap.size, 1, none⟩ = some (.int .i64 (n : Int)) := by simp
  have m2 : ((w4.alloc (.cells #[.int .i64 2, .int .i64 (n : Int), .int .i64 0, .int .i64 0] 29)).alloc (.cells #[.int .i64 2, .int .i64 ((n : Int) + 1), .int .i64 0, .int .i64 0] 29)).cell? ⟨w4.heap.size, 2, none⟩ = some (.int .i64 0) := by simp
  have m3 : ((w4.alloc (.cells #[.int .i64 2, .int .i64 (n : Int), .int .i64 0, .int .i64 0] 29)).alloc (.cells #[.int .i64 2, .int .i64 ((n : Int) + 1), .int .i64 0, .int .i64 0] 29)).cell? ⟨w4.heap.size, 3, none⟩ = some (.int .i64 0) := by simp
  have m4 : ((w4.alloc (.cells #[.int .i64 2, .int .i64 (n : Int), .int .i64 0, .int .i64 0] 29)).alloc (.cells #[.int .i64 2, .int .i64 ((n : Int) + 1), .int .i64 0, .int .i64 0] 29)).cell? ⟨w4.heap.size + 1, 0, none⟩ = some (.int .i64 2) := by simp
  have m5 : ((w4.alloc (.cells #[.int .i64 2, .int .i64 (n : Int), .int .i64 0, .int .i64 0] 29)).alloc (.cells #[.int .i64 2, .int .i64 ((n : Int) + 1), .int .i64 0, .int .i64 0] 29)).cell? ⟨w4.heap.size + 1, 1, none⟩ = some (.int .i64 ((n : Int) + 1)) := by simp
  have m6 : ((w4.alloc (.cells #[.int .i64 2, .int .i64 (n : Int), .int .i64 0, .int .i64 0] 29)).alloc (.cells #[.int .i64 2, .int .i64 ((n : Int) + 1), .int .i64 0, .int .i64 0] 29)).cell? ⟨w4.heap.size + 1, 2, none⟩ = some (.int .i64 0) := by simp
  have m7 : ((w4.alloc (.cells #[.int .i64 2, .int .i64 (n : Int), .int .i64 0, .int .i64 0] 29)).alloc (.cells #[.int .i64 2, .int .i64 ((n : Int) + 1), .int .i64 0, .int .i64 0] 29)).cell? ⟨w4.heap.size + 1, 3, none⟩ = some (.int .i64 0) := by simp
  have hz5 : ((w4.alloc (.cells #[.int .i64 2, .int .i64 (n : Int), .int .i64 0, .int .i64 0] 29)).alloc (.cells #[.int .i64 2, .int .i64 ((n : Int) + 1), .int .i64 0, .int .i64 0] 29)).heap.size = w4.heap.size + 2 := by simp
  clear hB5
  generalize (w4.alloc (.cells #[.int .i64 2, .int .i64 (n : Int), .int .i64 0, .int .i64 0] 29)).alloc (.cells #[.int .i64 2, .int .i64 ((n : Int) + 1), .int .i64 0, .int .i64 0] 29) = w5 at *
  have hz5' : w4.heap.size + 1 < w5.heap.size := by omega
  clear hz5
  have hsm := HS5.out.more (B' := w5.heap.size) (by omega) (Nat.le_refl _)
  have HSM := hid hsm
  have HQA := hid (HXA.out w5 hsm)
  have HQB := hid (HXB.out w5 hsm)
  have HQT := hid (HXT.out w5 hsm.turn)
  clear hsm
  have HNN := hid hn4
  generalize hnb : (n : Int) + 1 = nb at *
  generalize hna : (n : Int) = na at *
  have HNA := hid hna
  clear hnb hna
  go_region_held3 (fun w' => w'.cell? ⟨w4.heap.size, 0, none⟩ = some (.int .i64 2) ∧ w'.cell? ⟨w4.heap.size, 1, none⟩ = some (.int .i64 na) ∧ w'.cell? ⟨w4.heap.size, 2, none⟩ = some (.int .i64 0) ∧ w'.cell? ⟨w4.heap.size, 3, none⟩ = some (.int .i64 0) ∧ w'.cell? ⟨w4.heap.size + 1, 0, none⟩ = some (.int .i64 2) ∧ w'.cell? ⟨w4.heap.size + 1, 1, none⟩ = some (.int .i64 nb) ∧ w'.cell? ⟨w4.heap.size + 1, 2, none⟩ = some (.int .i64 0) ∧ w'.cell? ⟨w4.heap.size + 1, 3, none⟩ = some (.int .i64 0))
    (first | exact ⟨m0, m1, m2, m3, m4, m5, m6, m7⟩ | exact ⟨f00, f01, f02, f03, f04, f05, f06, f07⟩ | exact ⟨f10, f11, f12, f13, f14, f15, f16, f17⟩ | exact ⟨f20, f21, f22, f23, f24, f25, f26, f27⟩ | exact ⟨f30, f31, f32, f33, f34, f35, f36, f37⟩ | exact ⟨f40, f41, f42, f43, f44, f45, f46, f47⟩ | exact ⟨f50, f51, f52, f53, f54, f55, f56, f57⟩ | go_keep)
    (first
      | (go_at_call_of 8 (na); go_must (((with_reducible refine (HQA.out.cov _ (by repeat' (first | (with_reducible exact Below.refl _ _) | (with_reducible assumption) | (with_reducible refine below_drewN ?_) | (with_reducible refine Below.alloc ?_ ?_ _) | (with_reducible refine Below.drew ?_) | (with_reducible refine Below.setCell ?_ ?_ _) | (with_reducible refine Below.trans ?_ (Below.mono (by with_reducible assumption) ?_)) | go_size))).mono ?_); rintro e wc0 ⟨rfl, hc0⟩; have hzc0 := hc0.size; (try simp at hzc0); have f00 := cell_later hc0 (a := ⟨w4.heap.size, 0, none⟩) (v := .int .i64 2) (by go_cell); have f01 := cell_later hc0 (a := ⟨w4.heap.size, 1, none⟩) (v := .int .i64 na) (by go_cell); have f02 := cell_later hc0 (a := ⟨w4.heap.size, 2, none⟩) (v := .int .i64 0) (by go_cell); have f03 := cell_later hc0 (a := ⟨w4.heap.size, 3, none⟩) (v := .int .i64 0) (by go_cell); have f04 := cell_later hc0 (a := ⟨w4.heap.size + 1, 0, none⟩) (v := .int .i64 2) (by go_cell); have f05 := cell_later hc0 (a := ⟨w4.heap.size + 1, 1, none⟩) (v := .int .i64 nb) (by go_cell); have f06 := cell_later hc0 (a := ⟨w4.heap.size + 1, 2, none⟩) (v := .int .i64 0) (by go_cell); have f07 := cell_later hc0 (a := ⟨w4.heap.size + 1, 3, none⟩) (v := .int .i64 0) (by go_cell))))
      | (go_at_call_of 8 (nb); go_must (((with_reducible refine (HQB.out.cov _ (by repeat' (first | (with_reducible exact Below.refl _ _) | (with_reducible assumption) | (with_reducible refine below_drewN ?_) | (with_reducible refine Below.alloc ?_ ?_ _) | (with_reducible refine Below.drew ?_) | (with_reducible refine Below.setCell ?_ ?_ _) | (with_reducible refine Below.trans ?_ (Below.mono (by with_reducible assumption) ?_)) | go_size))).mono ?_); rintro e wc1 ⟨rfl, hc1⟩; have hzc1 := hc1.size; (try simp at hzc1); have f10 := cell_later hc1 (a := ⟨w4.heap.size, 0, none⟩) (v := .int .i64 2) (by go_cell); have f11 := cell_later hc1 (a := ⟨w4.heap.size, 1, none⟩) (v := .int .i64 na) (by go_cell); have f12 := cell_later hc1 (a := ⟨w4.heap.size, 2, none⟩) (v := .int .i64 0) (by go_cell); have f13 := cell_later hc1 (a := ⟨w4.heap.size, 3, none⟩) (v := .int .i64 0) (by go_cell); have f14 := cell_later hc1 (a := ⟨w4.heap.size + 1, 0, none⟩) (v := .int .i64 2) (by go_cell); have f15 := cell_later hc1 (a := ⟨w4.heap.size + 1, 1, none⟩) (v := .int .i64 nb) (by go_cell); have f16 := cell_later hc1 (a := ⟨w4.heap.size + 1, 2, none⟩) (v := .int .i64 0) (by go_cell); have f17 := cell_later hc1 (a := ⟨w4.heap.size + 1, 3, none⟩) (v := .int .i64 0) (by go_cell))))
      | (go_at_call_of 9 (na); go_must (((with_reducible refine (HQA.out.pai _ (by repeat' (first | (with_reducible exact Below.refl _ _) | (with_reducible assumption) | (with_reducible refine below_drewN ?_) | (with_reducible refine Below.alloc ?_ ?_ _) | (with_reducible refine Below.drew ?_) | (with_reducible refine Below.setCell ?_ ?_ _) | (with_reducible refine Below.trans ?_ (Below.mono (by with_reducible assumption) ?_)) | go_size))).mono ?_); rintro e wc2 ⟨ac2, kc2, rfl, hc2⟩; have hzc2 := hc2.size; (try simp at hzc2); have f20 := cell_later hc2 (a := ⟨w4.heap.size, 0, none⟩) (v := .int .i64 2) (by go_cell); have f21 := cell_later hc2 (a := ⟨w4.heap.size, 1, none⟩) (v := .int .i64 na) (by go_cell); have f22 := cell_later hc2 (a := ⟨w4.heap.size, 2, none⟩) (v := .int .i64 0) (by go_cell); have f23 := cell_later hc2 (a := ⟨w4.heap.size, 3, none⟩) (v := .int .i64 0) (by go_cell); have f24 := cell_later hc2 (a := ⟨w4.heap.size + 1, 0, none⟩) (v := .int .i64 2) (by go_cell); have f25 := cell_later hc2 (a := ⟨w4.heap.size + 1, 1, none⟩) (v := .int .i64 nb) (by go_cell); have f26 := cell_later hc2 (a := ⟨w4.heap.size + 1, 2, none⟩) (v := .int .i64 0) (by go_cell); have f27 := cell_later hc2 (a := ⟨w4.heap.size + 1, 3, none⟩) (v := .int .i64 0) (by go_cell))))
      | (go_at_call_of 9 (nb); go_must (((with_reducible refine (HQB.out.pai _ (by repeat' (first | (with_reducible exact Below.refl _ _) | (with_reducible assumption) | (with_reducible refine below_drewN ?_) | (with_reducible refine Below.alloc ?_ ?_ _) | (with_reducible refine Below.drew ?_) | (with_reducible refine Below.setCell ?_ ?_ _) | (with_reducible refine Below.trans ?_ (Below.mono (by with_reducible assumption) ?_)) | go_size))).mono ?_); rintro e wc3 ⟨ac3, kc3, rfl, hc3⟩; have hzc3 := hc3.size; (try simp at hzc3); have f30 := cell_later hc3 (a := ⟨w4.heap.size, 0, none⟩) (v := .int .i64 2) (by go_cell); have f31 := cell_later hc3 (a := ⟨w4.heap.size, 1, none⟩) (v := .int .i64 na) (by go_cell); have f32 := cell_later hc3 (a := ⟨w4.heap.size, 2, none⟩) (v := .int .i64 0) (by go_cell); have f33 := cell_later hc3 (a := ⟨w4.heap.size, 3, none⟩) (v := .int .i64 0) (by go_cell); have f34 := cell_later hc3 (a := ⟨w4.heap.size + 1, 0, none⟩) (v := .int .i64 2) (by go_cell); have f35 := cell_later hc3 (a := ⟨w4.heap.size + 1, 1, none⟩) (v := .int .i64 nb) (by go_cell); have f36 := cell_later hc3 (a := ⟨w4.heap.size + 1, 2, none⟩) (v := .int .i64 0) (by go_cell); have f37 := cell_later hc3 (a := ⟨w4.heap.size + 1, 3, none⟩) (v := .int .i64 0) (by go_cell))))
      | (go_at_call_of 10 (na); go_must (((with_reducible refine (HQA.out.mat _ (by repeat' (first | (with_reducible exact Below.refl _ _) | (with_reducible assumption) | (with_reducible refine below_drewN ?_) | (with_reducible refine Below.alloc ?_ ?_ _) | (with_reducible refine Below.drew ?_) | (with_reducible refine Below.setCell ?_ ?_ _) | (with_reducible refine Below.trans ?_ (Below.mono (by with_reducible assumption) ?_)) | go_size))).mono ?_); rintro e wc4 ⟨ac4, kc4, rfl, hc4⟩; have hzc4 := hc4.size; (try simp at hzc4); have f40 := cell_later hc4 (a := ⟨w4.heap.size, 0, none⟩) (v := .int .i64 2) (by go_cell); have f41 := cell_later hc4 (a := ⟨w4.heap.size, 1, none⟩) (v := .int .i64 na) (by go_cell); have f42 := cell_later hc4 (a := ⟨w4.heap.size, 2, none⟩) (v := .int .i64 0) (by go_cell); have f43 := cell_later hc4 (a := ⟨w4.heap.size, 3, none⟩) (v := .int .i64 0) (by go_cell); have f44 := cell_later hc4 (a := ⟨w4.heap.size + 1, 0, none⟩) (v := .int .i64 2) (by go_cell); have f45 := cell_later hc4 (a := ⟨w4.heap.size + 1, 1, none⟩) (v := .int .i64 nb) (by go_cell); have f46 := cell_later hc4 (a := ⟨w4.heap.size + 1, 2, none⟩) (v := .int .i64 0) (by go_cell); have f47 := cell_later hc4 (a := ⟨w4.heap.size + 1, 3, none⟩) (v := .int .i64 0) (by go_cell))))
      | (go_at_call_of 10 (nb); go_must (((with_reducible refine (HQB.out.mat _ (by repeat' (first | (with_reducible exact Below.refl _ _) | (with_reducible assumption) | (with_reducible refine below_drewN ?_) | (with_reducible refine Below.alloc ?_ ?_ _) | (with_reducible refine Below.drew ?_) | (with_reducible refine Below.setCell ?_ ?_ _) | (with_reducible refine Below.trans ?_ (Below.mono (by with_reducible assumption) ?_)) | go_size))).mono ?_); rintro e wc5 ⟨ac5, kc5, rfl, hc5⟩; have hzc5 := hc5.size; (try simp at hzc5); have f50 := cell_later hc5 (a := ⟨w4.heap.size, 0, none⟩) (v := .int .i64 2) (by go_cell); have f51 := cell_later hc5 (a := ⟨w4.heap.size, 1, none⟩) (v := .int .i64 na) (by go_cell); have f52 := cell_later hc5 (a := ⟨w4.heap.size, 2, none⟩) (v := .int .i64 0) (by go_cell); have f53 := cell_later hc5 (a := ⟨w4.heap.size, 3, none⟩) (v := .int .i64 0) (by go_cell); have f54 := cell_later hc5 (a := ⟨w4.heap.size + 1, 0, none⟩) (v := .int .i64 2) (by go_cell); have f55 := cell_later hc5 (a := ⟨w4.heap.size + 1, 1, none⟩) (v := .int .i64 nb) (by go_cell); have f56 := cell_later hc5 (a := ⟨w4.heap.size + 1, 2, none⟩) (v := .int .i64 0) (by go_cell); have f57 := cell_later hc5 (a := ⟨w4.heap.size + 1, 3, none⟩) (v := .int .i64 0) (by go_cell)))))
  have HBC := hid (show Below w5.heap.size w5 wc5 by repeat' (first | (with_reducible exact Below.refl _ _) | (with_reducible assumption) | (with_reducible refine below_drewN ?_) | (with_reducible refine Below.alloc ?_ ?_ _) | (with_reducible refine Below.drew ?_) | (with_reducible refine Below.setCell ?_ ?_ _) | (with_reducible refine Below.trans ?_ (Below.mono (by with_reducible assumption) ?_)) | go_size))
  have hzC := HBC.out.size
  clear m0 m1 m2 m3 m4 m5 m6 m7 f00 f01 f02 f03 f04 f05 f06 f07 f10 f11 f12 f13 f14 f15 f16 f17 f20 f21 f22 f23 f24 f25 f26 f27 f30 f31 f32 f33 f34 f35 f36 f37 f40 f41 f42 f43 f44 f45 f46 f47 f54 f55 f56 f57 hc0 hc1 hc2 hc3 hc4 hc5
  have HSC := hid ((HSM.out.below HBC.out).more HBC.out.size (Nat.le_refl _))
  go_wp2_with fail
  with_reducible refine (HXP.out _ HSC.out).mono ?_
  rintro e w6 ⟨ps, hf, a6, c6, rfl, hown6, hb6⟩
  have HAT := hid (found_at hf)
  have hle := HFL.out ps hf
  have HRD := hid (rdPr_of_own hown6)
  have hcaps : ps.length ≤ c6 ∧ c6 ≤ maxLen := by
    obtain ⟨_, _, e6, h1, h2, _⟩ := HRD.out
    obtain ⟨_, _, rfl⟩ := Value.slice.inj e6
    exact ⟨h1, h2⟩
  obtain ⟨hcap1, hcap2⟩ := hcaps
  unfold maxLen at hcap2
  have HB6 := hid (HBC.out.trans (hb6.mono HBC.out.size))
  have r0 := cell_later hb6 f50
  have r1 := cell_later hb6 f51
  have r2 := cell_later hb6 f52
  have r3 := cell_later hb6 f53
  have hz6 := hb6.size
  clear hf hown6 hb6 f50 f51 f52 f53 HSC
  generalize hpl : ps.length = pl at *
  have HPL := hid hpl
  clear hpl
  obtain ⟨hle1, hle2⟩ := hle
  have hdl1 : decide (CA < pl) = false := by simp; omega
  have hdl2 : decide (CT < pl) = false := by simp; omega
  go_wp2_with fail
  with_reducible refine (HQA.out.cov _ HB6.out).mono ?_
  rintro e w7 ⟨rfl, hb7⟩
  have HB7 := hid (HB6.out.trans (hb7.mono HB6.out.size))
  have HB67 := hid hb7
  have t0 := cell_later hb7 r0
  have t1 := cell_later hb7 r1
  have t2 := cell_later hb7 r2
  have t3 := cell_later hb7 r3
  have hz7 := hb7.size
  clear hb7 r0 r1 r2 r3
  go_wp2_with fail
  with_reducible refine (HQT.out.cov _ HB7.out).mono ?_
  rintro e w8 ⟨rfl, hb8⟩
  have HB8 := hid (HB7.out.trans (hb8.mono HB7.out.size))
  have HB68 := hid (HB67.out.trans (hb8.mono HB67.out.size))
  have HU := hid (And.intro (cell_later hb8 t0) (And.intro (cell_later hb8 t1) (And.intro (cell_later hb8 t2) (cell_later hb8 t3))))
  have hz8 := hb8.size
  clear hb8 t0 t1 t2 t3
  go_wp2_with fail
  go_loopg [89] pl (fun M i wr => ∃ k : Nat, pl - k = M ∧ k ≤ pl ∧ i = .int .i64 k ∧ Below w8.heap.size w8 wr)
  case atStart => exact ⟨0, by omega, by omega, rfl, Below.refl _ _⟩
  case round =>
    obtain ⟨k, rfl, hk, rfl, hbl⟩ := hrel
    have HBL := hid hbl
    have hzr := hbl.size
    clear hbl
    by_cases hkl : k < pl
    · obtain ⟨a', c', e', _, _, hx⟩ := HRD.out
      obtain ⟨rfl, -, rfl⟩ := Value.slice.inj e'
      obtain ⟨b, o, rfl, hb, hcell⟩ := hx (by have := HPL.out; omega)
      have hk1 : w6.cell? ⟨b, o + k * 2, none⟩ = some (.int .i64 (((ps.getD k (0, 0)).1 : Nat) : Int)) := (hcell k (by have := HPL.out; omega)).1
      have hk2 : w6.cell? ⟨b, o + k * 2 + 1, none⟩ = some (.int .i64 (((ps.getD k (0, 0)).2 : Nat) : Int)) := (hcell k (by have := HPL.out; omega)).2
      obtain ⟨hq1, hq2, hq3⟩ := HAT.out.2 k (by have := HPL.out; omega)
      clear e'
      have hlv := HLV.out _ _ hq3
      have HUP := hid (fun i (hi : i < k) => HAT.out.1 i k hi (by have := HPL.out; omega))
      have HCELL := hid (fun i (hi : i < pl) => hcell i (by have := HPL.out; omega))
      have l0 := (HBL.out.cell (p := ⟨b, o + k * 2, none⟩) (by show b < w8.heap.size; omega)).trans ((HB68.out.cell (p := ⟨b, o + k * 2, none⟩) hb).trans hk1)
      have l1 := (HBL.out.cell (p := ⟨b, o + k * 2 + 1, none⟩) (by show b < w8.heap.size; omega)).trans ((HB68.out.cell (p := ⟨b, o + k * 2 + 1, none⟩) hb).trans hk2)
      obtain ⟨qa', qc', eq', hqc, hqcm, hqx⟩ := HQX.out
      obtain ⟨rfl, -, rfl⟩ := Value.slice.inj eq'
      obtain ⟨qb, qo, rfl, hqb, hqcell⟩ := hqx (by have := HLQ.out; omega)
      obtain ⟨va', vc', ev', hvc, hvcm, hvx⟩ := HVX.out
      obtain ⟨rfl, -, rfl⟩ := Value.slice.inj ev'
      obtain ⟨vb, vo, rfl, hvb, hvcell⟩ := hvx (by have := HLV'.out; omega)
      have hB4r : Below w4.heap.size w4 wr := HB5.out.trans ((HB8.out.mono HB5.out.size).trans (HBL.out.mono (by have := HB5.out.size; omega)))
      have u6 : wr.cell? ⟨qb, qo + (ps.getD k (0, 0)).1, none⟩ = some (.string (qs.getD (ps.getD k (0, 0)).1 ⟨#[]⟩)) := (hB4r.cell (p := ⟨qb, qo + (ps.getD k (0, 0)).1, none⟩) hqb).trans (hqcell _ (by have := HLQ.out; omega))
      have u7 : wr.cell? ⟨vb, vo + (ps.getD k (0, 0)).2, none⟩ = some (.string (vs.getD (ps.getD k (0, 0)).2 ⟨#[]⟩)) := (hB4r.cell (p := ⟨vb, vo + (ps.getD k (0, 0)).2, none⟩) hvb).trans (hvcell _ (by have := HLV'.out; omega))
      have HSQ1 := hid (HSET.out.sq (ps.getD k (0, 0)).1)
      have HSV1 := hid (HSET.out.sv (ps.getD k (0, 0)).2)
      clear eq' ev' hx hcell hk1 hk2 hq3 hqx hqcell hvx hvcell hB4r
      generalize (ps.getD k (0, 0)).1 = p1 at *
      generalize (ps.getD k (0, 0)).2 = p2 at *
      generalize qs.getD p1 ⟨#[]⟩ = sq at *
      generalize vs.getD p2 ⟨#[]⟩ = sv at *
      have HSIM : Hid (∀ W, Calls Try.prog 11 #[.agg #[.int .i64 2, .int .i64 na, .int .i64 0, .int .i64 0], .string sq, .string sv] W (Ret W (.bool true))) := hid (fun W => by
        have hna := HNA.out
        have := HNN.out
        subst hna
        have h := ref_SimilarE sq sv (n : Int) W HSQ1.out HSV1.out (by omega) (by omega)
        rw [show (n : Int).toNat = n from by omega, decide_eq_true hlv] at h
        exact h)
      obtain ⟨h0, h1, h2, h3⟩ := HU.out
      have hw48 : w4.heap.size < w8.heap.size := by omega
      have y0 := (HBL.out.cell (p := ⟨w4.heap.size, 0, none⟩) hw48).trans h0
      have y1 := (HBL.out.cell (p := ⟨w4.heap.size, 1, none⟩) hw48).trans h1
      have y2 := (HBL.out.cell (p := ⟨w4.heap.size, 2, none⟩) hw48).trans h2
      have y3 := (HBL.out.cell (p := ⟨w4.heap.size, 3, none⟩) hw48).trans h3
      clear h0 h1 h2 h3 hlv
      have hw4r : w4.heap.size < wr.heap.size := by omega
      have hqbr : qb < wr.heap.size := by omega
      have hvbr : vb < wr.heap.size := by omega
      go_wp2_with fail
      have z0 : (wr.alloc (.cells #[.int .i64 (p1 : Int), .int .i64 (p2 : Int)] 33)).cell? ⟨w4.heap.size, 0, none⟩ = some (.int .i64 2) := (World.cell?_alloc_lt wr _ ⟨w4.heap.size, 0, none⟩ hw4r).trans y0
      have z1 : (wr.alloc (.cells #[.int .i64 (p1 : Int), .int .i64 (p2 : Int)] 33)).cell? ⟨w4.heap.size, 1, none⟩ = some (.int .i64 na) := (World.cell?_alloc_lt wr _ ⟨w4.heap.size, 1, none⟩ hw4r).trans y1
      have z2 : (wr.alloc (.cells #[.int .i64 (p1 : Int), .int .i64 (p2 : Int)] 33)).cell? ⟨w4.heap.size, 2, none⟩ = some (.int .i64 0) := (World.cell?_alloc_lt wr _ ⟨w4.heap.size, 2, none⟩ hw4r).trans y2
      have z3 : (wr.alloc (.cells #[.int .i64 (p1 : Int), .int .i64 (p2 : Int)] 33)).cell? ⟨w4.heap.size, 3, none⟩ = some (.int .i64 0) := (World.cell?_alloc_lt wr _ ⟨w4.heap.size, 3, none⟩ hw4r).trans y3
      have z4 : (wr.alloc (.cells #[.int .i64 (p1 : Int), .int .i64 (p2 : Int)] 33)).cell? ⟨wr.heap.size, 0, none⟩ = some (.int .i64 (p1 : Int)) := by simp
      have z5 : (wr.alloc (.cells #[.int .i64 (p1 : Int), .int .i64 (p2 : Int)] 33)).cell? ⟨wr.heap.size, 1, none⟩ = some (.int .i64 (p2 : Int)) := by simp
      have z6 : (wr.alloc (.cells #[.int .i64 (p1 : Int), .int .i64 (p2 : Int)] 33)).cell? ⟨qb, qo + p1, none⟩ = some (.string sq) := (World.cell?_alloc_lt wr _ ⟨qb, qo + p1, none⟩ hqbr).trans u6
      have z7 : (wr.alloc (.cells #[.int .i64 (p1 : Int), .int .i64 (p2 : Int)] 33)).cell? ⟨vb, vo + p2, none⟩ = some (.string sv) := (World.cell?_alloc_lt wr _ ⟨vb, vo + p2, none⟩ hvbr).trans u7
      have HBX := hid ((Below.refl wr.heap.size wr).alloc (Nat.le_refl _) (.cells #[.int .i64 (p1 : Int), .int .i64 (p2 : Int)] 33))
      have hzx : wr.heap.size < (wr.alloc (.cells #[.int .i64 (p1 : Int), .int .i64 (p2 : Int)] 33)).heap.size := by simp
      clear y0 y1 y2 y3 u6 u7 l0 l1
      generalize wr.alloc (.cells #[.int .i64 (p1 : Int), .int .i64 (p2 : Int)] 33) = wx at *
      have hd1 : decide (ql ≤ p1) = false := by simp; omega
      have hd2 : decide (vl ≤ p2) = false := by simp; omega
      have hd3 : decide ((p1 : Int) < 0) = false := by simp
      have hd4 : decide ((p2 : Int) < 0) = false := by simp
      go_region_held3 (fun w' => w'.cell? ⟨w4.heap.size, 0, none⟩ = some (.int .i64 2) ∧ w'.cell? ⟨w4.heap.size, 1, none⟩ = some (.int .i64 na) ∧ w'.cell? ⟨w4.heap.size, 2, none⟩ = some (.int .i64 0) ∧ w'.cell? ⟨w4.heap.size, 3, none⟩ = some (.int .i64 0) ∧ w'.cell? ⟨wr.heap.size, 0, none⟩ = some (.int .i64 (p1 : Int)) ∧ w'.cell? ⟨wr.heap.size, 1, none⟩ = some (.int .i64 (p2 : Int)) ∧ w'.cell? ⟨qb, qo + p1, none⟩ = some (.string sq) ∧ w'.cell? ⟨vb, vo + p2, none⟩ = some (.string sv))
        (first | exact ⟨z0, z1, z2, z3, z4, z5, z6, z7⟩ | exact ⟨n0, n1, n2, n3, n4, n5, n6, n7⟩ | go_keep)
        (first
          | (go_at_call 11; go_must (((with_reducible refine (HSIM.out _).mono ?_); rintro e w9 ⟨rfl, hb9⟩; have hz9 := hb9.size; (try simp at hz9); have n0 := cell_later hb9 (a := ⟨w4.heap.size, 0, none⟩) (v := .int .i64 2) (by go_cell); have n1 := cell_later hb9 (a := ⟨w4.heap.size, 1, none⟩) (v := .int .i64 na) (by go_cell); have n2 := cell_later hb9 (a := ⟨w4.heap.size, 2, none⟩) (v := .int .i64 0) (by go_cell); have n3 := cell_later hb9 (a := ⟨w4.heap.size, 3, none⟩) (v := .int .i64 0) (by go_cell); have n4 := cell_later hb9 (a := ⟨wr.heap.size, 0, none⟩) (v := .int .i64 (p1 : Int)) (by go_cell); have n5 := cell_later hb9 (a := ⟨wr.heap.size, 1, none⟩) (v := .int .i64 (p2 : Int)) (by go_cell); have n6 := cell_later hb9 (a := ⟨qb, qo + p1, none⟩) (v := .string sq) (by go_cell); have n7 := cell_later hb9 (a := ⟨vb, vo + p2, none⟩) (v := .string sv) (by go_cell)))))
      have HB9 := hid (show Below wx.heap.size wx w9 by repeat' (first | (with_reducible exact Below.refl _ _) | (with_reducible assumption) | (with_reducible refine below_drewN ?_) | (with_reducible refine Below.alloc ?_ ?_ _) | (with_reducible refine Below.drew ?_) | (with_reducible refine Below.setCell ?_ ?_ _) | (with_reducible refine Below.trans ?_ (Below.mono (by with_reducible assumption) ?_)) | go_size))
      have hz9' := HB9.out.size
      clear hb9 z0 z1 z2 z3 z4 z5 z6 z7 n0 n1 n2 n3 n6 n7 hd1 hd2 hd3 hd4
      have hkc : k ≤ c6 := by omega
      have HBR := hid (HBL.out.trans ((HBX.out.mono hzr).trans (HB9.out.mono (by omega))))
      go_wp2_with fail
      generalize hwr : wr = wr' at *
      clear hwr
      go_loopg [135] k (fun M i wi => ∃ q : Nat, k - q = M ∧ q ≤ k ∧ i = .int .i64 q ∧ Below w9.heap.size w9 wi)
      case atStart => exact ⟨0, by omega, by omega, rfl, Below.refl _ _⟩
      case round =>
        obtain ⟨q, rfl, hq, rfl, hbi⟩ := hrel
        have HBI := hid hbi
        have hzi := hbi.size
        clear hbi
        by_cases hqk : q < k
        · have hc1 := (HCELL.out q (by omega)).1
          have hc2 := (HCELL.out q (by omega)).2
          have e1 : w6.cell? ⟨b, o + q * 2, none⟩ = some (.int .i64 (((ps.getD q (0, 0)).1 : Nat) : Int)) := hc1
          have e2 : w6.cell? ⟨b, o + q * 2 + 1, none⟩ = some (.int .i64 (((ps.getD q (0, 0)).2 : Nat) : Int)) := hc2
          obtain ⟨hu1, hu2⟩ := HUP.out q hqk
          have hBB : Below w6.heap.size w6 wr := HB68.out.trans ((HBR.out.mono (Nat.le_trans hz7 hz8)).trans (HBI.out.mono (by omega)))
          have o1 := (hBB.cell (p := ⟨b, o + q * 2, none⟩) hb).trans e1
          have o2 := (hBB.cell (p := ⟨b, o + q * 2 + 1, none⟩) hb).trans e2
          have i4 := (HBI.out.cell (p := ⟨wr'.heap.size, 0, none⟩) (by show wr'.heap.size < w9.heap.size; omega)).trans n4
          have i5 := (HBI.out.cell (p := ⟨wr'.heap.size, 1, none⟩) (by show wr'.heap.size < w9.heap.size; omega)).trans n5
          clear hc1 hc2 e1 e2 hBB
          generalize (ps.getD q (0, 0)).1 = g1 at *
          generalize (ps.getD q (0, 0)).2 = g2 at *
          have hlt1 : decide (p1 ≤ g1) = false := by simp; omega
          have hne2 : ((g2 : Int) == (p2 : Int)) = false := by simp; omega
          have hltm : wr'.heap.size < wr.heap.size := by omega
          have HBN := hid (HBI.out.alloc hzi (.cells #[.int .i64 (g1 : Int), .int .i64 (g2 : Int)] 33))
          go_wp2_with fail
          go_roundg (k - (q + 1))
          case rel => exact ⟨q + 1, by omega, by omega, by go_num, HBN.out⟩
          case measure => omega
        · obtain rfl : q = k := by omega
          have HBE := hid (HBR.out.trans (HBI.out.mono (by omega)))
          go_wp2
          go_roundg (pl - (q + 1))
          case rel => exact ⟨q + 1, by omega, by omega, by go_num, HBE.out⟩
          case measure => omega
    · obtain rfl : k = pl := by omega
      have HFIN := hid (HB4.out.trans ((HB5.out.mono HB4.out.size).trans ((HB8.out.mono (Nat.le_trans HB4.out.size HB5.out.size)).trans (HBL.out.mono (by have := HB4.out.size; have := HB5.out.size; omega)))))
      go_wp2
      go_ret
      exact ⟨rfl, HFIN.out⟩

end Go.Proofs.Ytdncdlcfgljheaa
