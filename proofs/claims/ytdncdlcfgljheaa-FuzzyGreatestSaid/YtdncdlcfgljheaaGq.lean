/- The walk of FuzzyGreatest. -/
import Derived.Test.YtdncdlcfgljheaaTz
import Derived.Test.YtdncdlcfgljheaaGk
import Derived.Test.YtdncdlcfgljheaaRu
import Derived.Test.YtdncdlcfgljheaaDr
namespace Go.Proofs.Ytdncdlcfgljheaa
open Go.RowKit

theorem words_smallQ {xs : List ByteArray} (h : ∀ x ∈ xs, x ∈ wordsL) (i : Nat) : (xs.getD i ⟨#[]⟩).size ≤ 1073741824 := by
  rcases Nat.lt_or_ge i xs.length with hi | hi
  · have hm : xs.getD i ⟨#[]⟩ ∈ xs := by simp [List.getD, hi]
    have := words_size _ (h _ hm)
    omega
  · rw [List.getD_eq_getElem?_getD, List.getElem?_eq_none hi]
    exact Nat.zero_le _

theorem near_simQ (s t : ByteArray) : nearB true 0 simQ s t = simQ s t := by
  unfold nearB
  cases h : simQ s t with
  | false => simp
  | true =>
    have e : s = t := bytes_ext (by unfold simQ at h; simpa using h)
    subst e
    simp
theorem near_simE (L : Nat) (s t : ByteArray) : nearB true L (simE L) s t = simE L s t := by
  unfold nearB
  cases h : simE L s t with
  | false => simp
  | true =>
    unfold simE at h
    rw [Lv.within_lev, decide_eq_true_eq] at h
    have := Lv.dist_ge (pts s) (pts t) (pts s).length (pts t).length
    unfold Lv.lev at h
    rw [pts_length, pts_length] at *
    simp
    omega
/-- what is needed of a rule of the dice -/
structure RuleBoth (K L N D : Int) (bnd : Bool) (lim : Nat) (sim : ByteArray → ByteArray → Bool) : Prop where
  ruled : Ruled K L N D bnd lim sim
  near : ∀ s t, nearB bnd lim sim s t = sim s t
  ref : ∀ (W : World) (s t : ByteArray), s.size ≤ 1073741824 → t.size ≤ 1073741824 → Calls Try.prog 11 #[.agg #[.int .i64 K, .int .i64 L, .int .i64 N, .int .i64 D], .string s, .string t] W (Ret W (.bool (sim s t)))
theorem rule_both {K L N D : Int} (h : RuleOk K L N D) : ∃ bnd lim sim, RuleBoth K L N D bnd lim sim := by
  rcases h with ⟨rfl, rfl, rfl, rfl⟩ | ⟨rfl, h0, h3, rfl, rfl⟩ | ⟨rfl, rfl, h1, h2, h3⟩
  · exact ⟨true, 0, simQ, ruledQ, near_simQ, fun W s t _ _ => ref_SimilarQ s t W⟩
  · refine ⟨true, L.toNat, simE L.toNat, ruledE L h0 (by omega), near_simE _, fun W s t hs ht => ?_⟩
    have h := ref_SimilarE s t L W (by omega) (by omega) h0 (by omega)
    unfold simE
    rw [Lv.within_lev]
    exact h
  · exact ⟨false, 0, simT N D, ruledT N D h1 h2 (by omega), fun s t => by simp [nearB], fun W s t hs ht => ref_SimilarT s t N D W hs ht h1 h2 (by omega)⟩

theorem tried_found {S : Nat → Nat → Bool} {nq nv : Nat} {ps : List (Nat × Nat)} (h : Mt.Found S nq nv ps) : tried S nv nq 0 (fun _ => false) [] [] = ps := by
  rw [tried_start]
  unfold triedR
  have e : (Mt.rest S nv nq 0 fun _ => false).map (([] : List (Nat × Nat)) ++ ·) = Mt.rest S nv nq 0 fun _ => false := by simp
  rw [e]
  exact Mt.Found.tried h

set_option maxRecDepth 100000 in
set_option maxHeartbeats 8000000 in
theorem law_greatest (sa : Option Addr) (sn sc : Nat) (w : World) (hs : RdU w w.heap.size sa sn sc) :
    Calls Try.prog 4 #[.slice sa sn sc] w (Ret w (.bool true)) := by
  have HS := hid hs
  clear hs
  go_enter Try.func4, Try.ntmps4
  go_wp2_with fail
  with_reducible refine (law_sane _).mono ?_
  rintro e w1 ⟨rfl, hb1⟩
  have HB1 := hid hb1
  have HS1 : Hid (RdU w1 w1.heap.size sa sn sc) := hid ⟨HS.out.1, HS.out.2.1, fun hp => by
    obtain ⟨b, o, e, hb, hc⟩ := HS.out.2.2 hp
    exact ⟨b, o, e, Nat.lt_of_lt_of_le hb HB1.out.size, fun i hi => by
      obtain ⟨y, hy, hcy⟩ := hc i hi
      exact ⟨y, hy, (HB1.out.cell (p := ⟨b, o + i, none⟩) hb).trans hcy⟩⟩⟩
  clear hb1
  go_wp2_with fail
  with_reducible refine (mill_New sa sn sc _ HS1.out).mono ?_
  rintro e w2 ⟨rfl, hd2, hb2⟩
  have HD2 := hid hd2
  have hg2 := hd2.lt
  have HB2 := hid (HB1.out.trans (hb2.mono HB1.out.size))
  have hz1 := HB1.out.size
  clear hd2 hb2 HS1
  generalize hgg : w1.heap.size = g at *
  clear hgg
  go_wp2_with fail
  with_reducible refine (dice_Query g 4 _ HD2.out (by omega) (by omega)).mono ?_
  rintro e w3 ⟨qa, qc, qs, rfl, hq3, hql, hqm, hqs, hd3, hr3⟩
  have HQ3 := hid hq3
  have HD3 := hid hd3
  have HR3 := hid hr3
  have hz3 := hr3.size
  have HQM := hid hqm
  have HQS := hid hqs
  clear hq3 hd3 hr3 hqm hqs
  go_wp2_with fail
  with_reducible refine (dice_Query g 4 _ HD3.out (by omega) (by omega)).mono ?_
  rintro e w4 ⟨va, vc, vs, rfl, hv4, hvl, hvm, hvs, hd4, hr4⟩
  have HQ4 := hid (own_roll HQ3.out hr4 (Nat.le_refl _) hg2)
  have HV4 := hid hv4
  have HD4 := hid hd4
  have HR4 := hid (HR3.out.trans (hr4.mono hz3))
  have HVM := hid hvm
  have HVS := hid hvs
  have hz4 := hr4.size
  clear hv4 hvm hvs hd4 hr4 HQ3 HD3 HR3
  go_wp2_with fail
  with_reducible refine (dice_Rule g _ HD4.out).mono ?_
  rintro e w5 ⟨K, L, N, D, rfl, hok, hd5, hr5⟩
  obtain ⟨bnd, lim, sim, hrb⟩ := rule_both hok
  have HRB := hid hrb
  have HQ5 := hid (own_roll HQ4.out hr5 (Nat.le_refl _) hg2)
  have HV5 := hid (own_roll HV4.out hr5 (Nat.le_refl _) (by omega))
  have HB5 : Hid (Below w.heap.size w w5) := hid (HB2.out.trans ((HR4.out.trans (hr5.mono (by omega))).below (B' := w.heap.size) hz1 (by omega)))
  have HSET : Hid (Sets w5 w5.heap.size (.slice qa qs.length qc) (.slice va vs.length vc) qs vs) := hid
    ⟨rdS_of_own HQ5.out, rdS_of_own HV5.out, Nat.le_refl _, words_smallQ HQM.out, words_smallQ HVM.out, by omega, by omega, HQS.out.isSet, HVS.out.isSet⟩
  have HPAI := hid (fun W (h : Sets W w5.heap.size (.slice qa qs.length qc) (.slice va vs.length vc) qs vs) => fuzzy_Pairing K L N D bnd lim sim HRB.out.ruled _ _ qs vs _ W h)
  have HNS : Hid (nearS bnd lim sim qs vs = fun x y => sim (qs.getD x ⟨#[]⟩) (vs.getD y ⟨#[]⟩)) := hid (by
    funext i j
    exact HRB.out.near _ _)
  have HTRY := hid (fun W (hW : Below w5.heap.size w5 W) => (by have h := law_try K L N D sim qs vs HRB.out.ref (words_smallQ HQM.out) (words_smallQ HVM.out) HSET.out.nq HSET.out.nv qs.length 0 (fun _ => false) [] [] W W.heap.size (.slice qa qs.length qc) (.slice va vs.length vc) (.slice none 0 0) (.slice none 0 0) (by omega) (by simp) (by intro j; simp) (Rd.more (Rd.below HSET.out.q hW (Nat.le_refl _)) hW.size) (Rd.more (Rd.below HSET.out.v hW (Nat.le_refl _)) hW.size) Rd2.nil Rd2.nil (Nat.le_refl _); rw [show ((0 : Nat) : Int) = 0 from rfl] at h; exact h : Calls Try.prog 13 #[.agg #[.int .i64 K, .int .i64 L, .int .i64 N, .int .i64 D], .slice qa qs.length qc, .slice va vs.length vc, .int .i64 0, .slice none 0 0, .slice none 0 0] W (TryP W (tried (fun x y => sim (qs.getD x ⟨#[]⟩) (vs.getD y ⟨#[]⟩)) vs.length qs.length 0 (fun _ => false) [] []))))
  rw [HNS.out] at HPAI
  have HTF := hid (fun ps h => @tried_found (fun x y => sim (qs.getD x ⟨#[]⟩) (vs.getD y ⟨#[]⟩)) qs.length vs.length ps h)
  generalize (fun x y => sim (qs.getD x ⟨#[]⟩) (vs.getD y ⟨#[]⟩)) = S at *
  clear hd5 hr5 hok hrb HQ4 HV4 HD4 HR4 HQ5 HV5 HB2 HD2
  go_wp2_with fail
  have hB6 : Below w5.heap.size w5 (w5.alloc (.cells #[.int .i64 K, .int .i64 L, .int .i64 N, .int .i64 D] 29)) := by repeat' (first | (with_reducible exact Below.refl _ _) | (with_reducible assumption) | (with_reducible refine below_drewN ?_) | (with_reducible refine Below.alloc ?_ ?_ _) | (with_reducible refine Below.drew ?_) | (with_reducible refine Below.setCell ?_ ?_ _) | (with_reducible refine Below.trans ?_ (Below.mono (by with_reducible assumption) ?_)) | go_size)
  with_reducible refine (HPAI.out _ (HSET.out.below hB6)).mono ?_
  rintro e w6 ⟨ps, hf, a6, c6, rfl, hown6, hb6⟩
  have HPS := hid hf
  have HO6 := hid hown6
  have k0 := cell_later hb6 (a := ⟨w5.heap.size, 0, none⟩) (v := .int .i64 K) (by go_cell)
  have k1 := cell_later hb6 (a := ⟨w5.heap.size, 1, none⟩) (v := .int .i64 L) (by go_cell)
  have k2 := cell_later hb6 (a := ⟨w5.heap.size, 2, none⟩) (v := .int .i64 N) (by go_cell)
  have k3 := cell_later hb6 (a := ⟨w5.heap.size, 3, none⟩) (v := .int .i64 D) (by go_cell)
  have HB6 := hid (show Below w5.heap.size w5 w6 by repeat' (first | (with_reducible exact Below.refl _ _) | (with_reducible assumption) | (with_reducible refine below_drewN ?_) | (with_reducible refine Below.alloc ?_ ?_ _) | (with_reducible refine Below.drew ?_) | (with_reducible refine Below.setCell ?_ ?_ _) | (with_reducible refine Below.trans ?_ (Below.mono (by with_reducible assumption) ?_)) | go_size))
  clear hb6 hf hown6 hB6
  go_wp2_with fail
  with_reducible refine (HTRY.out _ HB6.out).mono ?_
  rintro e w7 ⟨a7, c7, rfl, hr7, hb7⟩
  have hR := HTF.out ps HPS.out
  rw [hR] at hr7
  have HR7 := hid hr7
  have HP7 : Hid (RdPr w7 w7.heap.size (.slice a6 ps.length c6) ps) := hid (Rd2.more (Rd2.below (rdPr_of_own HO6.out) hb7 (Nat.le_refl _)) hb7.size)
  have HB7 : Hid (Below w.heap.size w w7) := hid (HB5.out.trans ((HB6.out.trans (hb7.mono HB6.out.size)).mono HB5.out.size))
  rw [hR]
  clear hb7 hr7 hR k0 k1 k2 k3
  go_wp2_with fail
  with_reducible refine (ref_SamePairs _ _ ps w7.heap.size _ HP7.out HR7.out).mono ?_
  rintro e w8 ⟨rfl, n8, rfl⟩
  go_wp2_with fail
  go_ret
  exact ⟨rfl, below_drewN HB7.out⟩

end Go.Proofs.Ytdncdlcfgljheaa
