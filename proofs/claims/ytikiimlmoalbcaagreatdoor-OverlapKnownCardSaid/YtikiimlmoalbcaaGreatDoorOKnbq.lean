/- Plain: the certificate of the first hits is accepted. Plain and memory: the certificate of the first hits can be read and is accepted. Plain: the data of the sanity check of chapter 19. The sanity check of chapter 19. -/
import Derived.Test.YtikiimlmoalbcaaGreatDoorOKnbp
import Derived.Test.YtikiimlmoalbcaaGreatDoorOKnbi
set_option linter.unusedVariables false
set_option linter.unusedSimpArgs false
namespace Go.Proofs.YtikiimlmoalbcaaGreatDoor
open Go.RowKit
theorem readB_vs {cs : List Cv} {pl : List Nat} {r : Nat} (v : ByteArray) : readB cs (sortN (pl.take r)) v = hasL ((vsOf cs pl).take r) v := by
 unfold readB vsOf
 rw [Bool.eq_iff_iff, List.any_eq_true, hasL_iff, ← List.map_take, List.mem_map]
 constructor
 ·rintro ⟨i, hi, e⟩
  exact ⟨i, (sortN_perm _).mem_iff.1 hi, of_decide_eq_true e⟩
 ·rintro ⟨i, hi, e⟩
  exact ⟨i, (sortN_perm _).mem_iff.2 hi, decide_eq_true e⟩
theorem vs_nodup {cs : List Cv} {q vs : List ByteArray} (hv : ReadOk cs q vs) (hq : q.Nodup) : vs.Nodup := hv.nodup_iff.2 (hq.sublist List.filter_sublist)
theorem take_drop_not {vs : List ByteArray} (hn : vs.Nodup) (r : Nat) : ∀ v ∈ vs.drop r, hasL (vs.take r) v = false := fun v hv => by
 cases h : hasL (vs.take r) v
 ·rfl
 ·have h1 := (hasL_iff _ _).1 h
  rw [← List.take_append_drop r vs] at hn
  exact absurd rfl ((List.pairwise_append.1 hn).2.2 v h1 v hv)
theorem low_vs {cs : List Cv} {q : List ByteArray} {pl : List Nat} {r : Nat} (hv : ReadOk cs q (vsOf cs pl)) (hq : q.Nodup) (c : Nat) : lowB cs q (sortN (pl.take r)) c = lowC cs (vsOf cs pl) r c := by
 have hn := vs_nodup hv hq
 unfold lowB lowC
 have e1 : (q.filter fun v => hasL (setOfL (allOf cs)) v && (readB cs (sortN (pl.take r)) v && hasL (cs.getD c Cv.z).2 v)) = (q.filter (hasL (setOfL (allOf cs)))).filter fun v => hasL ((vsOf cs pl).take r) v && hasL (cs.getD c Cv.z).2 v := by
  rw [List.filter_filter]
  refine List.filter_congr fun v _ => ?_
  rw [readB_vs, Bool.and_comm]
 rw [e1, ← ((show (vsOf cs pl).Perm _ from hv).filter _).length_eq]
 generalize vsOf cs pl = vs at *
 have e2 : (vs.filter fun v => hasL (vs.take r) v && hasL (cs.getD c Cv.z).2 v) = (vs.take r).filter fun v => hasL (cs.getD c Cv.z).2 v := by
  conv => lhs; arg 2; rw [← List.take_append_drop r vs]
  rw [List.filter_append]
  have e3 : ((vs.drop r).filter fun v => hasL (vs.take r) v && hasL (cs.getD c Cv.z).2 v) = [] := List.filter_eq_nil_iff.2 fun v hm => by rw [take_drop_not hn r v hm]; simp
  rw [e3, List.append_nil]
  exact List.filter_congr fun v hm => by rw [(hasL_iff _ _).2 hm, Bool.true_and]
 rw [e2]
theorem open_vs {cs : List Cv} {q : List ByteArray} {pl : List Nat} {r : Nat} (hv : ReadOk cs q (vsOf cs pl)) (hq : q.Nodup) : openB cs q (sortN (pl.take r)) = (vsOf cs pl).length - r := by
 have hn := vs_nodup hv hq
 unfold openB
 have e1 : (q.filter fun v => hasL (setOfL (allOf cs)) v && !readB cs (sortN (pl.take r)) v) = (q.filter (hasL (setOfL (allOf cs)))).filter fun v => !hasL ((vsOf cs pl).take r) v := by
  rw [List.filter_filter]
  refine List.filter_congr fun v _ => ?_
  rw [readB_vs, Bool.and_comm]
 rw [e1, ← ((show (vsOf cs pl).Perm _ from hv).filter _).length_eq]
 generalize vsOf cs pl = vs at *
 have e2 : (vs.filter fun v => !hasL (vs.take r) v) = vs.drop r := by
  conv => lhs; arg 2; rw [← List.take_append_drop r vs]
  rw [List.filter_append]
  have e3 : ((vs.take r).filter fun v => !hasL (vs.take r) v) = [] := List.filter_eq_nil_iff.2 fun v hm => by rw [(hasL_iff _ _).2 hm]; simp
  rw [e3, List.nil_append]
  exact List.filter_eq_self.2 fun v hm => by rw [take_drop_not hn r v hm]; rfl
 rw [e2, List.length_drop]
theorem bnd_vs {cs : List Cv} {q : List ByteArray} {pl K : List Nat} {r : Nat} (hv : ReadOk cs q (vsOf cs pl)) (hq : q.Nodup) (c : Nat) : bndB cs q (sortN (pl.take r)) K c = if c ∈ K then (comC cs q c, comC cs q c) else (lowC cs (vsOf cs pl) r c, bestC cs (vsOf cs pl) r c) := by
 unfold bndB bestC
 rw [low_vs hv hq, open_vs hv hq]
theorem cfM_lt {m1 m2 : Mh} {n1 d1 n2 d2 : Nat} (h1 : 0 < n1) (h2 : 0 < n2) (p1 : m1.p = n1 / Nat.gcd n1 d1) (q1 : m1.q = d1 / Nat.gcd n1 d1) (p2 : m2.p = n2 / Nat.gcd n2 d2) (q2 : m2.q = d2 / Nat.gcd n2 d2)
  (h : n2 * d1 < n1 * d2 ∨ (n2 * d1 = n1 * d2 ∧ rlt (m1.ta, m1.ca) (m2.ta, m2.ca) = true)) : cfM m1 m2 < 0 := by
 have a1 := red_le (n := n1) (d := d1) (m := n2) (e := d2) h1 h2
 have a2 := red_le (n := n2) (d := d2) (m := n1) (e := d1) h2 h1
 rw [← p1, ← q1, ← p2, ← q2] at a1 a2
 unfold cfM orY
 rcases h with h | ⟨h, hr⟩
 ·have e : Fr.sgn (m2.p * m1.q) (m1.p * m2.q) = -1 := Fr.sgn_lt (by omega)
  rw [e, if_pos (by decide)]
  decide
 ·have e : Fr.sgn (m2.p * m1.q) (m1.p * m2.q) = 0 := Fr.sgn_zero.2 (by omega)
  rw [e, if_neg (by decide)]
  rw [rlt_iffB] at hr
  simp only at hr
  rcases hr with hr | ⟨hr1, hr2⟩
  ·rw [Fr.isgn_lt hr, if_pos (by decide)]
   decide
  ·rw [Fr.isgn_eq hr1, if_neg (by decide), Fr.isgn_lt hr2]
   decide
theorem top_checks {den : Nat → Nat → Nat} {cs : List Cv} {q vs : List ByteArray} {S K : List Nat} {r k : Nat} {ds : List Mq} {kn : Nat → Nat × Nat} (hs : Sco q.length den) (hk : CvsOk cs) (hq : q.Nodup) (hv : ReadOk cs q vs) (hr : r ≤ vs.length) (hS : HitsOk den cs q S)
  (hof : HitsOf den cs (comC cs q) ds) (hcol : ds.map (colQ cs) = S.take k) (hkn : ∀ c, kn c = if c ∈ K then (comC cs q c, comC cs q c) else (lowC cs vs r c, bestC cs vs r c)) (hk0 : 0 < k)
  (hgood : GoodT den cs vs k r K ∨ r = vs.length) : folTopB cs den kn k ds = true := by
 have hlen : ds.length = min k S.length := by rw [← List.length_map (f := colQ cs), hcol, List.length_take]
 have hle := fun c => low_le_com (cs := cs) hv r c
 have hbe := fun c => com_le_best (cs := cs) hv hq r c
 have hbl := fun c => best_le (cs := cs) hv r c hr
 let P : Nat → Bool := fun c => decide (c ∈ K) || decide (bestC cs vs r c = lowC cs vs r c)
 have hP : ∀ c, P c = true → kn c = (comC cs q c, comC cs q c) := fun c h => by
  rw [hkn]
  by_cases hc : c ∈ K
  ·rw [if_pos hc]
  ·rw [if_neg hc]
   simp only [P, decide_eq_false hc, Bool.false_or, decide_eq_true_iff] at h
   have h1 := hle c
   have h2 := hbe c
   rw [show lowC cs vs r c = comC cs q c by omega, show bestC cs vs r c = comC cs q c by omega]
 have hPn : ∀ c, P c = false → c ∉ K ∧ bestC cs vs r c ≠ lowC cs vs r c := fun c h => by
  simp only [P, Bool.or_eq_false_iff, decide_eq_false_iff_not] at h
  exact h
 have hall : r = vs.length → ∀ c, P c = true := fun e c => by
  have h1 := low_all (cs := cs) hv hq c
  rw [← e] at h1
  simp only [P, Bool.or_eq_true, decide_eq_true_iff]
  right
  omega
 have hcert : ∀ c ∈ S.take k, P c = true := fun c hc => by
  rcases hgood with ⟨SS, g1, g2, g3, g4⟩ | e
  ·have h1 := top_early hs hv hq hS hr g1 g2 hk0 g3 P fun c h => g4 ▸ (hPn c h).1
   rw [← h1] at hc
   exact (List.mem_filter.1 (List.mem_of_mem_take hc)).2
  ·exact hall e c
 have hat : ∀ i, i < ds.length → ∃ c, (S.take k)[i]? = some c ∧ c ∈ S ∧ IsHit den cs (comC cs q) c (ds.getD i default).1 ∧ placeM cs (ds.getD i default).1 = (c : Int) ∧ P c = true := fun i hi => by
  have hm := getD_mem hi default
  have h1 := hof _ hm
  have h2 : (ds.map (colQ cs))[i]? = some (colQ cs (ds.getD i default)) := by simp [List.getD, hi]
  rw [hcol] at h2
  have h3 := List.mem_of_getElem? h2
  refine ⟨_, h2, List.mem_of_mem_take h3, h1, place_at hk h1.lt ?_, hcert _ h3⟩
  unfold refZ
  rw [h1.ta, h1.ca]
 have hpos : ∀ c ∈ S, c < cs.length ∧ 0 < comC cs q c := fun c hc => (hS.2 c).1 hc
 have hlast : ∀ (s : Nat) (m : Mh), s ∈ S → IsHit den cs (comC cs q) s m → ∀ c n, c < cs.length → 0 < n →
   (n * den (comC cs q s) (sizeC cs s) < comC cs q s * den n (sizeC cs c) ∨ (n * den (comC cs q s) (sizeC cs s) = comC cs q s * den n (sizeC cs c) ∧ s < c)) →
   cfM m ⟨(cs.getD c Cv.z).1.1, ((cs.getD c Cv.z).1.2 : Int), (none, 0), (none, 0), n / Nat.gcd n (den n (sizeC cs c)), den n (sizeC cs c) / Nat.gcd n (den n (sizeC cs c))⟩ < 0 := by
  intro s m hs1 hm c n hc hn h
  refine cfM_lt (hpos s hs1).2 hn hm.p hm.q rfl rfl ?_
  rcases h with h | ⟨h, hsc⟩
  ·exact .inl h
  ·refine .inr ⟨h, ?_⟩
   have h1 := cvs_up hk hc hsc
   unfold refZ at h1
   rw [hm.ta, hm.ca]
   exact h1
 unfold folTopB followB
 rw [Bool.and_eq_true, Bool.and_eq_true, decide_eq_true_iff]
 refine ⟨by omega, all_yes fun i hi => ?_, all_yes fun c hc => ?_⟩
 ·obtain ⟨c, hc1, hc2, hh, hpl, hPc⟩ := hat i hi
  have h1 := hP c hPc
  have h2 := hpos c hc2
  unfold hitOkB
  simp only [Bool.and_eq_true, Bool.or_eq_true, decide_eq_true_iff]
  rw [hpl, Int.toNat_natCast, h1]
  refine ⟨by omega, ?_, h2.2, rfl, ?_⟩
  ·by_cases h0 : i = 0
   ·exact .inl h0
   ·right
    obtain ⟨d, hd1, hd2, hh', hpl', -⟩ := hat (i - 1) (by omega)
    have h3 := hpos d hd2
    have h4 : befH den (sizeC cs) (comC cs q) d c := by
     have h5 := hS.1.sublist (List.take_sublist k S)
     obtain ⟨b1, e1⟩ := List.getElem?_eq_some_iff.1 hc1
     obtain ⟨b2, e2⟩ := List.getElem?_eq_some_iff.1 hd1
     have h6 := List.pairwise_iff_getElem.1 h5 (i - 1) i b2 b1 (by omega)
     rw [e1, e2] at h6
     exact h6
    refine cfM_lt h3.2 h2.2 hh'.p hh'.q hh.p hh.q ?_
    unfold befH at h4
    rcases h4 with h4 | ⟨h4, h5⟩
    ·exact .inl h4
    ·refine .inr ⟨h4, ?_⟩
     have h6 := cvs_up hk h2.1 h5
     unfold refZ at h6
     rw [hh'.ta, hh'.ca, hh.ta, hh.ca]
     exact h6
  ·simp only
   rw [hh.p, hh.q]
   exact Fr.sgn_zero.2 rfl
 ·unfold colOkB
  by_cases h0 : 0 < (kn c).2
  ·rw [decide_eq_true h0, Bool.not_true, Bool.false_or, Bool.or_eq_true]
   by_cases hin : c ∈ S.take k
   ·left
    rw [List.contains_iff_mem]
    rw [← hcol] at hin
    obtain ⟨x, hx, e⟩ := List.mem_map.1 hin
    have h1 := hof x hx
    refine List.mem_map.2 ⟨x, hx, ?_⟩
    rw [e] at h1
    refine place_at hk h1.lt ?_
    unfold refZ
    rw [h1.ta, h1.ca]
   ·right
    have main : k ≤ S.length ∧ ∃ s, (S.take k)[k - 1]? = some s ∧ ((kn c).2 * den (comC cs q s) (sizeC cs s) < comC cs q s * den (kn c).2 (sizeC cs c) ∨ ((kn c).2 * den (comC cs q s) (sizeC cs s) = comC cs q s * den (kn c).2 (sizeC cs c) ∧ s < c)) := by
     by_cases hPc : P c = true
     ·have h1 := hP c hPc
      rw [h1] at h0 ⊢
      simp only at h0 ⊢
      have h2 := (hS.2 c).2 ⟨hc, h0⟩
      obtain ⟨i, hi, e⟩ := List.getElem_of_mem h2
      have hik : k ≤ i := by
       rcases Nat.lt_or_ge i k with h3 | h3
       ·refine absurd (List.mem_of_getElem? (i := i) ?_) hin
        rw [List.getElem?_take, if_pos h3, List.getElem?_eq_getElem hi, e]
       ·exact h3
      refine ⟨by omega, S[k - 1], ?_, ?_⟩
      ·rw [List.getElem?_take, if_pos (by omega), List.getElem?_eq_getElem (by omega)]
      ·have h3 := List.pairwise_iff_getElem.1 hS.1 (k - 1) i (by omega) hi (by omega)
       rw [e] at h3
       exact h3
     ·have hPf : P c = false := by cases h : P c; rfl; exact absurd h hPc
      obtain ⟨hcK, hbn⟩ := hPn c hPf
      rcases hgood with ⟨SS, g1, g2, g3, g4⟩ | e
      ·have h1 := hkn c
       rw [if_neg hcK] at h1
       rw [h1] at h0 ⊢
       simp only at h0 ⊢
       have hkl : k - 1 < SS.length := by omega
       have e0 : SS.getD (k - 1) 0 = SS[k - 1] := by simp [List.getD, hkl]
       have hst : bestC cs vs r c * den (lowC cs vs r SS[k - 1]) (sizeC cs SS[k - 1]) < lowC cs vs r SS[k - 1] * den (bestC cs vs r c) (sizeC cs c) := by
        rw [g4, e0] at hcK
        unfold mayL at hcK
        rw [List.mem_filter] at hcK
        have h2 : ¬ (lowC cs vs r SS[k - 1] * den (bestC cs vs r c) (sizeC cs c) ≤ bestC cs vs r c * den (lowC cs vs r SS[k - 1]) (sizeC cs SS[k - 1])) := fun e => hcK ⟨List.mem_range.2 hc, by rw [decide_eq_true e, decide_eq_true h0]; rfl⟩
        omega
       have hdc : 0 < den (bestC cs vs r c) (sizeC cs c) := hs.pos _ _ h0 (hbl c).1 (hbl c).2
       have hT : ∀ t ∈ SS.take k, t ∈ S ∧ bestC cs vs r c * den (comC cs q t) (sizeC cs t) < comC cs q t * den (bestC cs vs r c) (sizeC cs c) := by
        intro t ht
        obtain ⟨ht1, ht2⟩ := g2 t (List.mem_of_mem_take ht)
        have h4 := hle t
        refine ⟨(hS.2 t).2 ⟨ht1, by omega⟩, ?_⟩
        have h5 : lowC cs vs r SS[k - 1] * den (lowC cs vs r t) (sizeC cs t) ≤ lowC cs vs r t * den (lowC cs vs r SS[k - 1]) (sizeC cs SS[k - 1]) := by
         obtain ⟨i, hi, e⟩ := List.getElem_of_mem ht
         rw [List.length_take] at hi
         rw [List.getElem_take] at e
         by_cases hik : i = k - 1
         ·subst hik
          rw [e]
          exact Nat.le_refl _
         ·have h3 := List.pairwise_iff_getElem.1 g1 i (k - 1) (by omega) hkl (by omega)
          rw [e] at h3
          unfold befH at h3
          omega
        have hk1 := g2 _ (List.getElem_mem hkl)
        have hkd : 0 < den (lowC cs vs r SS[k - 1]) (sizeC cs SS[k - 1]) := hs.pos _ _ hk1.2 (Nat.le_trans (hle _) (com_le_q _)) (Nat.le_trans (hle _) (com_le_size hq _))
        have htd : 0 < den (lowC cs vs r t) (sizeC cs t) := hs.pos _ _ ht2 (Nat.le_trans (hle _) (com_le_q _)) (Nat.le_trans (hle _) (com_le_size hq _))
        have h6 := hs.mono (lowC cs vs r t) (comC cs q t) (sizeC cs t) ht2 h4 (com_le_q t) (com_le_size hq t)
        have h7 : bestC cs vs r c * den (lowC cs vs r t) (sizeC cs t) < lowC cs vs r t * den (bestC cs vs r c) (sizeC cs c) := cross_ge_gt htd h5 hst
        exact cross_ge_gt (hs.pos _ _ (by omega) (com_le_q t) (com_le_size hq t)) h6 h7
       have hTn : (SS.take k).Nodup := (befH_nodup g1).sublist (List.take_sublist _ _)
       have hTl : (SS.take k).length = k := by rw [List.length_take]; omega
       have hSk : k ≤ S.length := by
        have h8 := nodup_leB hTn fun t ht => (hT t ht).1
        omega
       refine ⟨hSk, S[k - 1], ?_, .inl ?_⟩
       ·rw [List.getElem?_take, if_pos (by omega), List.getElem?_eq_getElem (by omega)]
       ·rcases Nat.lt_or_ge (bestC cs vs r c * den (comC cs q S[k - 1]) (sizeC cs S[k - 1])) (comC cs q S[k - 1] * den (bestC cs vs r c) (sizeC cs c)) with h8 | h8
        ·exact h8
        ·exfalso
         have hsub : ∀ t ∈ SS.take k, t ∈ S.take (k - 1) := by
          intro t ht
          obtain ⟨ht1, ht2⟩ := hT t ht
          obtain ⟨i, hi, e⟩ := List.getElem_of_mem ht1
          rcases Nat.lt_or_ge i (k - 1) with h9 | h9
          ·refine List.mem_of_getElem? (i := i) ?_
           rw [List.getElem?_take, if_pos h9, List.getElem?_eq_getElem hi, e]
          ·exfalso
           have h10 : comC cs q t * den (comC cs q S[k - 1]) (sizeC cs S[k - 1]) ≤ comC cs q S[k - 1] * den (comC cs q t) (sizeC cs t) := by
            by_cases hik : i = k - 1
            ·subst hik
             rw [e]
             exact Nat.le_refl _
            ·have h11 := List.pairwise_iff_getElem.1 hS.1 (k - 1) i (by omega) hi (by omega)
             rw [e] at h11
             unfold befH at h11
             omega
           have hsp := hpos _ (List.getElem_mem (show k - 1 < S.length by omega))
           have hsd : 0 < den (comC cs q S[k - 1]) (sizeC cs S[k - 1]) := hs.pos _ _ hsp.2 (com_le_q _) (com_le_size hq _)
           have h12 := cross_ge_gt hsd h10 ht2
           omega
         have h9 := nodup_leB hTn hsub
         rw [hTl, List.length_take] at h9
         omega
      ·exact absurd (hall e c) hPc
    obtain ⟨hkS, s, hs1, hs2⟩ := main
    have hkd : ds.length = k := by omega
    obtain ⟨s', e1, e2, hh, -, -⟩ := hat (k - 1) (by omega)
    rw [hs1] at e1
    obtain rfl := Option.some.inj e1
    show othK k ds (cs.getD c Cv.z).1.1 ((cs.getD c Cv.z).1.2 : Int) ((kn c).2 / Nat.gcd (kn c).2 (den (kn c).2 (sizeC cs c))) (den (kn c).2 (sizeC cs c) / Nat.gcd (kn c).2 (den (kn c).2 (sizeC cs c))) = true
    unfold othK
    rw [decide_eq_true hkd, Bool.true_and, Bool.or_eq_true]
    right
    exact decide_eq_true (hlast s _ e2 hh c _ hc h0 hs2)
  ·rw [decide_eq_false h0]
   rfl
theorem top_checks0 (den : Nat → Nat → Nat) (cs : List Cv) (kn : Nat → Nat × Nat) : folTopB cs den kn 0 [] = true := by
 unfold folTopB followB
 rw [Bool.and_eq_true, Bool.and_eq_true]
 refine ⟨rfl, rfl, all_yes fun c _ => ?_⟩
 unfold colOkB othK
 simp
end Go.Proofs.YtikiimlmoalbcaaGreatDoor

namespace Go.Proofs.YtikiimlmoalbcaaGreatDoor
open Go.RowKit
theorem inN_none (w : World) (S : Nat → Prop) (a : Option Addr) : InN w S (.slice a 0 0) [] := ⟨a, 0, rfl, Nat.le_refl _, by unfold maxLen; omega, fun h => absurd h (by simp)⟩
theorem cert_R {den : Nat → Nat → Nat} {cs : List Cv} {q : List ByteArray} {k B : Nat} {W : World} {la ca : Option Addr} {ln lc cn cc : Nat} (hs : Sco q.length den) (hk : CvsOk cs) (hq : q.Nodup) (hql : q.length ≤ 1048576)
  (h : CertE (k = 0 ∧ ln = 0 ∧ lc = 0 ∧ cn = 0 ∧ cc = 0) cs q (fun vs r cols => GoodT den cs vs k r cols) B W (.slice la ln lc) (.slice ca cn cc)) :
  ∃ L K, CertR W cs (.slice la ln lc) (.slice ca cn cc) L K ∧ ∀ (S : List Nat) (ds : List Mq), HitsOk den cs q S → HitsOf den cs (comC cs q) ds → ds.map (colQ cs) = S.take k → folTopB cs den (bndB cs q L K) k ds = true := by
 have h0 : ∀ (S : List Nat) (ds : List Mq) (kn : Nat → Nat × Nat), ds.map (colQ cs) = S.take 0 → folTopB cs den kn 0 ds = true := fun S ds kn e => by
  have e1 : ds = [] := List.map_eq_nil_iff.1 (by rw [e]; rfl)
  subst e1
  exact top_checks0 den cs kn
 rcases h with ⟨rfl, rfl, rfl, rfl, rfl⟩ | ⟨pl, r, cols, h1, h2, h3, h4, h5, h6⟩
 ·exact ⟨[], [], ⟨inN_none _ _ _, inN_none _ _ _, List.Pairwise.nil, List.Pairwise.nil, fun _ h => absurd h (by simp), fun _ h => absurd h (by simp), by simp⟩, fun S ds _ _ e => h0 S ds _ e⟩
 ·have hvn := vs_nodup h2 hq
  have hpn : pl.Nodup := by
   unfold vsOf List.Nodup at hvn
   rw [List.pairwise_map] at hvn
   exact hvn.imp fun hab e => hab (by rw [e])
  have hsn : (sortN (pl.take r)).Nodup := (sortN_perm _).nodup_iff.2 (hpn.sublist (List.take_sublist _ _))
  have hvl : (vsOf cs pl).length = pl.length := List.length_map ..
  have hvq := vs_le h2
  refine ⟨sortN (pl.take r), cols, ⟨InK.more h4 fun k hk => hk.2, InK.more h5.mem fun k hk => hk.2, ?_, ?_, fun x hx => ?_, h5.lt, ?_⟩, fun S ds hS hof hcol => ?_⟩
  ·exact ((sortN_up (pl.take r)).and hsn).imp fun {a b} hab => by have := hab.1; have := hab.2; omega
  ·rcases h6 with ⟨SS, -, -, -, g4⟩ | ⟨-, g4⟩
   ·rw [g4]
    exact List.pairwise_lt_range.sublist List.filter_sublist
   ·rw [g4]
    exact List.Pairwise.nil
  ·have hx1 := List.mem_of_mem_take ((sortN_perm _).mem_iff.1 hx)
   obtain ⟨j, hj, rfl⟩ := List.getElem_of_mem hx1
   have h7 := h1 j hj
   rw [← List.getElem_eq_getD (h := hj)] at h7
   exact h7
  ·rw [(sortN_perm _).length_eq, List.length_take]
   omega
  ·by_cases hk0 : 0 < k
   ·exact top_checks hs hk hq h2 (by rw [hvl]; exact h3) hS hof hcol (fun c => bnd_vs h2 hq c) hk0 (h6.imp id fun h => by rw [hvl]; exact h.1)
   ·obtain rfl : k = 0 := by omega
    exact h0 S ds _ hcol
end Go.Proofs.YtikiimlmoalbcaaGreatDoor

namespace Go.Proofs.YtikiimlmoalbcaaGreatDoor
open Go.RowKit
def sA : ByteArray := ⟨#[97]⟩
def sB : ByteArray := ⟨#[98]⟩
def sC : ByteArray := ⟨#[99]⟩
def q19 : List ByteArray := [sA, sB, sC]
def c19a : Cv := ((0, 0), q19)
def c19b : Cv := ((0, 1), [sC])
def cs19 : List Cv := [c19a, c19b]
theorem put19a : putL [] (putK [] c19a) c19a = [c19a] := rfl
theorem put19b : putL [c19a] (putK [c19a] c19b) c19b = cs19 := by decide +kernel
theorem asc19 : Asc q19 := by unfold Asc q19; decide +kernel
theorem asc19c : Asc [sC] := List.pairwise_singleton _ _
theorem ok19n : CvsOk [] := ⟨List.Pairwise.nil, fun _ h => absurd h (by simp), fun _ h => absurd h (by simp), fun _ h => absurd h (by simp), by simp⟩
theorem ok19a : CvsOk [c19a] := by
 have h := put_ok ok19n (c := c19a) (fun _ h => absurd h (by simp)) (by decide) asc19 (by decide) (by decide)
 rwa [put19a] at h
theorem ok19 : CvsOk cs19 := by
 have h := put_ok ok19a (c := c19b) (fun x hx => by rw [List.mem_singleton.1 hx]; decide) (by decide) asc19c (by decide) (by decide)
 rwa [put19b] at h
theorem com19 : comC cs19 q19 0 = 3 ∧ comC cs19 q19 1 = 1 := by decide +kernel
theorem vals19 : setOfL (allOf cs19) = q19 := by decide +kernel
theorem bnd19 : bndB cs19 q19 [0, 1] [] 1 = (0, 1) := by decide +kernel
theorem hits19 : HitsOk den1 cs19 q19 [0, 1] := by
 refine ⟨List.pairwise_pair.2 ?_, fun c => ⟨fun h => ?_, fun h => ?_⟩⟩
 ·unfold befH den1
  rw [com19.1, com19.2]
  left; omega
 ·simp at h
  rcases h with rfl | rfl
  ·exact ⟨by decide, by rw [com19.1]; omega⟩
  ·exact ⟨by decide, by rw [com19.2]; omega⟩
 ·have h1 : c < 2 := h.1
  simp
  omega
theorem vs19 : vsOf cs19 [0, 1, 2] = q19 := by decide +kernel
theorem read19 : ReadOk cs19 q19 (vsOf cs19 [0, 1, 2]) := by
 have e : q19.filter (hasL (setOfL (allOf cs19))) = q19 := by decide +kernel
 unfold ReadOk
 rw [e, vs19]
theorem srt19 : sortN (([0, 1, 2] : List Nat).take 2) = [0, 1] := by
 unfold sortN
 exact List.mergeSort_of_pairwise (by decide)
theorem good19 : GoodT den1 cs19 (vsOf cs19 [0, 1, 2]) 1 2 [0] := by
 refine ⟨[0], List.pairwise_singleton _ _, fun c hc => ?_, by decide, ?_⟩
 ·rw [List.mem_singleton.1 hc]
  decide +kernel
 ·decide +kernel
theorem nd19 : q19.Nodup := asc_nodupB asc19
theorem check19 {ds : List Mq} (hof : HitsOf den1 cs19 (comC cs19 q19) ds) (hcol : ds.map (colQ cs19) = [0]) : checkB cs19 q19 [0, 1] [0] 1 ds = true := by
 unfold checkB
 have h := fun c => bnd_vs (K := [0]) (r := 2) read19 nd19 c
 rw [srt19] at h
 exact top_checks (overlap_sco q19.length) ok19 nd19 read19 (by decide) hits19 hof (by rw [hcol]; rfl) h (by omega) (.inl good19)
end Go.Proofs.YtikiimlmoalbcaaGreatDoor

namespace Go.Proofs.YtikiimlmoalbcaaGreatDoor
open Go.RowKit
theorem inS_of_rds {w : World} {B : Nat} {v : Value} {xs : List ByteArray} (h : RdS w B v xs) : InS w (· < B) v xs := by
 obtain ⟨a, c, e, h1, h2, h3⟩ := h
 refine ⟨a, c, e, h1, h2, fun hp => ?_⟩
 obtain ⟨b, o, e2, hb, hc⟩ := h3 hp
 refine ⟨b, o, e2, hb, fun i hi j hj => ?_⟩
 obtain rfl : j = 0 := by omega
 have h4 := hc i hi
 simp [h4]
theorem lit_own {w : World} {xs : List Value} {n : Nat} {t : TypeId} (hn : xs.length = n) (hp : n ≤ 16) : (w.alloc (.cells xs.toArray t)).ownsRow w.heap.size t 1 (.slice (some ⟨w.heap.size, 0, none⟩) n n) n xs := by
 refine ⟨by rw [Nat.mul_one]; exact hn, .inr ⟨w.heap.size, n, xs.toArray, rfl, Nat.le_refl _, heap_alloc_new w _, Nat.le_refl _, by unfold maxLen; omega, by simp [hn], ?_⟩⟩
 rw [Nat.mul_one, ← hn]
 simp
theorem lit_q {w : World} : InS (w.alloc (.cells #[.string sA, .string sB, .string sC] 9)) (· < (w.alloc (.cells #[.string sA, .string sB, .string sC] 9)).heap.size) (.slice (some ⟨w.heap.size, 0, none⟩) 3 3) q19 :=
 inS_of_rds (rdS_of_own (xs := q19) (lit_own (w := w) (xs := [.string sA, .string sB, .string sC]) (n := 3) (t := 9) rfl (by omega)))
theorem lit_c {w : World} : InS (w.alloc (.cells #[.string sC] 9)) (· < (w.alloc (.cells #[.string sC] 9)).heap.size) (.slice (some ⟨w.heap.size, 0, none⟩) 1 1) [sC] :=
 inS_of_rds (rdS_of_own (xs := [sC]) (lit_own (w := w) (xs := [.string sC]) (n := 1) (t := 9) rfl (by omega)))
theorem rdIx_nil (w : World) (S : Nat → Prop) : RdIx w S (.slice none 0 0) (.slice none 0 0) (.slice none 0 0) (indexOf []) := by
 have h1 : (indexOf []).ents = [] := rfl
 have h2 : (indexOf []).vals = [] := rfl
 have h3 : (indexOf []).lists = [] := rfl
 refine ⟨?_, ?_, fun _ => .bool false, ?_, fun i hi => ?_⟩
 ·rw [h1]; exact InK.nil
 ·rw [h2]; exact InK.nil
 ·rw [h3]; exact InK.nil
 ·rw [h3] at hi; exact absurd hi (by simp)
theorem lit_n {w : World} {xs : List Nat} {n : Nat} (hn : xs.length = n) (hp : n ≤ 16) : InN (w.alloc (.cells (natsV xs).toArray 3)) (· < (w.alloc (.cells (natsV xs).toArray 3)).heap.size) (.slice (some ⟨w.heap.size, 0, none⟩) n n) xs := by
 have h := own_in (lit_own (w := w) (xs := natsV xs) (n := n) (t := 3) (by simp [natsV, hn]) hp) hn.symm
 exact InK.more h fun k hk => hk.2
theorem okF31 : Fr.OkF false 3 1 where
 pos := by omega
 low := by decide
 sign := fun _ => rfl
 num := Fr.small_pow (by omega)
 den := Fr.small_pow (by omega)
set_option maxRecDepth 100000 in
set_option maxHeartbeats 8000000 in
theorem law19_sane (w : World) (ho : Fr.OneAt w) : Calls Tryz.prog 18 #[] w (Ret w (.bool true)) := by
 have HO := hid ho
 clear ho
 go_enter Tryz.func18, Tryz.ntmps18
 go_wp2_with fail
 with_reducible refine (ref18_New _).mono ?_
 rintro e w1 ⟨rfl, hb1⟩
 have HB1 := hid (hb1.alloc hb1.size (.cells #[.string ⟨#[97]⟩, .string ⟨#[98]⟩, .string ⟨#[99]⟩] 9))
 have HA1 := ref18_Add [] ok19n (.slice none 0 0) (.slice none 0 0) (.slice none 0 0) (.slice (some ⟨w1.heap.size, 0, none⟩) 3 3) 0 0 q19 (w1.alloc (.cells #[.string ⟨#[97]⟩, .string ⟨#[98]⟩, .string ⟨#[99]⟩] 9)) (rdIx_nil _ _) lit_q asc19 (by decide) (by omega) (by omega) (fun _ h => absurd h (by simp)) (by decide)
 rw [show ((0, 0), q19) = c19a from rfl, put19a, show ((0 : Nat) : Int) = 0 from rfl] at HA1
 have HA1 := hid HA1
 clear hb1
 go_wp2_with fail
 with_reducible refine HA1.out.mono ?_
 rintro e w2 ⟨ev2, vv2, lv2, rfl, hrx2, hb2⟩
 obtain ⟨ea2, ec2, rfl, -⟩ := id hrx2.ents
 obtain ⟨va2, vc2, rfl, -⟩ := id hrx2.vals
 obtain ⟨lf2, ⟨la2, lc2, rfl, -⟩, -⟩ := id hrx2.lists
 have HB2 := hid (HB1.out.trans (hb2.mono HB1.out.size))
 have hrx2 := hrx2.more (S' := fun k => k < w2.heap.size) fun k hk => hk.2
 generalize (indexOf [c19a]).ents.length = n1 at *
 generalize (indexOf [c19a]).vals.length = n2 at *
 generalize (indexOf [c19a]).lists.length = n3 at *
 have HX3 := hid (BoxN.new w2 #[.slice ea2 n1 ec2, .slice va2 n2 vc2, .slice la2 n3 lc2] 30)
 have HB3 := hid (HB2.out.alloc HB2.out.size (.cells #[.slice ea2 n1 ec2, .slice va2 n2 vc2, .slice la2 n3 lc2] 30))
 have hrx3 := (hrx2.keep (w' := w2.alloc (.cells #[.slice ea2 n1 ec2, .slice va2 n2 vc2, .slice la2 n3 lc2] 30)) fun p hp => World.cell?_alloc_lt _ _ _ hp).more (S' := fun k => k < (w2.alloc (.cells #[.slice ea2 n1 ec2, .slice va2 n2 vc2, .slice la2 n3 lc2] 30)).heap.size) fun k hk => (by rw [World.size_alloc]; omega)
 have x0 := HX3.out.cell 0 rfl
 have x1 := HX3.out.cell 1 rfl
 have x2 := HX3.out.cell 2 rfl
 obtain ⟨w3, hw3⟩ : ∃ V, V = w2.alloc (.cells #[.slice ea2 n1 ec2, .slice va2 n2 vc2, .slice la2 n3 lc2] 30) := ⟨_, rfl⟩
 rw [← hw3] at HX3 HB3 hrx3 x0 x1 x2
 have HA2 := ref18_Add [c19a] ok19a (.slice ea2 n1 ec2) (.slice va2 n2 vc2) (.slice la2 n3 lc2) (.slice (some ⟨w3.heap.size, 0, none⟩) 1 1) 0 1 [sC] (w3.alloc (.cells #[.string ⟨#[99]⟩] 9)) ((hrx3.keep fun p hp => World.cell?_alloc_lt _ _ _ hp).more fun k hk => (show k < _ by rw [World.size_alloc]; omega)) lit_c asc19c (by decide) (by omega) (by omega) (fun x hx => by rw [List.mem_singleton.1 hx]; decide) (by decide)
 rw [show ((0, 1), [sC]) = c19b from rfl, put19b, show ((1 : Nat) : Int) = 1 from rfl] at HA2
 have HA2 := hid HA2
 have HB3c := hid (HB3.out.alloc HB3.out.size (.cells #[.string ⟨#[99]⟩] 9))
 have HX3c := hid (HX3.out.alloc (.cells #[.string ⟨#[99]⟩] 9))
 clear HA1 hb2 hrx2 hrx3
 go_upto_region 2 with fail
 rw [← hw3]
 clear hw3
 go_wp2_with fail
 with_reducible refine HA2.out.mono ?_
 rintro e w4 ⟨ev4, vv4, lv4, rfl, hrx4, hb4⟩
 obtain ⟨ea, ec, rfl, -⟩ := id hrx4.ents
 obtain ⟨va, vc, rfl, -⟩ := id hrx4.vals
 obtain ⟨lf4, ⟨la, lc, rfl, -⟩, -⟩ := id hrx4.lists
 have HB4 := hid (HB3c.out.trans (hb4.mono HB3c.out.size))
 have hX4 := HX3c.out.below hb4 HX3c.out.lt
 have HRX4 := hid hrx4
 generalize (indexOf cs19).ents.length = m1 at *
 generalize (indexOf cs19).vals.length = m2 at *
 generalize (indexOf cs19).lists.length = m3 at *
 have HX4 := hid hX4
 have f0 := hX4.frozen 0
 have f1 := hX4.frozen 1
 have f2 := hX4.frozen 2
 clear x0 x1 x2 hX4 hrx4 hb4
 have x0 := HX4.out.cell 0 rfl
 have x1 := HX4.out.cell 1 rfl
 have x2 := HX4.out.cell 2 rfl
 have hkx : w2.heap.size < w4.heap.size := HX4.out.lt
 obtain ⟨kx, hkxe⟩ : ∃ k, k = w2.heap.size := ⟨_, rfl⟩
 have hkw : w.heap.size ≤ kx := by rw [hkxe]; exact HB2.out.size
 have hk3 : kx < w3.heap.size := by rw [hkxe]; exact HX3.out.lt
 rw [← hkxe] at HX4 f0 f1 f2 x0 x1 x2 hkx ⊢
 clear hkxe
 go_upto_region 3 with fail
 have HX5 := hid (((HX4.out.set 0 (.slice ea m1 ec)).set 1 (.slice va m2 vc)).set 2 (.slice la m3 lc))
 have HB5 := hid (((HB4.out.setCell (p := ⟨kx, 0, none⟩) hkw (.slice ea m1 ec)).setCell (p := ⟨kx, 1, none⟩) hkw (.slice va m2 vc)).setCell (p := ⟨kx, 2, none⟩) hkw (.slice la m3 lc))
 have HRX5 := hid ((HRX4.out.keep (w' := (((w4.setCell ⟨kx, 0, none⟩ (.slice ea m1 ec)).setCell ⟨kx, 1, none⟩ (.slice va m2 vc)).setCell ⟨kx, 2, none⟩ (.slice la m3 lc))) fun p hp => World.cell?_of_block (by
  have h5 : kx < p.block := by have h6 := hp.1; rw [World.size_alloc] at h6; omega
  exact (Below.heap_setCell _ _ _ _ (by show p.block ≠ kx; omega)).trans ((Below.heap_setCell _ _ _ _ (by show p.block ≠ kx; omega)).trans (Below.heap_setCell _ _ _ _ (by show p.block ≠ kx; omega))))).more (S' := fun k => k < w4.heap.size) fun k hk => hk.2)
 have hsz : (((w4.setCell ⟨kx, 0, none⟩ (.slice ea m1 ec)).setCell ⟨kx, 1, none⟩ (.slice va m2 vc)).setCell ⟨kx, 2, none⟩ (.slice la m3 lc)).heap.size = w4.heap.size := by simp
 rw [← hsz] at HRX5
 clear x0 x1 x2 f0 f1 f2
 generalize ((w4.setCell ⟨kx, 0, none⟩ (.slice ea m1 ec)).setCell ⟨kx, 1, none⟩ (.slice va m2 vc)).setCell ⟨kx, 2, none⟩ (.slice la m3 lc) = w5 at *
 have HRX6 := (HRX5.out.keep (w' := w5.alloc (.cells #[.string ⟨#[97]⟩, .string ⟨#[98]⟩, .string ⟨#[99]⟩] 9)) fun p hp => World.cell?_alloc_lt _ _ _ hp).more (S' := fun k => k < (w5.alloc (.cells #[.string ⟨#[97]⟩, .string ⟨#[98]⟩, .string ⟨#[99]⟩] 9)).heap.size) fun k hk => (by rw [World.size_alloc]; omega)
 have HIN := hid (show SrcIn (w5.alloc (.cells #[.string ⟨#[97]⟩, .string ⟨#[98]⟩, .string ⟨#[99]⟩] 9)) cs19 q19 (.slice ea m1 ec) (.slice va m2 vc) (.slice la m3 lc) (.slice (some ⟨w5.heap.size, 0, none⟩) 3 3) from
  ⟨ok19, HRX6, rdS_of_own (xs := q19) (lit_own (w := w5) (xs := [.string ⟨#[97]⟩, .string ⟨#[98]⟩, .string ⟨#[99]⟩]) (n := 3) (t := 9) rfl (by omega)), asc19, by decide⟩)
 have HB6 := hid (HB5.out.alloc HB5.out.size (.cells #[.string ⟨#[97]⟩, .string ⟨#[98]⟩, .string ⟨#[99]⟩] 9))
 have HX6 := hid (HX5.out.alloc (.cells #[.string ⟨#[97]⟩, .string ⟨#[98]⟩, .string ⟨#[99]⟩] 9))
 clear HRX6 HRX5 hsz HA2
 go_upto_region 4 with fail
 obtain ⟨kq, hkq⟩ : ∃ k, k = w5.heap.size := ⟨_, rfl⟩
 obtain ⟨w6, hw6⟩ : ∃ V, V = w5.alloc (.cells #[.string ⟨#[97]⟩, .string ⟨#[98]⟩, .string ⟨#[99]⟩] 9) := ⟨_, rfl⟩
 rw [← hw6, ← hkq] at HIN ⊢
 rw [← hw6] at HB6 HX6
 clear hw6 hkq
 have x0 := HX6.out.cell 0 rfl
 have x1 := HX6.out.cell 1 rfl
 have x2 := HX6.out.cell 2 rfl
 have HTOP := hid (over_Top HIN.out 1 (by omega) (HO.out.below HB6.out))
 rw [show ((1 : Nat) : Int) = 1 from rfl] at HTOP
 go_wp2_with fail
 with_reducible refine HTOP.out.mono ?_
 rintro e w7 ⟨v1, c1, H1, ds, l1, k1, ln1, lc1, cn1, cc1, rfl, hrd1, hall1, hce1, hb7⟩
 have hH1 : H1 = [0] := hall1 _ hits19
 have hl1 : ds.length = 1 := by rw [hrd1.len, hH1]; rfl
 rw [hH1] at hrd1
 have HB7 := hid (HB6.out.trans (hb7.mono HB6.out.size))
 have HR7 := hid hrd1
 have HCE7 := hid hce1
 have HIN7 := hid (HIN.out.later hb7)
 have HX7 := hid (HX6.out.below hb7 HX6.out.lt)
 have HDS := hid hl1
 rw [hl1]
 clear hH1 hrd1 hall1 hce1 hb7 hl1 x0 x1 x2 HTOP
 go_upto_region 5 with fail
 have HBC := hid ((Below.refl w7.heap.size w7).alloc (Nat.le_refl _) (.cells #[.slice l1 ln1 lc1, .slice k1 cn1 cc1] 36))
 have HK8 := hid (BoxN.new w7 #[.slice l1 ln1 lc1, .slice k1 cn1 cc1] 36)
 obtain ⟨kc, hkc⟩ : ∃ k, k = w7.heap.size := ⟨_, rfl⟩
 obtain ⟨w8, hw8⟩ : ∃ V, V = w7.alloc (.cells #[.slice l1 ln1 lc1, .slice k1 cn1 cc1] 36) := ⟨_, rfl⟩
 rw [← hw8] at HBC HK8 ⊢
 rw [← hkc] at HK8 ⊢
 clear hw8 hkc
 have HB8 := hid (HB7.out.trans (HBC.out.mono HB7.out.size))
 have HR8 := hid (HR7.out.later HBC.out)
 have HCE8 := hid (HCE7.out.later HBC.out)
 have HIN8 := hid (HIN7.out.later HBC.out)
 have HX8 := hid (HX7.out.below HBC.out HX7.out.lt)
 clear HR7 HCE7 HIN7 HX7 HB7
 have HN9 := hid (lit_n (w := w8) (xs := [0, 1]) (n := 2) rfl (by omega))
 have HB89 := hid ((Below.refl w8.heap.size w8).alloc (Nat.le_refl _) (.cells #[.int .i64 0, .int .i64 1] 3))
 have HBO := hid (over_Bounds (w := w8.alloc (.cells #[.int .i64 0, .int .i64 1] 3)) (HIN8.out.later HB89.out) (L := [0, 1]) (K := []) (zlv := .slice (some ⟨w8.heap.size, 0, none⟩) 2 2) (zcv := .slice none 0 0) ⟨HN9.out, inN_none _ _ _, by decide, List.Pairwise.nil, by rw [vals19]; decide, fun _ h => absurd h (by simp), by decide⟩ 1 (by decide))
 rw [bnd19, show ((1 : Nat) : Int) = 1 from rfl, show ((0 : Nat) : Int) = 0 from rfl] at HBO
 have x0 := HX8.out.cell 0 rfl
 have x1 := HX8.out.cell 1 rfl
 have x2 := HX8.out.cell 2 rfl
 go_wp2_with fail
 with_reducible refine HBO.out.mono ?_
 rintro e w10 ⟨rfl, hb10⟩
 have HB810 := hid (HB89.out.trans (hb10.mono HB89.out.size))
 have HB10 := hid (HB8.out.trans (HB810.out.mono HB8.out.size))
 have HR10 := hid (HR8.out.later HB810.out)
 have HCE10 := hid (HCE8.out.later HB810.out)
 have HIN10 := hid (HIN8.out.later HB810.out)
 have HX10 := hid (HX8.out.below HB810.out HX8.out.lt)
 have HK10 := hid (HK8.out.below HB810.out HK8.out.lt)
 clear hb10 x0 x1 x2 HBO HN9 HB89 HB8 HR8 HCE8 HIN8 HX8 HK8
 obtain ⟨x, hx⟩ : ∃ x, ds = [x] := by
  have h := HDS.out
  match ds, h with
  | [x], _ => exact ⟨x, rfl⟩
 subst hx
 obtain ⟨b1, o1, cc, e1, -, hcell⟩ := hit_at HR10.out.mem (p := 0) (by simp)
 obtain ⟨rfl, -, rfl⟩ := Value.slice.inj e1
 have hrd := HR10.out.rd x (by simp)
 have hof := HR10.out.of
 have hcols := HR10.out.cols
 have HOFC : Hid (HitsOf den1 cs19 (comC cs19 q19) [x] ∧ [x].map (colQ cs19) = [0]) := hid ⟨hof, hcols⟩
 have hi := hof x (by simp)
 have hc0 : colQ cs19 x = 0 := by simpa using hcols
 rw [hc0] at hi
 have hp : x.1.p = 3 := by rw [hi.p, com19.1]; rfl
 have hq : x.1.q = 1 := by rw [hi.q, com19.1]; rfl
 have HTX : Hid (∀ W, Below w10.heap.size w10 W → Calls Tryz.prog 47 #[x.1.fr] W (Ret W (.string ⟨#[51]⟩))) := hid (fun W hW => by
  have h1 := hrd.kept hW
  rw [hp, hq] at h1
  have h := Fr.ref_Text1 _ 3 1 W h1 okF31 (by omega) (by omega)
  rw [show Fr.ftext 3 1 = ⟨#[51]⟩ by decide +kernel] at h
  exact h)
 obtain ⟨L, K, hct, hchk⟩ := cert_R (den := den1) (overlap_sco q19.length) ok19 nd19 (by decide) HCE10.out
 have HCT := hid hct
 have hck1 := hchk [0, 1] [x] hits19 hof hcols
 have hck2 := check19 hof hcols
 have HCK1 : Hid (∀ W, Below w10.heap.size w10 W → Calls Tryz.prog 31 #[.agg #[.slice ea m1 ec, .slice va m2 vc, .slice la m3 lc], .slice (some ⟨kq, 0, none⟩) 3 3, .int .i64 1, .slice (some ⟨b1, o1, none⟩) 1 c1, .agg #[.slice l1 ln1 lc1, .slice k1 cn1 cc1]] W (Ret W (.bool true))) := hid (fun W hW => by
  have h := over_Check (HIN10.out.later hW) (HCT.out.later hW) ((HR10.out.later hW).ms (by simp)) 1 (by omega) (HO.out.below (HB10.out.trans (hW.mono HB10.out.size)))
  rw [show checkB cs19 q19 L K 1 [x] = true from hck1] at h
  exact h)
 have HCK2 : Hid (∀ W, Below w10.heap.size w10 W → Calls Tryz.prog 31 #[.agg #[.slice ea m1 ec, .slice va m2 vc, .slice la m3 lc], .slice (some ⟨kq, 0, none⟩) 3 3, .int .i64 1, .slice (some ⟨b1, o1, none⟩) 1 c1, .agg #[.slice (some ⟨W.heap.size, 0, none⟩) 2 2, .slice (some ⟨W.heap.size + 1, 0, none⟩) 1 1]]
   ((W.alloc (.cells #[.int .i64 0, .int .i64 1] 3)).alloc (.cells #[.int .i64 0] 3)) (Ret ((W.alloc (.cells #[.int .i64 0, .int .i64 1] 3)).alloc (.cells #[.int .i64 0] 3)) (.bool true))) := hid (fun W hW => by
  have hW2 := (hW.alloc hW.size (.cells #[.int .i64 0, .int .i64 1] 3)).alloc (hW.alloc hW.size _).size (.cells #[.int .i64 0] 3)
  have n1 := lit_n (w := W) (xs := [0, 1]) (n := 2) rfl (by omega)
  have n2 := lit_n (w := W.alloc (.cells #[.int .i64 0, .int .i64 1] 3)) (xs := [0]) (n := 1) rfl (by omega)
  simp only [World.size_alloc] at n2
  have n3 := InK.more (InK.keep (w' := (W.alloc (.cells #[.int .i64 0, .int .i64 1] 3)).alloc (.cells #[.int .i64 0] 3)) n1 fun p hp => World.cell?_alloc_lt _ _ _ hp) (S' := fun k => k < ((W.alloc (.cells #[.int .i64 0, .int .i64 1] 3)).alloc (.cells #[.int .i64 0] 3)).heap.size) fun k hk => (by rw [World.size_alloc]; exact Nat.lt_succ_of_lt hk)
  have h := over_Check (L := [0, 1]) (K := [0]) (zcv := .slice (some ⟨W.heap.size + 1, 0, none⟩) 1 1) (HIN10.out.later hW2) ⟨n3, by simp only [World.size_alloc]; exact n2, by decide, by decide, by rw [vals19]; decide, by decide, by decide⟩ ((HR10.out.later hW2).ms (by simp)) 1 (by omega) (HO.out.below (HB10.out.trans (hW2.mono HB10.out.size)))
  rw [show checkB cs19 q19 [0, 1] [0] 1 [x] = true from hck2] at h
  exact h)
 have e0 : [x].getD 0 default = x := rfl
 rw [e0] at hcell
 clear hck1 hck2 hct hchk hof hcols hi hrd hc0 hp hq e0 e1 HR10 HCE10 HIN10 HOFC HCT HDS
 unfold Mh.fr at HTX
 generalize x.1 = y at *
 obtain ⟨ta, ca, ⟨na, nc⟩, ⟨da, dc⟩, P, Q⟩ := y
 have k2 : w10.cell? ⟨b1, o1 + 2, none⟩ = some (.bool false) := by have h := hcell 2 (by omega); simpa [encM] using h
 have k3 : w10.cell? ⟨b1, o1 + 3, none⟩ = some (.slice na (Fr.dig P).length nc) := by have h := hcell 3 (by omega); simpa [encM] using h
 have k4 : w10.cell? ⟨b1, o1 + 4, none⟩ = some (.bool false) := by have h := hcell 4 (by omega); simpa [encM] using h
 have k5 : w10.cell? ⟨b1, o1 + 5, none⟩ = some (.slice da (Fr.dig Q).length dc) := by have h := hcell 5 (by omega); simpa [encM] using h
 clear hcell
 simp only at HTX
 go_wp2_with fail
 with_reducible refine (HTX.out _ (Below.refl _ _)).mono ?_
 rintro e w11 ⟨rfl, hb11⟩
 have HB11 := hid hb11
 have hx11 := HX10.out.below hb11 HX10.out.lt
 have hk11 := HK10.out.below hb11 HK10.out.lt
 have x0 := hx11.cell 0 rfl
 have x1 := hx11.cell 1 rfl
 have x2 := hx11.cell 2 rfl
 have y0 := hk11.cell 0 rfl
 have y1 := hk11.cell 1 rfl
 clear hb11 hx11 hk11 k2 k3 k4 k5
 go_wp2_with fail
 with_reducible refine (HCK1.out _ HB11.out).mono ?_
 rintro e w12 ⟨rfl, hb12⟩
 have HB12 := hid (HB11.out.trans (hb12.mono HB11.out.size))
 have hx12 := HX10.out.below HB12.out HX10.out.lt
 clear x0 x1 x2 y0 y1 hb12
 have x0 := hx12.cell 0 rfl
 have x1 := hx12.cell 1 rfl
 have x2 := hx12.cell 2 rfl
 clear hx12
 have HBE := hid (HB10.out.trans (HB12.out.mono HB10.out.size))
 have HBF := hid ((HBE.out.alloc HBE.out.size (.cells #[.int .i64 0, .int .i64 1] 3)).alloc (HBE.out.alloc HBE.out.size _).size (.cells #[.int .i64 0] 3))
 go_wp2_with fail
 with_reducible refine (HCK2.out _ HB12.out).mono ?_
 rintro e w13 ⟨rfl, hb13⟩
 have HBG := hid (HBF.out.trans (hb13.mono HBF.out.size))
 clear hb13
 go_wp2
 go_ret
 exact ⟨rfl, HBG.out⟩
end Go.Proofs.YtikiimlmoalbcaaGreatDoor
