/- Plain: what a search over an index knows behind some lists; the first hits (chapters 19, 20). No program in sight. Contracts of bounded.begin$1 (lists are compared by their lengths) and of (*search).best. Contracts of fraction.Of at 0 / 0 and of containment's score, also at no common values. Contracts of containment.Score where there is none, and of the closure that asks for it. Contracts of the scores that a search asks for: containment.of$1, bounded.Score.positive. -/
import Derived.Test.YtikiimlmoalbcaaGreatDoorCoFap
import Derived.Test.YtikiimlmoalbcaaGreatDoorCoFar
import Derived.Deep.QuietTactic
import Derived.Test.YtikiimlmoalbcaaGreatDoorCoFab
import Derived.Test.YtikiimlmoalbcaaGreatDoorCoFad
set_option linter.unusedVariables false
set_option linter.unusedSimpArgs false
namespace Go.Proofs.YtikiimlmoalbcaaGreatDoor
open Go.RowKit
def comC (cs : List Cv) (q : List ByteArray) (c : Nat) : Nat := (q.filter (hasL (cs.getD c Cv.z).2)).length
def sizeC (cs : List Cv) (c : Nat) : Nat := (cs.getD c Cv.z).2.length
def lowC (cs : List Cv) (vs : List ByteArray) (r c : Nat) : Nat := ((vs.take r).filter (hasL (cs.getD c Cv.z).2)).length
def bestC (cs : List Cv) (vs : List ByteArray) (r c : Nat) : Nat := min (lowC cs vs r c + (vs.length - r)) (sizeC cs c)
def ReadOk (cs : List Cv) (q vs : List ByteArray) : Prop := vs.Perm (q.filter (hasL (setOfL (allOf cs))))
theorem nodup_leB {α : Type} : ∀ {l m : List α}, l.Nodup → (∀ x ∈ l, x ∈ m) → l.length ≤ m.length
  | [], _, _, _ => Nat.zero_le _
  | x :: l, m, h, hs => by
    obtain ⟨h1, h2⟩ := List.nodup_cons.1 h
    obtain ⟨s, t, rfl⟩ := List.append_of_mem (hs x (by simp))
    have h3 := nodup_leB (m := s ++ t) h2 fun y hy => by
      have h4 := hs y (by simp [hy])
      rcases List.mem_append.1 h4 with h5 | h5
      · exact List.mem_append.2 (.inl h5)
      · rcases List.mem_cons.1 h5 with h6 | h6
        · exact absurd (h6 ▸ hy) h1
        · exact List.mem_append.2 (.inr h6)
    rw [List.length_append] at h3
    rw [List.length_cons, List.length_append, List.length_cons]
    omega
theorem hasL_all {cs : List Cv} {c : Nat} {v : ByteArray} (h : hasL (cs.getD c Cv.z).2 v = true) : hasL (setOfL (allOf cs)) v = true := by
  rw [hasL_iff] at h ⊢
  rw [setOfL_mem_iff, all_mem]
  by_cases hc : c < cs.length
  · exact ⟨_, getD_mem hc Cv.z, h⟩
  · have e : cs.getD c Cv.z = Cv.z := by simp [List.getD, List.getElem?_eq_none (Nat.le_of_not_lt hc)]
    rw [e] at h
    cases h
theorem low_zero (cs : List Cv) (vs : List ByteArray) (c : Nat) : lowC cs vs 0 c = 0 := by simp [lowC]
theorem low_succ (cs : List Cv) {vs : List ByteArray} {r : Nat} (hr : r < vs.length) (c : Nat) : lowC cs vs (r + 1) c = lowC cs vs r c + if hasL (cs.getD c Cv.z).2 (vs.getD r ⟨#[]⟩) = true then 1 else 0 := by
  unfold lowC
  rw [List.take_succ_eq_append_getElem hr, List.filter_append, List.length_append, List.filter_cons, List.filter_nil]
  have e : vs.getD r ⟨#[]⟩ = vs[r] := by simp [List.getD, hr]
  rw [e]
  split <;> rfl
section
variable {cs : List Cv} {q vs : List ByteArray}
theorem com_vs (h : ReadOk cs q vs) (c : Nat) : comC cs q c = (vs.filter (hasL (cs.getD c Cv.z).2)).length := by
  rw [(h.filter _).length_eq, List.filter_filter]
  unfold comC
  congr 1
  refine List.filter_congr fun v _ => ?_
  cases e : hasL (cs.getD c Cv.z).2 v
  · rfl
  · rw [hasL_all e]; rfl
theorem vs_le (h : ReadOk cs q vs) : vs.length ≤ q.length := by rw [h.length_eq]; exact List.length_filter_le _ _
theorem low_le_com (h : ReadOk cs q vs) (r c : Nat) : lowC cs vs r c ≤ comC cs q c := by
  rw [com_vs h]
  exact (List.Sublist.filter _ (List.take_sublist r vs)).length_le
theorem com_le_low (h : ReadOk cs q vs) (r c : Nat) : comC cs q c ≤ lowC cs vs r c + (vs.length - r) := by
  rw [com_vs h]
  unfold lowC
  have e : (vs.filter (hasL (cs.getD c Cv.z).2)).length = ((vs.take r).filter (hasL (cs.getD c Cv.z).2)).length + ((vs.drop r).filter (hasL (cs.getD c Cv.z).2)).length := by
    rw [← List.length_append, ← List.filter_append, List.take_append_drop]
  have h2 := List.length_filter_le (hasL (cs.getD c Cv.z).2) (vs.drop r)
  rw [List.length_drop] at h2
  omega
theorem com_le_size (hq : q.Nodup) (c : Nat) : comC cs q c ≤ sizeC cs c := nodup_leB (hq.sublist List.filter_sublist) fun x hx => (hasL_iff _ _).1 (List.mem_filter.1 hx).2
theorem com_le_q (c : Nat) : comC cs q c ≤ q.length := List.length_filter_le _ _
theorem com_le_best (h : ReadOk cs q vs) (hq : q.Nodup) (r c : Nat) : comC cs q c ≤ bestC cs vs r c := by
  have h1 := com_le_low h r c
  have h2 := com_le_size (cs := cs) hq c
  unfold bestC
  omega
theorem best_le (h : ReadOk cs q vs) (r c : Nat) (hr : r ≤ vs.length) : bestC cs vs r c ≤ q.length ∧ bestC cs vs r c ≤ sizeC cs c := by
  have h1 := vs_le h
  have h2 : lowC cs vs r c ≤ r := Nat.le_trans (List.length_filter_le _ _) (List.length_take_le _ _)
  unfold bestC
  omega
theorem low_all (h : ReadOk cs q vs) (hq : q.Nodup) (c : Nat) : lowC cs vs vs.length c = comC cs q c ∧ bestC cs vs vs.length c = comC cs q c := by
  have e : lowC cs vs vs.length c = comC cs q c := by rw [com_vs h]; unfold lowC; rw [List.take_length]
  have h2 := com_le_size (cs := cs) hq c
  refine ⟨e, ?_⟩
  unfold bestC
  omega
end
def HitsOk (den : Nat → Nat → Nat) (cs : List Cv) (q : List ByteArray) (S : List Nat) : Prop :=
  S.Pairwise (befH den (sizeC cs) (comC cs q)) ∧ ∀ c, c ∈ S ↔ c < cs.length ∧ 0 < comC cs q c
theorem befH_nodup {den : Nat → Nat → Nat} {sz f : Nat → Nat} {S : List Nat} (h : S.Pairwise (befH den sz f)) : S.Nodup := h.imp fun hab e => by
  subst e
  exact befH_anti _ _ hab hab
theorem known_filter {den : Nat → Nat → Nat} {cs : List Cv} {q : List ByteArray} {S H : List Nat} (h : HitsOk den cs q S) (P : Nat → Bool) (hH : H.Pairwise (befH den (sizeC cs) (comC cs q))) (hm : ∀ c, c ∈ H ↔ c < cs.length ∧ 0 < comC cs q c ∧ P c = true) : H = S.filter P :=
  sorted_same befH_anti hH (h.1.sublist List.filter_sublist) ((List.perm_ext_iff_of_nodup (befH_nodup hH) ((befH_nodup h.1).sublist List.filter_sublist)).2 fun c => by rw [hm, List.mem_filter, h.2, and_assoc])
def mayL (den : Nat → Nat → Nat) (cs : List Cv) (vs : List ByteArray) (r t : Nat) : List Nat :=
  (List.range cs.length).filter fun i => decide (0 < bestC cs vs r i) && decide (lowC cs vs r t * den (bestC cs vs r i) (sizeC cs i) ≤ bestC cs vs r i * den (lowC cs vs r t) (sizeC cs t))
theorem top_early {den : Nat → Nat → Nat} {cs : List Cv} {q vs : List ByteArray} (hs : Sco q.length den) (hv : ReadOk cs q vs) (hq : q.Nodup) {S : List Nat} (hS : HitsOk den cs q S) {r k : Nat} (hr : r ≤ vs.length)
    {SS : List Nat} (h1 : SS.Pairwise (befH den (sizeC cs) (lowC cs vs r))) (h2 : ∀ c ∈ SS, c < cs.length ∧ 0 < lowC cs vs r c) (hk : 0 < k) (hl : k ≤ SS.length) (P : Nat → Bool) (hP : ∀ c, P c = false → c ∉ mayL den cs vs r (SS.getD (k - 1) 0)) :
    (S.filter P).take k = S.take k := by
  have hkl : k - 1 < SS.length := by omega
  have ht := h2 _ (getD_mem hkl 0)
  have e0 : SS.getD (k - 1) 0 = SS[k - 1] := by simp [List.getD, hkl]
  refine early (low := lowC cs vs r) (best := bestC cs vs r) hs hS.1 hS.2 (fun c _ => ⟨low_le_com hv r c, com_le_best hv hq r c, (best_le hv r c hr).1, (best_le hv r c hr).2⟩) (T := SS.take k) ((befH_nodup h1).sublist (List.take_sublist _ _)) (by rw [List.length_take]; omega) ht (fun c hc => ?_) P (fun c hc h0 hp => ?_)
  · obtain ⟨hc1, hc2⟩ := h2 c (List.mem_of_mem_take hc)
    refine ⟨hc1, hc2, ?_⟩
    obtain ⟨i, hi, e⟩ := List.getElem_of_mem hc
    rw [List.length_take] at hi
    rw [List.getElem_take] at e
    rw [e0]
    by_cases hik : i = k - 1
    · subst hik
      rw [e]
      exact Nat.le_refl _
    · have h3 := List.pairwise_iff_getElem.1 h1 i (k - 1) (by omega) hkl (by omega)
      rw [e] at h3
      unfold befH at h3
      omega
  · have h3 := hP c hp
    have h4 := com_le_best hv hq r c
    unfold mayL at h3
    rw [List.mem_filter] at h3
    have h5 : ¬ (lowC cs vs r (SS.getD (k - 1) 0) * den (bestC cs vs r c) (sizeC cs c) ≤ bestC cs vs r c * den (lowC cs vs r (SS.getD (k - 1) 0)) (sizeC cs (SS.getD (k - 1) 0))) := fun e => h3 ⟨List.mem_range.2 hc, by rw [decide_eq_true e, decide_eq_true (by omega : 0 < bestC cs vs r c)]; rfl⟩
    omega
end Go.Proofs.YtikiimlmoalbcaaGreatDoor

namespace Go.Proofs.YtikiimlmoalbcaaGreatDoor
open Go.RowKit
set_option maxRecDepth 100000 in
set_option maxHeartbeats 4000000 in
theorem begin_cmp (ix : Ix) (ev vv lv : Value) (xb x y : Nat) (S : Nat → Prop) (w : World) (hx : RdIx w S ev vv lv ix) (hS : ∀ k, S k → k < w.heap.size) (hb : BoxN w xb 30 #[ev, vv, lv]) (h1 : x < ix.lists.length) (h2 : y < ix.lists.length) :
    Calls Tryz.prog 154 #[.int .i64 (x : Int), .int .i64 (y : Int), .pointer (some ⟨xb, 0, none⟩)] w (fun e w' => (∃ z : Int, e = .returned (.int .i64 z)) ∧ Below w.heap.size w w') := by
  obtain ⟨-, -, lf, ⟨la, lc, rfl, hlc, hlm, hlr⟩, hkids⟩ := hx
  obtain ⟨b, o, rfl, hbS, hcell⟩ := hlr (by omega)
  have c2 := hb.cell 2 rfl
  have k0 : w.cell? ⟨b, o + x, none⟩ = some (lf x) := by have h := hcell x h1 0 (by omega); simpa using h
  have k1 : w.cell? ⟨b, o + y, none⟩ = some (lf y) := by have h := hcell y h2 0 (by omega); simpa using h
  obtain ⟨a1, d1, e1, -⟩ := hkids x h1
  obtain ⟨a2, d2, e2, -⟩ := hkids y h2
  rw [e1] at k0
  rw [e2] at k1
  generalize (ix.lists.getD x []).length = n1 at *
  generalize (ix.lists.getD y []).length = n2 at *
  generalize ix.lists.length = n at *
  have hxi : (x : Int) < (n : Int) := by omega
  have hyi : (y : Int) < (n : Int) := by omega
  have hx0 : (0 : Int) ≤ (x : Int) := by omega
  have hy0 : (0 : Int) ≤ (y : Int) := by omega
  unfold maxLen at hlm
  have hd := hid ((Below.refl w.heap.size w).drew)
  have HCM := hid (fun W => Fr.Compare_int (n1 : Int) (n2 : Int) W)
  have HG := hid (fun W (hW : Below w.heap.size w W) => (⟨(hW.cell (p := ⟨xb, 2, none⟩) hb.lt).trans c2, (hW.cell (p := ⟨b, o + x, none⟩) (hS b hbS)).trans k0, (hW.cell (p := ⟨b, o + y, none⟩) (hS b hbS)).trans k1⟩ : W.cell? ⟨xb, 2, none⟩ = some (.slice (some ⟨b, o, none⟩) n lc) ∧ W.cell? ⟨b, o + x, none⟩ = some (.slice a1 n1 d1) ∧ W.cell? ⟨b, o + y, none⟩ = some (.slice a2 n2 d2)))
  clear hb hcell hkids e1 e2 hlr hbS hS
  go_enter Tryz.func154, Tryz.ntmps154
  go_upto_region 1 with fail
  go_region_held3 (fun W => W.cell? ⟨xb, 2, none⟩ = some (.slice (some ⟨b, o, none⟩) n lc) ∧ W.cell? ⟨b, o + x, none⟩ = some (.slice a1 n1 d1) ∧ W.cell? ⟨b, o + y, none⟩ = some (.slice a2 n2 d2))
    (first | exact HG.out _ hd.out | go_keep)
    ((go_at_call 136; go_must ((with_reducible refine (HCM.out _).mono ?_); rintro e w6 ⟨rfl, rfl⟩)))
  go_wp2
  go_ret
  exact ⟨⟨_, rfl⟩, hd.out⟩
def SrcBox (w : World) (sb : Nat) (ev vv lv qv ls : Value) (r : Nat) (lo fv : Value) : Prop := BoxN w sb 152 #[ev, vv, lv, qv, ls, .int .i64 (r : Int), lo, fv]
set_option maxRecDepth 100000 in
set_option maxHeartbeats 4000000 in
theorem src_best (cs : List Cv) (ev vv lv qv fv : Value) (la : Option Addr) (m lc r E lb sb base cap c : Nat) (lows : List Nat) (S : Nat → Prop) (w : World) (hx : RdIx w S ev vv lv (indexOf cs)) (hb : SrcBox w sb ev vv lv qv (.slice la m lc) r (.slice (some ⟨lb, 0, none⟩) E cap) fv)
    (hl : RowI w base lb cap E lows) (hE : cs.length = E) (hc : c < E) (hr : r ≤ m) (hm : m ≤ 1048576) (hlw : lows.getD c 0 ≤ 1048576) :
    Calls Tryz.prog 110 #[.pointer (some ⟨sb, 0, none⟩), .int .i64 (c : Int)] w (Ret w (.int .i64 ((min (lows.getD c 0 + (m - r)) (sizeC cs c) : Nat) : Int))) := by
  obtain ⟨⟨ea, ec, rfl, hec, hem, her⟩, -, -⟩ := hx
  have hel : (indexOf cs).ents.length = E := by rw [← hE]; exact ents_len cs
  obtain ⟨b, o, rfl, hbS, hcell⟩ := her (by omega)
  have k2 := hl.at hc
  have k3 : w.cell? ⟨b, o + c * 3 + 2, none⟩ = some (.int .i64 ((sizeC cs c : Nat) : Int)) := by
    have h := hcell c (by omega) 2 (by omega)
    have e : (entF (indexOf cs).ents c 2) = .int .i64 ((sizeC cs c : Nat) : Int) := by
      have h1 : c < cs.length := by omega
      simp [entF, three, indexOf, entsOf, sizeC, List.getD, h1]
    rw [e] at h
    exact h
  have b0 := BoxN.cell hb 0 rfl
  have b4 := BoxN.cell hb 4 rfl
  have b5 := BoxN.cell hb 5 rfl
  have b6 := BoxN.cell hb 6 rfl
  rw [hel] at b0 hec
  generalize sizeC cs c = z at *
  generalize lows.getD c 0 = l at *
  clear hcell her hbS hb hl hel
  unfold maxLen at hem
  have hci : (c : Int) < (E : Int) := by omega
  have hc0 : (0 : Int) ≤ (c : Int) := by omega
  obtain ⟨u, hu⟩ : ∃ u, u = l + (m - r) := ⟨_, rfl⟩
  have hui : (l : Int) + (m : Int) - (r : Int) = (u : Int) := by omega
  rw [← hu]
  clear hu
  have HB := hid (fun nq => (⟨rfl, rfl, rfl, Nat.le_refl _, fun _ _ => rfl⟩ : Below w.heap.size w (w.drewN nq)))
  have hmn : ((min u z : Nat) : Int) = min (u : Int) (z : Int) := by omega
  rw [hmn]
  clear hmn
  by_cases huz : (u : Int) ≤ (z : Int)
  · have hmi : min (u : Int) (z : Int) = (u : Int) := by omega
    rw [hmi]
    go_enter Tryz.func110, Tryz.ntmps110
    go_wp2_with fail
    go_quiet (fail)
    go_wp2
    go_ret
    exact ⟨rfl, HB.out _⟩
  · have hmi : min (u : Int) (z : Int) = (z : Int) := by omega
    rw [hmi]
    go_enter Tryz.func110, Tryz.ntmps110
    go_wp2_with fail
    go_quiet (fail)
    go_wp2
    go_ret
    exact ⟨rfl, HB.out _⟩
end Go.Proofs.YtikiimlmoalbcaaGreatDoor

namespace Go.Proofs.YtikiimlmoalbcaaGreatDoor.Fr
open Go.RowKit
def ZeroF (w : World) (e : Ending) (w' : World) : Prop := ∃ z : Int, z ≠ 0 ∧ e = .returned (.tuple #[.agg #[.bool false, .slice none 0 0, .bool false, .slice none 0 0], .int .i64 z]) ∧ Below w.heap.size w w'
set_option maxRecDepth 100000 in
set_option maxHeartbeats 2000000 in
theorem frac_Make0 (s1 : Bool) (a a' : Option Addr) (c c' : Nat) (n : Nat) (w : World) (hx : Rd32 w (.slice a (dig n).length c) (dig n)) (hy : Rd32 w (.slice a' 0 c') []) (hok : okBig s1 (dig n) = true) :
  Calls Tryz.prog 145 #[.agg #[.bool s1, .slice a (dig n).length c], .agg #[.bool false, .slice a' 0 c']] w (ZeroF w) := by
 have hok2 : okBig false ([] : List Nat) = true := by decide
 have hb2 := fun W g hb hg h0 h1 h2 h3 => frac_bigs2 g s1 false (dig n) [] a a' c c' W hg h0 h1 h2 h3 (hx.kept hb) (hy.kept hb)
 rw [hok, hok2] at hb2
 have HBG := hid hb2
 clear hx hy hb2 hok hok2
 generalize (dig n).length = L at *
 go_enter Tryz.func145, Tryz.ntmps145
 go_wp2_with fail
 refine (HBG.out _ _ (by repeat' (first | (with_reducible exact Below.refl _ _) | (with_reducible assumption) | (with_reducible refine below_drewN ?_) | (with_reducible refine Below.alloc ?_ ?_ _) | (with_reducible refine Below.drew ?_) | (with_reducible refine Below.setCell ?_ ?_ _) | (with_reducible refine Below.trans ?_ (Below.mono (by with_reducible assumption) ?_)) | go_size)) (by simp) (by go_cell) (by go_cell) (by go_cell) (by go_cell)).mono ?_
 rintro e w1 ⟨rfl, hb1⟩
 have HB1 := hid hb1
 have hz1 := hb1.size
 have k0 := cell_later hb1 (a := ⟨w.heap.size, 0, none⟩) (v := .bool s1) (by go_cell)
 have k1 := cell_later hb1 (a := ⟨w.heap.size, 1, none⟩) (v := .slice a L c) (by go_cell)
 have k2 := cell_later hb1 (a := ⟨w.heap.size + 1, 0, none⟩) (v := .bool false) (by go_cell)
 have k3 := cell_later hb1 (a := ⟨w.heap.size + 1, 1, none⟩) (v := .slice a' 0 c') (by go_cell)
 have k4 := cell_later hb1 (a := ⟨w.heap.size + 1 + 1, 0, none⟩) (v := .bool false) (by go_cell)
 have k5 := cell_later hb1 (a := ⟨w.heap.size + 1 + 1, 1, none⟩) (v := .slice none 0 0) (by go_cell)
 have k6 := cell_later hb1 (a := ⟨w.heap.size + 1 + 1, 2, none⟩) (v := .bool false) (by go_cell)
 have k7 := cell_later hb1 (a := ⟨w.heap.size + 1 + 1, 3, none⟩) (v := .slice none 0 0) (by go_cell)
 have fk4 := frozen_later hb1 (a := ⟨w.heap.size + 1 + 1, 0, none⟩) (v := .bool false) (by go_cell) (by simp [go_sem])
 have fk5 := frozen_later hb1 (a := ⟨w.heap.size + 1 + 1, 1, none⟩) (v := .slice none 0 0) (by go_cell) (by simp [go_sem])
 have fk6 := frozen_later hb1 (a := ⟨w.heap.size + 1 + 1, 2, none⟩) (v := .bool false) (by go_cell) (by simp [go_sem])
 have fk7 := frozen_later hb1 (a := ⟨w.heap.size + 1 + 1, 3, none⟩) (v := .slice none 0 0) (by go_cell) (by simp [go_sem])
 have hA1 : Below w.heap.size w w1 := by repeat' (first | (with_reducible exact Below.refl _ _) | (with_reducible assumption) | (with_reducible refine below_drewN ?_) | (with_reducible refine Below.alloc ?_ ?_ _) | (with_reducible refine Below.drew ?_) | (with_reducible refine Below.setCell ?_ ?_ _) | (with_reducible refine Below.trans ?_ (Below.mono (by with_reducible assumption) ?_)) | go_size)
 have HA1 := hid hA1
 clear hb1 hA1
 simp at hz1
 go_wp2
 refine bodyPost_ret (by simp [results, Tryz.results145, go_sem, k4, k5, k6, k7]; rfl) rfl ?_
 exact ⟨8, by decide, by first | rfl | simp, by have h1 := HA1.out; have h2 := HB1.out; repeat' (first | (with_reducible exact Below.refl _ _) | (with_reducible assumption) | (with_reducible refine below_drewN ?_) | (with_reducible refine Below.alloc ?_ ?_ _) | (with_reducible refine Below.drew ?_) | (with_reducible refine Below.setCell ?_ ?_ _) | (with_reducible refine Below.trans ?_ (Below.mono (by with_reducible assumption) ?_)) | go_size)⟩
set_option maxHeartbeats 1000000 in
theorem frac_Of0 (n d : Nat) (w : World) (hn0 : n = 0) (hd0 : d = 0) :
  Calls Tryz.prog 92 #[.int .i64 (n : Int), .int .i64 (d : Int)] w (ZeroF w) := by
 have hn : n < 9223372036854775808 := by omega
 have hl2 := dig_length_64 (n := n) (by omega)
 have hok : okBig false (dig n) = true := okBig_false n (by omega)
 have hdd : dig d = [] := by rw [hd0]; exact dig_zero
 have hd1 : d < 9223372036854775808 := by omega
 clear hn0 hd0
 have HM := hid (fun W a a' c c' hx hy => frac_Make0 false a a' c c' n W hx hy hok)
 clear hok hl2
 go_enter Tryz.func92, Tryz.ntmps92
 go_wp2_with fail
 refine (frac_FromInt n _ hn).mono ?_
 rintro e w1 ⟨a1, c1, rfl, hr1, ho1, hb1⟩
 have HR1 := hid hr1
 have HB1 := hid hb1
 have hz1 := hb1.size
 have k0 := cell_later hb1 (a := ⟨w.heap.size, 0, none⟩) (v := .bool false) (by go_cell)
 have k1 := cell_later hb1 (a := ⟨w.heap.size, 1, none⟩) (v := .slice none 0 0) (by go_cell)
 have k2 := cell_later hb1 (a := ⟨w.heap.size, 2, none⟩) (v := .bool false) (by go_cell)
 have k3 := cell_later hb1 (a := ⟨w.heap.size, 3, none⟩) (v := .slice none 0 0) (by go_cell)
 have fk0 := frozen_later hb1 (a := ⟨w.heap.size, 0, none⟩) (v := .bool false) (by go_cell) (by simp [go_sem])
 have fk1 := frozen_later hb1 (a := ⟨w.heap.size, 1, none⟩) (v := .slice none 0 0) (by go_cell) (by simp [go_sem])
 have fk2 := frozen_later hb1 (a := ⟨w.heap.size, 2, none⟩) (v := .bool false) (by go_cell) (by simp [go_sem])
 have fk3 := frozen_later hb1 (a := ⟨w.heap.size, 3, none⟩) (v := .slice none 0 0) (by go_cell) (by simp [go_sem])
 have hA1 : Below w.heap.size w w1 := by repeat' (first | (with_reducible exact Below.refl _ _) | (with_reducible assumption) | (with_reducible refine below_drewN ?_) | (with_reducible refine Below.alloc ?_ ?_ _) | (with_reducible refine Below.drew ?_) | (with_reducible refine Below.setCell ?_ ?_ _) | (with_reducible refine Below.trans ?_ (Below.mono (by with_reducible assumption) ?_)) | go_size)
 have HA1 := hid hA1
 clear hb1 hA1 hr1 ho1
 simp at hz1
 go_wp2_with fail
 refine (frac_FromInt d _ hd1).mono ?_
 rintro e w2 ⟨a2, c2, rfl, hr1, ho1, hb2⟩
 rw [hdd] at hr1
 have HR2 := hid hr1
 have HB2 := hid hb2
 have hz2 := hb2.size
 have j0 := cell_later hb2 k0
 have j1 := cell_later hb2 k1
 have j2 := cell_later hb2 k2
 have j3 := cell_later hb2 k3
 have fj0 := frozen_later hb2 k0 fk0
 have fj1 := frozen_later hb2 k1 fk1
 have fj2 := frozen_later hb2 k2 fk2
 have fj3 := frozen_later hb2 k3 fk3
 clear hr1 ho1 hb2
 rw [hdd]
 clear hdd
 simp only [List.length_nil]
 go_wp2_with fail
 refine (HM.out _ _ _ _ _ (HR1.out.kept HB2.out) HR2.out).mono ?_
 rintro e w3 ⟨z3, hz0, rfl, hb3⟩
 have HB3 := hid hb3
 have hz3 := hb3.size
 have m0 := cell_later hb3 j0
 have m1 := cell_later hb3 j1
 have m2 := cell_later hb3 j2
 have m3 := cell_later hb3 j3
 have fm0 := frozen_later hb3 j0 fj0
 have fm1 := frozen_later hb3 j1 fj1
 have fm2 := frozen_later hb3 j2 fj2
 have fm3 := frozen_later hb3 j3 fj3
 clear hb3
 go_wp2
 refine bodyPost_ret (v := .tuple #[.agg #[.bool false, .slice none 0 0, .bool false, .slice none 0 0], .int .i64 z3]) (by simp [results, Tryz.results92, go_sem, m0, m1, m2, m3]) rfl ?_
 exact ⟨z3, hz0, by first | rfl | simp, by have h1 := HA1.out; have h2 := HB2.out; have h3 := HB3.out; repeat' (first | (with_reducible exact Below.refl _ _) | (with_reducible assumption) | (with_reducible refine below_drewN ?_) | (with_reducible refine Below.alloc ?_ ?_ _) | (with_reducible refine Below.drew ?_) | (with_reducible refine Below.setCell ?_ ?_ _) | (with_reducible refine Below.trans ?_ (Below.mono (by with_reducible assumption) ?_)) | go_size)⟩
end Go.Proofs.YtikiimlmoalbcaaGreatDoor.Fr

namespace Go.Proofs.YtikiimlmoalbcaaGreatDoor.Fr
open Go.RowKit
def ZeroS (w : World) (e : Ending) (w' : World) : Prop := e = .returned (.tuple #[.agg #[.bool false, .slice none 0 0, .bool false, .slice none 0 0], .bool false]) ∧ Below w.heap.size w w'
set_option maxRecDepth 100000 in
set_option maxHeartbeats 4000000 in
theorem cont_Score0 (kind common query size : Nat) (w : World) (hk : 1 ≤ kind) (hk3 : kind ≤ 3) (hc : common ≤ query) (hc2 : common ≤ size) (hq : query ≤ 2147483648) (hs : size ≤ 2147483648) (hcz : common = 0) (hd : denOf kind common query size = 0) :
  Calls Tryz.prog 42 #[.int .i64 (kind : Int), .int .i64 (common : Int), .int .i64 (query : Int), .int .i64 (size : Int)] w
   (ZeroS w) := by
 have hV := cont_Valid (kind : Int)
 rw [show decide ((1 : Int) ≤ (kind : Int) ∧ (kind : Int) ≤ 3) = true from by simp; omega] at hV
 have HV := hid hV
 have HOF := hid (fun W => frac_Of0 common (denOf kind common query size) W hcz hd)
 have hden : kind = 1 ∧ denOf kind common query size = query ∨ kind = 2 ∧ denOf kind common query size = size ∨ kind = 3 ∧ denOf kind common query size = query + size - common := by
  unfold denOf; rcases (show kind = 1 ∨ kind = 2 ∨ kind = 3 by omega) with h | h | h <;> subst h <;> simp
 clear hV hcz hd
 generalize denOf kind common query size = d at *
 rcases Nat.lt_trichotomy query size with hqs | hqs | hqs
 case' inr.inl => subst hqs
 all_goals
  rcases hden with ⟨rfl, hde⟩ | ⟨rfl, hde⟩ | ⟨rfl, hde⟩
  all_goals
   have HDE := hid hde
   clear hde
   go_enter Tryz.func42, Tryz.ntmps42
   go_wp2_with fail
   refine (HV.out _).mono ?_
   rintro e w' ⟨rfl, rfl⟩
   go_wp2_with fail
   first
    | rw [show ((query : Int) + (size : Int) - (common : Int)) = (d : Int) from by have := HDE.out; omega]
    | rw [show ((query : Int) + (query : Int) - (common : Int)) = (d : Int) from by have := HDE.out; omega]
    | rw [← HDE.out]
   refine (HOF.out _).mono ?_
   rintro e w3 ⟨z3, hz0, rfl, hb3⟩
   have hzb : (z3 == 0) = false := beq_false_of_ne hz0
   have hzd : decide (z3 = 0) = false := decide_eq_false hz0
   have HB3 := hid hb3
   have hz3 := hb3.size
   have m0 := cell_later hb3 (a := ⟨w.heap.size, 0, none⟩) (v := .bool false) (by go_cell)
   have m1 := cell_later hb3 (a := ⟨w.heap.size, 1, none⟩) (v := .slice none 0 0) (by go_cell)
   have m2 := cell_later hb3 (a := ⟨w.heap.size, 2, none⟩) (v := .bool false) (by go_cell)
   have m3 := cell_later hb3 (a := ⟨w.heap.size, 3, none⟩) (v := .slice none 0 0) (by go_cell)
   have fm0 := frozen_later hb3 (a := ⟨w.heap.size, 0, none⟩) (v := .bool false) (by go_cell) (by simp [go_sem])
   have fm1 := frozen_later hb3 (a := ⟨w.heap.size, 1, none⟩) (v := .slice none 0 0) (by go_cell) (by simp [go_sem])
   have fm2 := frozen_later hb3 (a := ⟨w.heap.size, 2, none⟩) (v := .bool false) (by go_cell) (by simp [go_sem])
   have fm3 := frozen_later hb3 (a := ⟨w.heap.size, 3, none⟩) (v := .slice none 0 0) (by go_cell) (by simp [go_sem])
   clear hb3
   simp at hz3
   have hlt : w.heap.size < w3.heap.size := by omega
   have hne : w.heap.size ≠ w3.heap.size := by omega
   go_wp2
   refine bodyPost_ret (v := .tuple #[.agg #[.bool false, .slice none 0 0, .bool false, .slice none 0 0], .bool false]) (by simp [results, Tryz.results42, go_sem, m0, m1, m2, m3, hne, hlt]) rfl ?_
   exact ⟨rfl, by have h3 := HB3.out; repeat' (first | (with_reducible exact Below.refl _ _) | (with_reducible assumption) | (with_reducible refine below_drewN ?_) | (with_reducible refine Below.alloc ?_ ?_ _) | (with_reducible refine Below.drew ?_) | (with_reducible refine Below.setCell ?_ ?_ _) | (with_reducible refine Below.trans ?_ (Below.mono (by with_reducible assumption) ?_)) | go_size)⟩
end Go.Proofs.YtikiimlmoalbcaaGreatDoor.Fr

namespace Go.Proofs.YtikiimlmoalbcaaGreatDoor.Fr
open Go.RowKit
def ScoreA (w : World) (n d : Nat) (e : Ending) (w' : World) : Prop :=
  ∃ (s1 s2 ok : Bool) (a b : Option Addr) (c k l1 l2 : Nat), e = .returned (.tuple #[.agg #[.bool s1, .slice a l1 c, .bool s2, .slice b l2 k], .bool ok]) ∧ Below w.heap.size w w' ∧
    (0 < n → s1 = false ∧ s2 = false ∧ ok = true ∧ l1 = (dig (n / Nat.gcd n d)).length ∧ l2 = (dig (d / Nat.gcd n d)).length ∧ NewF w.heap.size w' a c b k (n / Nat.gcd n d) (d / Nat.gcd n d)) ∧ (n = 0 → l1 = 0)
theorem score_any (kind n query size : Nat) (w : World) (hk : 1 ≤ kind) (hk3 : kind ≤ 3) (hc : n ≤ query) (hc2 : n ≤ size) (hq : query ≤ 1073741824) (hs : size ≤ 1073741824) :
    Calls Tryz.prog 42 #[.int .i64 (kind : Int), .int .i64 (n : Int), .int .i64 (query : Int), .int .i64 (size : Int)] w (ScoreA w n (denOf kind n query size)) := by
  have hdl : denOf kind n query size < 4294967296 := by unfold denOf; split <;> (try split) <;> omega
  by_cases hd : denOf kind n query size = 0
  · have hn : n = 0 := by
      unfold denOf at hd
      rcases (show kind = 1 ∨ kind = 2 ∨ kind = 3 by omega) with h | h | h <;> subst h <;> simp at hd <;> omega
    refine (cont_Score0 kind n query size w hk hk3 hc hc2 (by omega) (by omega) hn hd).mono ?_
    rintro e w' ⟨rfl, hb⟩
    exact ⟨false, false, false, none, none, 0, 0, 0, 0, rfl, hb, fun h => by omega, fun _ => rfl⟩
  · refine (cont_Score kind n query size w hk hk3 hc hc2 (by omega) (by omega) (by omega) hdl).mono ?_
    rintro e w' ⟨a, c, a', c', rfl, hN, hb⟩
    refine ⟨false, false, true, a, a', c, c', _, _, rfl, hb, fun _ => ⟨rfl, rfl, rfl, rfl, rfl, hN⟩, fun h => ?_⟩
    subst h
    rw [Nat.zero_div, dig_zero]
    rfl
set_option maxRecDepth 100000 in
set_option maxHeartbeats 4000000 in
theorem of_score (kind n query size kb qb : Nat) (w : World) (hk : 1 ≤ kind) (hk3 : kind ≤ 3) (hc : n ≤ query) (hc2 : n ≤ size) (hq : query ≤ 1073741824) (hs : size ≤ 1073741824) (h1 : w.cell? ⟨kb, 0, none⟩ = some (.int .i64 (kind : Int))) (h2 : w.cell? ⟨qb, 0, none⟩ = some (.int .i64 (query : Int))) (h3 : kb < w.heap.size) (h4 : qb < w.heap.size) :
  Calls Tryz.prog 111 #[.int .i64 (n : Int), .int .i64 (size : Int), .pointer (some ⟨kb, 0, none⟩), .pointer (some ⟨qb, 0, none⟩)] w (ScoreA w n (denOf kind n query size)) := by
 have HS := hid (fun W => score_any kind n query size W hk hk3 hc hc2 hq hs)
 clear hk hk3 hc hc2 hq hs
 generalize denOf kind n query size = d at *
 have hx := BoxN.new w #[.bool false, .slice none 0 0, .bool false, .slice none 0 0] 45
 have HB0 := hid ((Below.refl w.heap.size w).alloc (Nat.le_refl _) (.cells #[.bool false, .slice none 0 0, .bool false, .slice none 0 0] 45))
 have k1 : (w.alloc (.cells #[.bool false, .slice none 0 0, .bool false, .slice none 0 0] 45)).cell? ⟨kb, 0, none⟩ = some (.int .i64 (kind : Int)) := (HB0.out.cell (p := ⟨kb, 0, none⟩) h3).trans h1
 have k2 : (w.alloc (.cells #[.bool false, .slice none 0 0, .bool false, .slice none 0 0] 45)).cell? ⟨qb, 0, none⟩ = some (.int .i64 (query : Int)) := (HB0.out.cell (p := ⟨qb, 0, none⟩) h4).trans h2
 obtain ⟨W0, hW0⟩ : ∃ W, W = w.alloc (.cells #[.bool false, .slice none 0 0, .bool false, .slice none 0 0] 45) := ⟨_, rfl⟩
 have hz0 : W0.heap.size = w.heap.size + 1 := by rw [hW0, World.size_alloc]
 rw [← hW0] at hx HB0
 have HX := hid hx
 have HZ0 := hid hz0
 clear hx h1 h2 h3 h4 hz0
 go_enter Tryz.func111, Tryz.ntmps111
 go_wp2_with fail
 rw [← hW0]
 clear hW0 k1 k2
 with_reducible refine (HS.out W0).mono ?_
 rintro e w1 ⟨s1, s2, ok, a, b, c, k, l1, l2, rfl, hb1, hpos, hzero⟩
 have hx1 := HX.out.below hb1 HX.out.lt
 have c0 := hx1.cell 0 rfl
 have c1 := hx1.cell 1 rfl
 have c2 := hx1.cell 2 rfl
 have c3 := hx1.cell 3 rfl
 have f0 := hx1.frozen 0
 have f1 := hx1.frozen 1
 have f2 := hx1.frozen 2
 have f3 := hx1.frozen 3
 have g0 : BoxN (w1.setCell ⟨w.heap.size, 0, none⟩ (.bool s1)) w.heap.size 45 #[.bool s1, .slice none 0 0, .bool false, .slice none 0 0] := hx1.set 0 _
 have g1 : BoxN ((w1.setCell ⟨w.heap.size, 0, none⟩ (.bool s1)).setCell ⟨w.heap.size, 1, none⟩ (.slice a l1 c)) w.heap.size 45 #[.bool s1, .slice a l1 c, .bool false, .slice none 0 0] := g0.set 1 _
 have g2 : BoxN (((w1.setCell ⟨w.heap.size, 0, none⟩ (.bool s1)).setCell ⟨w.heap.size, 1, none⟩ (.slice a l1 c)).setCell ⟨w.heap.size, 2, none⟩ (.bool s2)) w.heap.size 45 #[.bool s1, .slice a l1 c, .bool s2, .slice none 0 0] := g1.set 2 _
 have g3 : BoxN ((((w1.setCell ⟨w.heap.size, 0, none⟩ (.bool s1)).setCell ⟨w.heap.size, 1, none⟩ (.slice a l1 c)).setCell ⟨w.heap.size, 2, none⟩ (.bool s2)).setCell ⟨w.heap.size, 3, none⟩ (.slice b l2 k)) w.heap.size 45 #[.bool s1, .slice a l1 c, .bool s2, .slice b l2 k] := g2.set 3 _
 have hbz := ((((HB0.out.trans (hb1.mono (by have := HZ0.out; omega))).setCell (p := ⟨w.heap.size, 0, none⟩) (Nat.le_refl _) (.bool s1)).setCell (p := ⟨w.heap.size, 1, none⟩) (Nat.le_refl _) (.slice a l1 c)).setCell (p := ⟨w.heap.size, 2, none⟩) (Nat.le_refl _) (.bool s2)).setCell (p := ⟨w.heap.size, 3, none⟩) (Nat.le_refl _) (.slice b l2 k)
 have HF : Hid (ScoreA w n d (.returned (.tuple #[.agg #[.bool s1, .slice a l1 c, .bool s2, .slice b l2 k], .bool ok])) ((((w1.setCell ⟨w.heap.size, 0, none⟩ (.bool s1)).setCell ⟨w.heap.size, 1, none⟩ (.slice a l1 c)).setCell ⟨w.heap.size, 2, none⟩ (.bool s2)).setCell ⟨w.heap.size, 3, none⟩ (.slice b l2 k))) := hid ⟨s1, s2, ok, a, b, c, k, l1, l2, rfl, hbz, fun h => by
  obtain ⟨r1, r2, r3, r4, r5, hN⟩ := hpos h
  refine ⟨r1, r2, r3, r4, r5, ?_⟩
  have hlt : w.heap.size < W0.heap.size := by have := HZ0.out; omega
  exact ((((hN.setCell (x := ⟨w.heap.size, 0, none⟩) hlt).setCell (x := ⟨w.heap.size, 1, none⟩) hlt).setCell (x := ⟨w.heap.size, 2, none⟩) hlt).setCell (x := ⟨w.heap.size, 3, none⟩) hlt).mono (by omega), hzero⟩
 have q0 := g3.cell 0 rfl
 have q1 := g3.cell 1 rfl
 have q2 := g3.cell 2 rfl
 have q3 := g3.cell 3 rfl
 clear g0 g1 g2 g3 hbz hpos hzero hb1 hx1
 go_wp2
 refine bodyPost_ret (v := .tuple #[.agg #[.bool s1, .slice a l1 c, .bool s2, .slice b l2 k], .bool ok]) (by simp [results, Tryz.results111, go_sem, q0, q1, q2, q3]) rfl HF.out
end Go.Proofs.YtikiimlmoalbcaaGreatDoor.Fr
