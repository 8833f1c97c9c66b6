/- Plain: what an order of values and its ranks say of the columns. No program in sight. -/
import Derived.Test.YtabemneoobbnaaaGreatDoorKs
namespace Go.Proofs.YtabemneoobbnaaaGreatDoor
open Go.RowKit

theorem cntN_app (a b : List ByteArray) (s : ByteArray) : cntN (a ++ b) s = cntN a s + cntN b s := by simp [cntN]
theorem cntN_nodup {X : List ByteArray} (hn : X.Nodup) (s : ByteArray) : cntN X s = if hasL X s = true then 1 else 0 := by
  unfold cntN
  by_cases h : s ∈ X
  · rw [if_pos ((hasL_iff X s).2 h)]
    have e : X.filter (fun x => decide (x = s)) = [s] := by
      have h1 : (X.filter fun x => decide (x = s)).Nodup := List.Pairwise.sublist List.filter_sublist hn
      have h2 : (X.filter fun x => decide (x = s)).Perm [s] := (List.perm_ext_iff_of_nodup h1 (by simp)).2 fun x => by
        rw [List.mem_filter, List.mem_singleton]
        constructor
        · intro h; simpa using h.2
        · rintro rfl; exact ⟨h, by simp⟩
      exact List.perm_singleton.1 h2
    rw [e]; rfl
  · rw [if_neg (fun h2 => h ((hasL_iff X s).1 h2))]
    rw [List.length_eq_zero_iff, List.filter_eq_nil_iff]
    intro x hx e
    have : x = s := by simpa using e
    exact h (this ▸ hx)
theorem asc_nodup {X : List ByteArray} (h : Asc X) : X.Nodup := h.imp fun {a b} h e => by subst e; rw [sl_irrefl] at h; cases h
/-- one column more -/
theorem cnt_step {cs : List Cv} {q : Nat} (hq : q < cs.length) (ha : Asc (cs.getD q Cv.z).2) (s : ByteArray) : cntN (allOf (cs.take (q + 1))) s = cntN (allOf (cs.take q)) s + if hasL (cs.getD q Cv.z).2 s = true then 1 else 0 := by
  rw [all_take hq, cntN_app, cntN_nodup (asc_nodup ha)]
theorem cnt_pos {all : List ByteArray} {s : ByteArray} (h : s ∈ all) : 1 ≤ cntN all s := by
  have := cntO_some.2 h
  unfold cntO at this
  by_cases h0 : cntN all s = 0
  · rw [if_pos h0] at this; cases this
  · omega
/-- two neighbours in the order -/
theorem ord_step {F : ByteArray → Nat} {O : List ByteArray} (hn : O.Nodup) (hp : O.Pairwise (fun x y => olt F y x = false)) {i : Nat} (h0 : 0 < i) (hi : i < O.length) :
    F (O.getD (i - 1) ⟨#[]⟩) ≤ F (O.getD i ⟨#[]⟩) ∧ (F (O.getD i ⟨#[]⟩) = F (O.getD (i - 1) ⟨#[]⟩) → sl (O.getD (i - 1) ⟨#[]⟩) (O.getD i ⟨#[]⟩) = true) := by
  have h1 := List.pairwise_iff_getElem.1 hp (i - 1) i (by omega) hi (by omega)
  have h2 := List.pairwise_iff_getElem.1 hn (i - 1) i (by omega) hi (by omega)
  have e1 : O.getD (i - 1) ⟨#[]⟩ = O[i - 1] := by simp [List.getD, show i - 1 < O.length by omega]
  have e2 : O.getD i ⟨#[]⟩ = O[i] := by simp [List.getD, hi]
  rw [e1, e2]
  rw [olt_not] at h1
  rcases h1 with h1 | ⟨h1, h3 | h3⟩
  · exact ⟨by omega, fun e => by omega⟩
  · exact absurd h3.symm h2
  · exact ⟨by omega, fun _ => h3⟩
theorem idx_own {O : List ByteArray} (hn : O.Nodup) {i : Nat} (hi : i < O.length) : Lib.idxOfS O (O.getD i ⟨#[]⟩) = (i : Int) := by
  have h := Lib.idxOfS_hit O O.length i (O.getD i ⟨#[]⟩) hi (Nat.le_refl _) rfl (fun j hj e => by
    have h1 := List.pairwise_iff_getElem.1 hn j i (by omega) hi hj
    have e1 : O.getD j ByteArray.empty = O[j] := by simp [List.getD, show j < O.length by omega]
    have e2 : O.getD i ⟨#[]⟩ = O[i] := by simp [List.getD, hi]
    rw [e1, e2] at e
    exact h1 e)
  rwa [List.take_length] at h
theorem idx_miss {O : List ByteArray} {s : ByteArray} (h : s ∉ O) : Lib.idxOfS O s = -1 := by
  have h1 := Lib.idxOfS_miss O O.length s (fun j hj e => by
    have e1 : O.getD j ByteArray.empty = O[j] := by simp [List.getD, hj]
    rw [e1] at e
    exact h (e ▸ List.getElem_mem hj))
  rwa [List.take_length] at h1
theorem rank_full {O X : List ByteArray} (hX : ∀ x ∈ X, x ∈ O) (hn : X.Nodup) : (rankL O X).length = X.length := by
  have inj : ∀ x y, x ∈ O → y ∈ O → (idxF O x).getD 0 = (idxF O y).getD 0 → x = y := fun x y hx hy e => by
    rw [← (idx_at hx).2, ← (idx_at hy).2, e]
  have hnd : (X.map fun x => (idxF O x).getD 0).Nodup := by
    rw [List.Nodup, List.pairwise_map]
    exact List.Pairwise.imp_of_mem (fun {a b} ha hb hne e => hne (inj a b (hX a ha) (hX b hb) e)) hn
  have hp : (rankL O X).Perm (X.map fun x => (idxF O x).getD 0) := by
    unfold rankL
    rw [rank_map hX]
    exact (List.perm_ext_iff_of_nodup (up_nodup (upL_up _)) hnd).2 fun x => upL_mem
  rw [hp.length_eq, List.length_map]
theorem rank_at {O X : List ByteArray} (hX : ∀ x ∈ X, x ∈ O) {i : Nat} (hi : i < (rankL O X).length) : (rankL O X).getD i 0 < O.length ∧ hasL X (O.getD ((rankL O X).getD i 0) ⟨#[]⟩) = true := by
  have hm : (rankL O X).getD i 0 ∈ X.filterMap (idxF O) := upL_mem.1 (getD_mem hi 0)
  rw [rank_map hX] at hm
  obtain ⟨x, hx, e⟩ := List.mem_map.1 hm
  have h := idx_at (hX x hx)
  rw [← e]
  exact ⟨h.1, by rw [h.2]; exact (hasL_iff X x).2 hx⟩
theorem rank_up {O X : List ByteArray} {i : Nat} (h0 : 0 < i) (hi : i < (rankL O X).length) : (rankL O X).getD (i - 1) 0 < (rankL O X).getD i 0 := by
  have h := List.pairwise_iff_getElem.1 (upL_up (X.filterMap (idxF O))) (i - 1) i (by unfold rankL at hi; omega) (by unfold rankL at hi; exact hi) (by omega)
  unfold rankL at *
  simpa [List.getD, hi, show i - 1 < (upL (X.filterMap (idxF O))).length by omega] using h
theorem cvsL_small {ts : List Ta} (h : ListV ts) : ∀ c ∈ cvsL ts, ∀ s ∈ c.2, s.size ≤ 8 := by
  intro c hc s hs
  obtain ⟨q, hq, rfl⟩ := List.mem_map.1 hc
  obtain ⟨i, k, hi, hk, -, h4⟩ := refs_at ts q (List.mem_range.1 hq)
  unfold cvOf at hs
  simp only at hs
  rw [h4] at hs
  obtain ⟨n, hn, hcs⟩ := (h.2.1 _ (getD_mem hi Ta.z)).2.2.2.2
  unfold valuesL at hs
  rw [setOfL_mem_iff] at hs
  unfold textsL at hs
  obtain ⟨cl, hcl, rfl⟩ := List.mem_map.1 hs
  exact ((hcs _ (getD_mem hk Co.z)).2.2 cl (List.mem_filter.1 hcl).1).2.1
theorem ord_len {O all : List ByteArray} (hn : O.Nodup) (hm : ∀ s, s ∈ O ↔ s ∈ all) : O.length ≤ all.length := by
  have e1 : O.Perm (setOfL all) := (List.perm_ext_iff_of_nodup hn (asc_nodup (setOfL_asc all))).2 fun s => (hm s).trans (setOfL_mem_iff _ s).symm
  have h1 := e1.length_eq
  have h2 := setOfL_len all
  omega

end Go.Proofs.YtabemneoobbnaaaGreatDoor
