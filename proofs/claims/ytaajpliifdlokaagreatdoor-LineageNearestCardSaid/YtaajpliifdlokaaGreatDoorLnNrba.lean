/- Plain facts on what explain.finder tries; an append of none or some. -/
import Derived.Test.YtaajpliifdlokaaGreatDoorLnNray
import Derived.Test.YtaajpliifdlokaaGreatDoorLnNraz
import Derived.Test.YtaajpliifdlokaaGreatDoorLnNrac
set_option linter.unusedVariables false
set_option linter.unusedSimpArgs false
namespace Go.Proofs.YtaajpliifdlokaaGreatDoor
open Go.RowKit
theorem findSome_at {α β : Type} (d : α) (g : α → Option β) : ∀ (l : List α) (q : Nat) (r : β), q < l.length → (∀ j, j < q → g (l.getD j d) = none) → g (l.getD q d) = some r → l.findSome? g = some r
  | x :: l, 0, r, _, _, h => by
    rw [List.findSome?_cons]
    rw [List.getD_cons_zero] at h
    rw [h]
  | x :: l, q + 1, r, hq, hn, h => by
    rw [List.findSome?_cons]
    have h0 := hn 0 (by omega)
    rw [List.getD_cons_zero] at h0
    rw [h0]
    exact findSome_at d g l q r (by simpa using hq) (fun j hj => by have := hn (j + 1) (by omega); rwa [List.getD_cons_succ] at this) (by rwa [List.getD_cons_succ] at h)
theorem findSome_nil {α β : Type} (d : α) (g : α → Option β) : ∀ (l : List α), (∀ j, j < l.length → g (l.getD j d) = none) → l.findSome? g = none
  | [], _ => rfl
  | x :: l, hn => by
    rw [List.findSome?_cons]
    have h0 := hn 0 (by simp)
    rw [List.getD_cons_zero] at h0
    rw [h0]
    exact findSome_nil d g l fun j hj => by have := hn (j + 1) (by simpa using hj); rwa [List.getD_cons_succ] at this
def endF (a b : List Co) (g : List Po) (most : Nat) (e : List Po) : Option (List Po) := if g.length + e.length = most ∧ runL (runL a g) e = b then some (g ++ e) else none
theorem finderF_eq (a b : List Co) (p : List Po) (most : Nat) (f : List Po) : finderF a b p most f = if most < f.length + p.length then none else if rowsC (runL a (f ++ p)) < rowsC b then none else (endsL b.length).findSome? (endF a b (f ++ p) most) := by
  unfold finderF
  rfl
theorem can_begin {a b : List Co} {n : Nat} {f p : List Po} (hv : ColsV a n) (hb : b.length ≤ 64) (hf : f ∈ filtersL a) (hp : projOf a b = some p) : canRun a (f ++ p) = true ∧ (runL a (f ++ p)).length = b.length := by
  have hfl : (runL a f).length = a.length := names_len (names_run fun o ho => by have := filters_kind hf o ho; omega)
  obtain ⟨h1, h2⟩ := proj_form hp
  rw [canRun_append, can_filters hv hf]
  rcases h2 with ⟨rfl, h2⟩ | rfl
  · exact ⟨rfl, by rw [List.append_nil, hfl, h2]⟩
  · have e1 : (runL a (f ++ [opProj (fromL a b)])).length = b.length := by
      rw [runL_append]
      show (projL (runL a f) _).length = _
      simp [projL, fromL, opProj]
    have e2 : canL (runL a f).length (opProj (fromL a b)) = true := can_proj (fun k hk => by rw [hfl]; exact from_lt h1 k hk) (by simpa [fromL] using hb)
    exact ⟨by simp [canRun, e2], e1⟩
theorem proj_short {a b : List Co} {p : List Po} (h : projOf a b = some p) : p.length ≤ 1 := by
  rcases (proj_form h).2 with ⟨rfl, -⟩ | rfl
  · simp
  · simp
theorem filt_short {a : List Co} {f : List Po} (h : f ∈ filtersL a) : f.length ≤ 1 := by
  rcases filters_form h with rfl | ⟨o, rfl, -⟩
  · simp
  · simp
theorem ends_short {n : Nat} {e : List Po} (h : e ∈ endsL n) : e.length ≤ 2 := by
  rcases ends_form h with rfl | ⟨k, -, rfl⟩ | rfl | ⟨k, -, rfl⟩ <;> simp
theorem wpList_append_any {P : Program} {w : World} {ops : Array Oper} {rest : List Oper} {o : Oper} {a : Act} {Q : Exit → Act → World → Prop} (hgd : o.guard = none) (s x : Operand) (t tx : TypeId)
    (ho : o.op = .call { callee := .builtin .append, args := #[s, x], argTypes := #[t, tx] })
    (base : Nat) (e e' : TypeId) (i : TypeInfo) (z : Value) (size bytes : Nat) (ht : P.underlying t = some (.slice e)) (hk : P.underlying tx = some (.slice e')) (hi : P.info? e = some i) (hz : i.zero = some z)
    (hsize : i.size = size) (hby : i.bytes = bytes) (hzs : z.cells.size = size) (hsz : 0 < size)
    (av : Option Addr) (n cv : Nat) (xs : List Value) (hs : a.eval s = .slice av n cv) (hown : w.ownsRow base e size (.slice av n cv) n xs)
    (ao : Option Addr) (m c : Nat) (news : List Value) (hx : a.eval x = .slice ao m c) (hl : news.length = m * size) (hnews : 0 < m → ∃ ad, ao = some ad ∧ ∀ j u, news[j]? = some u → w.cell? (ad.add j) = some u) (h1 : ∀ u ∈ news, u.oneCell' = true)
    (h63 : n + m ≤ maxLen) (hbytes : (n + m) * bytes ≤ 140737488355328) (hbase : base ≤ w.heap.size) (k : Nat) (hk2 : n + m = k)
    (h : ∀ a' cap w', w'.ownsRow base e size (.slice a' k cap) k (xs ++ news) → w.grownBy w' (Value.slice av n cv).ownBlock → wpList P ops Q rest (a.put o.dst (.slice a' k cap)) w') : wpList P ops Q (o :: rest) a w := by
  subst hk2
  by_cases hm : m = 0
  · subst hm
    have hn : news = [] := List.eq_nil_of_length_eq_zero (by simpa using hl)
    subst hn
    have hnc : n ≤ cv := by
      rcases hown.2 with ⟨e1, h2⟩ | ⟨g, cap, cur, e1, _, _, hnc, _⟩
      · obtain ⟨-, rfl, rfl⟩ := Value.slice.inj e1
        exact Nat.le_refl _
      · obtain ⟨-, -, rfl⟩ := Value.slice.inj e1
        exact hnc
    refine wpList_append_none hgd s x t tx ho e e' i ht hk hi av n cv hs hnc ao 0 c rfl hx ?_
    exact h av cv w (by simpa using hown) ⟨rfl, rfl, rfl, Nat.le_refl _, fun _ _ _ => rfl⟩
  · exact wpList_append_form w hgd s x t tx ho base e e' i z size bytes ht hk hi hz hsize hby hzs hsz (.slice av n cv) n xs hs hown ao m c news hx hl hnews h1 (by omega) h63 hbytes hbase fun g cap w' h2 h3 _ _ => h (some ⟨g, 0, none⟩) cap w' h2 h3
theorem filt_cols {a : List Co} {f : List Po} (h : f ∈ filtersL a) : ∀ o ∈ f, o.cols = [] := by
  intro o ho
  rcases List.mem_cons.1 h with rfl | h
  · cases ho
  · obtain ⟨k, -, h⟩ := List.mem_flatMap.1 h
    rcases List.mem_cons.1 h with rfl | h
    · rw [List.mem_singleton.1 ho]; rfl
    · obtain ⟨s, -, rfl⟩ := List.mem_map.1 h
      rw [List.mem_singleton.1 ho]; rfl
theorem ends_cols {n : Nat} {e : List Po} (h : e ∈ endsL n) : ∀ o ∈ e, o.cols = [] := by
  intro o ho
  rcases ends_form h with rfl | ⟨k, -, rfl⟩ | rfl | ⟨k, -, rfl⟩
  · cases ho
  · rw [List.mem_singleton.1 ho]; rfl
  · rw [List.mem_singleton.1 ho]; rfl
  · rcases List.mem_cons.1 ho with rfl | ho
    · rfl
    · rw [List.mem_singleton.1 ho]; rfl
theorem po_append {w : World} {base : Nat} {v : Value} {f p : List Po} {uv up : Nat → Value} {S S2 : Nat → Prop} (h : w.ownsRow base 122 4 v (f.length + p.length) (flatK 4 f.length (poF f uv) ++ flatK 4 p.length (poF p up))) (hS : ∀ b, v.ownBlock = some b → S b)
    (hSS : ∀ b, S2 b → S b) (hf : ∀ i, i < f.length → RdKs w S2 (uv i) (f.getD i Po.z).cols) (hp : ∀ i, i < p.length → RdKs w S2 (up i) (p.getD i Po.z).cols) : RdPo w S v (f ++ p) ∧ ∃ uw : Nat → Value, flatK 4 f.length (poF f uv) ++ flatK 4 p.length (poF p up) = flatK 4 (f ++ p).length (poF (f ++ p) uw) ∧ ∀ i, i < (f ++ p).length → RdKs w S2 (uw i) ((f ++ p).getD i Po.z).cols := by
  have key : ∀ m, m ≤ p.length → flatK 4 f.length (poF f uv) ++ flatK 4 m (poF p up) = flatK 4 (f.length + m) (poF (f ++ p) (fun i => if i < f.length then uv i else up (i - f.length))) := by
    intro m
    induction m with
    | zero =>
      intro _
      simp only [Nat.add_zero, flat_zero, List.append_nil]
      refine flatK_congr fun i hi j hj => ?_
      simp only [poF, if_pos hi, List.getD]
      rw [List.getElem?_append_left hi]
    | succ m ih =>
      intro hm
      rw [flatK_succ, ← List.append_assoc, ih (by omega), ← Nat.add_assoc, flatK_succ]
      congr 1
      refine List.map_congr_left fun j _ => ?_
      simp only [poF, if_neg (show ¬ f.length + m < f.length by omega), List.getD]
      rw [List.getElem?_append_right (by omega), show f.length + m - f.length = m by omega]
  have hk : ∀ i, i < (f ++ p).length → RdKs w S2 (if i < f.length then uv i else up (i - f.length)) ((f ++ p).getD i Po.z).cols := by
    intro i hi
    rw [List.length_append] at hi
    by_cases h1 : i < f.length
    · rw [if_pos h1]
      have := hf i h1
      simpa [List.getD, List.getElem?_append_left h1] using this
    · rw [if_neg h1]
      have := hp (i - f.length) (by omega)
      simpa [List.getD, List.getElem?_append_right (show f.length ≤ i by omega)] using this
  have e := key p.length (Nat.le_refl _)
  rw [← List.length_append] at e
  refine ⟨⟨_, ?_, fun i hi => (hk i hi).more hSS⟩, _, e, hk⟩
  rw [e] at h
  rw [← List.length_append] at h
  exact (inK_of_owns h).more hS
end Go.Proofs.YtaajpliifdlokaaGreatDoor
