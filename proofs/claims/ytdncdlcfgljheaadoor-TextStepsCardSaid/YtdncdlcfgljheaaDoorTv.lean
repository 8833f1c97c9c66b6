/- Plain laws of TextTwice: folded, trimmed and taken apart twice; a pattern does not see which digits there are. No program in sight. -/
import Derived.Lib.TrimByte
import Derived.Test.YtdncdlcfgljheaaDoorTp
import Derived.Test.YtdncdlcfgljheaaDoorPn
import Derived.Test.YtdncdlcfgljheaaDoorLp
namespace Go.Proofs.YtdncdlcfgljheaaDoor
open Go.Lib

def mapB (f : Nat → Nat) (s : ByteArray) : ByteArray := ⟨(s.data.toList.map fun c => UInt8.ofNat (f c.toNat)).toArray⟩
theorem foldB_map (s : ByteArray) : foldB s = mapB foldN s := rfl
theorem mapB_size (f : Nat → Nat) (s : ByteArray) : (mapB f s).size = s.size := by
  show (List.toArray _).size = s.data.size
  simp
theorem mapB_list (f : Nat → Nat) (s : ByteArray) : (mapB f s).data.toList = s.data.toList.map fun c => UInt8.ofNat (f c.toNat) := by simp [mapB]
theorem ba_ext {a b : ByteArray} (h : a.data.toList = b.data.toList) : a = b := by
  cases a; cases b
  simp at h
  rw [h]

theorem foldN_twice (c : Nat) : foldN (foldN c) = foldN c := by unfold foldN; (repeat' split) <;> omega
theorem foldB_twice (s : ByteArray) : foldB (foldB s) = foldB s := by
  apply ba_ext
  rw [foldB_map (foldB s), mapB_list, foldB_map s, mapB_list, List.map_map]
  apply List.map_congr_left
  intro c _
  have h := foldN_lt (UInt8.toNat_lt c)
  simp only [Function.comp]
  rw [UInt8.toNat_ofNat', Nat.mod_eq_of_lt (by omega), foldN_twice]

/-- a text of which no byte is a capital letter -/
theorem foldB_small (s : ByteArray) (h : ∀ c ∈ s.data.toList, foldN c.toNat = c.toNat) : foldB s = s := by
  apply ba_ext
  rw [foldB_map, mapB_list]
  conv => rhs; rw [← List.map_id s.data.toList]
  apply List.map_congr_left
  intro c hc
  rw [h c hc]
  simp
theorem foldN_tok {c : Nat} (h : inTok c = true) : foldN c = c := by
  have := of_decide_eq_true h
  unfold foldN
  rw [if_neg (by omega)]

section
variable (p : UInt8 → Bool)
theorem dw_self {l : List UInt8} (h : ∀ x xs, l = x :: xs → p x = false) : l.dropWhile p = l := by
  cases l with
  | nil => rfl
  | cons x xs => rw [List.dropWhile_cons, if_neg (by simp [h x xs rfl])]
theorem dw_head : ∀ (l : List UInt8) x xs, l.dropWhile p = x :: xs → p x = false
  | [], x, xs, h => by cases h
  | y :: ys, x, xs, h => by
    rw [List.dropWhile_cons] at h
    split at h
    · exact dw_head ys x xs h
    · rename_i hy
      cases h
      simpa using hy
end
theorem trimB_twice (l : List UInt8) (c : UInt8) : trimB (trimB l c) c = trimB l c := by
  unfold trimB trimLeftB trimRightB
  generalize hp : (fun x : UInt8 => x == c) = p
  have hm : ∀ x xs, (l.reverse.dropWhile p).reverse.reverse = x :: xs → p x = false := by
    intro x xs h
    rw [List.reverse_reverse] at h
    exact dw_head p _ x xs h
  generalize (l.reverse.dropWhile p).reverse = m at *
  have h2 : (m.dropWhile p).reverse.dropWhile p = (m.dropWhile p).reverse := by
    apply dw_self
    intro x xs h
    have e : m = m.takeWhile p ++ m.dropWhile p := List.takeWhile_append_dropWhile.symm
    apply hm x (xs ++ (m.takeWhile p).reverse)
    rw [e, List.reverse_append, h]
    simp [← e]
  rw [h2, List.reverse_reverse]
  exact dw_self p (dw_head p m)
theorem trimB_wide (l : List UInt8) (c : UInt8) : trimB (c :: (l ++ [c, c])) c = trimB l c := by
  unfold trimB trimLeftB trimRightB
  have e : (c :: (l ++ [c, c])).reverse = c :: c :: (l.reverse ++ [c]) := by simp
  rw [e, List.dropWhile_cons, if_pos (by simp), List.dropWhile_cons, if_pos (by simp), List.dropWhile_append]
  split
  · rename_i h
    have h' : l.reverse.dropWhile (· == c) = [] := by simpa using h
    rw [h']
    simp
  · rw [List.reverse_append]
    simp

/-- the tokens, by lists -/
def tokF : List UInt8 → List UInt8 → List (List UInt8)
  | cur, [] => if cur = [] then [] else [cur]
  | cur, c :: cs => if inTok c.toNat then tokF (cur ++ [c]) cs else if cur = [] then tokF [] cs else cur :: tokF [] cs

theorem extract_list (s : ByteArray) (a b : Nat) : s.extract a b = ⟨((s.data.toList.drop a).take (b - a)).toArray⟩ := by
  apply ba_ext
  simp [ByteArray.data_extract]

theorem toks_go (s : ByteArray) : ∀ (k i a : Nat) (acc : List (Nat × Nat)), i + k = s.data.toList.length → a ≤ i → runT (byteS s) i = (a, acc) →
    (runT (byteS s) (s.data.toList.length + 1)).2.map (fun x => s.extract x.1 x.2) = acc.map (fun x => s.extract x.1 x.2) ++ (tokF ((s.data.toList.drop a).take (i - a)) (s.data.toList.drop i)).map fun t => (⟨t.toArray⟩ : ByteArray) := by
  intro k
  have hsz : s.size = s.data.toList.length := by rw [Array.length_toList]; rfl
  induction k with
  | zero =>
    intro i a acc hi ha hr
    obtain rfl : i = s.data.toList.length := by omega
    have hu : (runT (byteS s) (s.data.toList.length + 1)).2 = if a < s.data.toList.length then acc ++ [(a, s.data.toList.length)] else acc := by
      show (stepT (byteS s) s.data.toList.length (runT (byteS s) s.data.toList.length)).2 = _
      have h32 : byteS s s.data.toList.length = 32 := by unfold byteS; rw [if_neg (by omega)]
      rw [hr]
      unfold stepT
      rw [h32, if_neg (by decide)]
    rw [hu, List.drop_length, tokF]
    by_cases h : a < s.data.toList.length
    · rw [if_pos h, if_neg (by intro e; have := congrArg List.length e; simp at this; omega), List.map_append, List.map_cons, List.map_nil, List.map_cons, List.map_nil, extract_list]
    · rw [if_neg h, if_pos (by rw [show s.data.toList.length - a = 0 by omega]; rfl)]
      simp
  | succ k ih =>
    intro i a acc hi ha hr
    have hlt : i < s.data.toList.length := by omega
    have hb : byteS s i = (s.data.toList[i]).toNat := by
      unfold byteS byteN
      rw [if_pos (by omega)]
      simp only [List.getD, List.getElem?_eq_getElem hlt, Option.getD_some]
    rw [List.drop_eq_getElem_cons hlt, tokF]
    by_cases ht : inTok (byteS s i) = true
    · have hr' : runT (byteS s) (i + 1) = (a, acc) := by
        show stepT (byteS s) i (runT (byteS s) i) = _
        rw [hr]
        unfold stepT
        rw [if_pos ht]
      rw [ih (i + 1) a acc (by omega) (by omega) hr', if_pos (by rw [← hb]; exact ht)]
      congr 3
      rw [show i + 1 - a = (i - a) + 1 by omega, List.take_add_one]
      congr 1
      rw [List.getElem?_drop, show a + (i - a) = i by omega, List.getElem?_eq_getElem hlt]
      rfl
    · have hr' : runT (byteS s) (i + 1) = (i + 1, if a < i then acc ++ [(a, i)] else acc) := by
        show stepT (byteS s) i (runT (byteS s) i) = _
        rw [hr]
        unfold stepT
        rw [if_neg ht]
      have hneg : ¬ inTok s.data.toList[i].toNat = true := by rw [← hb]; exact ht
      rw [ih (i + 1) (i + 1) _ (by omega) (Nat.le_refl _) hr', if_neg hneg, Nat.sub_self, List.take_zero]
      by_cases h : a < i
      · rw [if_pos h, if_neg (by intro e; have := congrArg List.length e; simp at this; omega), List.map_append, List.map_cons, List.map_nil, List.map_cons, extract_list]
        simp
      · rw [if_neg h, if_pos (by rw [show i - a = 0 by omega]; rfl)]
theorem toksB_list (s : ByteArray) : toksB s = (tokF [] s.data.toList).map fun t => (⟨t.toArray⟩ : ByteArray) := by
  have h := toks_go s s.data.toList.length 0 0 [] (by omega) (Nat.le_refl _) rfl
  have hsz : s.size = s.data.toList.length := by rw [Array.length_toList]; rfl
  unfold toksB tokSpans
  rw [hsz, h]
  simp

theorem tokF_all : ∀ (cs cur : List UInt8), (∀ c ∈ cur, inTok c.toNat = true) → ∀ t ∈ tokF cur cs, t ≠ [] ∧ ∀ c ∈ t, inTok c.toNat = true
  | [], cur, h, t, ht => by
    unfold tokF at ht
    split at ht
    · cases ht
    · rename_i hc
      rw [List.mem_singleton.1 ht]
      exact ⟨hc, h⟩
  | c :: cs, cur, h, t, ht => by
    unfold tokF at ht
    split at ht
    · rename_i hc
      refine tokF_all cs (cur ++ [c]) (fun x hx => ?_) t ht
      rcases List.mem_append.1 hx with hx | hx
      · exact h x hx
      · rw [List.mem_singleton.1 hx]; exact hc
    · split at ht
      · exact tokF_all cs [] (by simp) t ht
      · rename_i hc
        rcases List.mem_cons.1 ht with rfl | ht
        · exact ⟨hc, h⟩
        · exact tokF_all cs [] (by simp) t ht
theorem tokF_one : ∀ (cs cur : List UInt8), (∀ c ∈ cs, inTok c.toNat = true) → cur ++ cs ≠ [] → tokF cur cs = [cur ++ cs]
  | [], cur, _, h => by
    unfold tokF
    rw [if_neg (by simpa using h)]
    simp
  | c :: cs, cur, hc, h => by
    unfold tokF
    rw [if_pos (hc c (by simp)), tokF_one cs (cur ++ [c]) (fun x hx => hc x (by simp [hx])) (by simp)]
    simp
theorem tokF_sep (rest : List UInt8) : ∀ (cs cur : List UInt8), (∀ c ∈ cs, inTok c.toNat = true) → cur ++ cs ≠ [] → tokF cur (cs ++ 44 :: 32 :: rest) = (cur ++ cs) :: tokF [] rest
  | [], cur, _, h => by
    have h' : cur ≠ [] := by simpa using h
    rw [List.nil_append, tokF, if_neg (by decide), if_neg h', tokF, if_neg (by decide), if_pos rfl]
    simp
  | c :: cs, cur, hc, h => by
    rw [List.cons_append, tokF, if_pos (hc c (by simp)), tokF_sep rest cs (cur ++ [c]) (fun x hx => hc x (by simp [hx])) (by simp)]
    simp
theorem tokF_len : ∀ (cs cur : List UInt8), ((tokF cur cs).flatMap fun t => t ++ [44, 32]).length ≤ 3 * (cur.length + cs.length)
  | [], cur => by
    unfold tokF
    split
    · simp
    · rename_i h
      have : 0 < cur.length := List.length_pos_iff.2 h
      simp
      omega
  | c :: cs, cur => by
    unfold tokF
    split
    · have := tokF_len cs (cur ++ [c])
      simp at this ⊢
      omega
    · split
      · have := tokF_len cs []
        simp at this ⊢
        omega
      · rename_i h
        have h0 : 0 < cur.length := List.length_pos_iff.2 h
        have := tokF_len cs []
        rw [List.flatMap_cons, List.length_append]
        simp at this ⊢
        omega

/-- a list of texts, each with a comma and a space behind it -/
def allB (xs : List ByteArray) : ByteArray := ⟨(xs.flatMap fun t => t.data.toList ++ [44, 32]).toArray⟩
theorem allB_nil : allB [] = ⟨#[]⟩ := rfl
theorem allB_snoc (xs : List ByteArray) (x : ByteArray) : allB xs ++ (x ++ ⟨#[44, 32]⟩) = allB (xs ++ [x]) := by
  apply ba_ext
  simp [allB, ByteArray.data_append]
theorem allB_take (xs : List ByteArray) (k : Nat) : (allB (xs.take k)).size ≤ (allB xs).size := by
  have h : ∀ l, (allB l).size = (l.flatMap fun t => t.data.toList ++ [44, 32]).length := fun l => by show (List.toArray _).size = _; simp
  rw [h, h]
  conv => rhs; rw [← List.take_append_drop k xs, List.flatMap_append, List.length_append]
  omega
theorem toks_map (l : List (List UInt8)) : (l.map fun t => (⟨t.toArray⟩ : ByteArray)).flatMap (fun t => t.data.toList ++ [44, 32]) = l.flatMap fun t => t ++ [44, 32] := by
  induction l with
  | nil => rfl
  | cons t l ih => rw [List.map_cons, List.flatMap_cons, List.flatMap_cons, ih]
theorem allB_size (s : ByteArray) : (allB (toksB s)).size ≤ 3 * s.size := by
  have hsz : s.size = s.data.toList.length := by rw [Array.length_toList]; rfl
  have h := tokF_len s.data.toList []
  rw [toksB_list]
  show (List.toArray _).size ≤ _
  rw [List.size_toArray, toks_map, hsz]
  simpa using h
theorem toks_fix (s : ByteArray) : ∀ t ∈ toksB s, toksB (foldB t) = [t] := by
  intro t ht
  rw [toksB_list] at ht
  obtain ⟨l, hl, rfl⟩ := List.mem_map.1 ht
  obtain ⟨h0, h1⟩ := tokF_all _ [] (by simp) l hl
  rw [foldB_small _ (fun c hc => foldN_tok (h1 c (by simpa using hc))), toksB_list, tokF_one _ [] (by simpa using h1) (by simpa using h0)]
  simp
theorem tokF_join : ∀ (l : List (List UInt8)), (∀ t ∈ l, t ≠ [] ∧ ∀ c ∈ t, inTok c.toNat = true) → tokF [] (l.flatMap fun t => t ++ [44, 32]) = l
  | [], _ => rfl
  | t :: l, h => by
    rw [List.flatMap_cons, List.append_assoc]
    show tokF [] (t ++ 44 :: 32 :: (l.flatMap fun t => t ++ [44, 32])) = _
    rw [tokF_sep _ t [] (h t (by simp)).2 (by simpa using (h t (by simp)).1), tokF_join l (fun x hx => h x (by simp [hx]))]
    simp
theorem toks_join (s : ByteArray) : toksB (foldB (allB (toksB s))) = toksB s := by
  have h := tokF_all s.data.toList [] (by simp)
  have e : (allB (toksB s)).data.toList = (tokF [] s.data.toList).flatMap fun t => t ++ [44, 32] := by
    rw [toksB_list]
    show (List.toArray _).toList = _
    rw [List.toList_toArray, toks_map]
  rw [foldB_small, toksB_list (allB _), e, tokF_join _ h, ← toksB_list]
  intro c hc
  rw [e] at hc
  obtain ⟨t, ht, hc⟩ := List.mem_flatMap.1 hc
  rcases List.mem_append.1 hc with hc | hc
  · exact foldN_tok ((h t ht).2 c hc)
  · simp at hc
    rcases hc with rfl | rfl <;> decide

/-- a digit in place of a digit -/
def rotN (c : Nat) : Nat := if 48 ≤ c ∧ c ≤ 57 then 48 + (c - 48 + 7) % 10 else c
theorem rotN_lt {c : Nat} (h : c < 256) : rotN c < 256 := by unfold rotN; split <;> omega
theorem decodeN_same {n b0 b1 b2 b3 c1 c2 c3 : Nat} (h1 : b1 = c1 ∨ (b1 < 128 ∧ c1 < 128)) (h2 : b2 = c2 ∨ (b2 < 128 ∧ c2 < 128)) (h3 : b3 = c3 ∨ (b3 < 128 ∧ c3 < 128)) :
    decodeN n b0 b1 b2 b3 = decodeN n b0 c1 c2 c3 := by
  have key : ∀ b, b < 128 → ¬ b / 64 = 2 := fun b h => by omega
  rcases h1 with rfl | ⟨h1, g1⟩ <;> rcases h2 with rfl | ⟨h2, g2⟩ <;> rcases h3 with rfl | ⟨h3, g3⟩
  · rfl
  · have a := key _ h3; have b := key _ g3
    unfold decodeN; simp only [a, b, and_false, if_false]
  · have a := key _ h2; have b := key _ g2
    unfold decodeN; simp only [a, b, and_false, false_and, if_false]
  · have a := key _ h2; have b := key _ g2
    unfold decodeN; simp only [a, b, and_false, false_and, if_false]
  all_goals
    have a := key _ h1; have b := key _ g1
    unfold decodeN; simp only [a, b, and_false, false_and, if_false]
theorem get_out (s : ByteArray) {j : Nat} (h : ¬ j < s.size) : (s.get! j).toNat = 0 := by
  have h2 : ¬ j < s.data.size := h
  show (s.data[j]!).toNat = 0
  rw [getElem!_neg s.data j h2]
  rfl
theorem rot_get (s : ByteArray) (j : Nat) : ((mapB rotN s).get! j).toNat = rotN (s.get! j).toNat := by
  by_cases h : j < s.size
  · rw [get_byteN s h, get_byteN _ (by rw [mapB_size]; exact h)]
    have h1 : j < s.data.toList.length := by simpa using h
    have hlt := rotN_lt (byteN_lt s j)
    unfold byteN
    rw [mapB_list]
    simp only [List.getD, List.getElem?_map, List.getElem?_eq_getElem h1, Option.map_some, Option.getD_some]
    unfold byteN at hlt
    simp only [List.getD, List.getElem?_eq_getElem h1, Option.getD_some] at hlt
    rw [UInt8.toNat_ofNat', Nat.mod_eq_of_lt (by omega)]
  · rw [get_out s h, get_out _ (by rw [mapB_size]; exact h)]
    rfl
theorem rotN_or (c : Nat) : c = rotN c ∨ (c < 128 ∧ rotN c < 128) := by unfold rotN; split <;> omega
theorem clsN_rot (c : Nat) : clsN (rotN c) = clsN c := by
  unfold rotN
  split
  · unfold clsN
    rw [if_pos (by omega), if_pos (by omega)]
  · rfl
theorem decode_rot (s : ByteArray) (pos : Nat) : clsN (Utf8.decode (mapB rotN s) pos).1 = clsN (Utf8.decode s pos).1 ∧ (Utf8.decode (mapB rotN s) pos).2 = (Utf8.decode s pos).2 := by
  rw [decode_at, decode_at, mapB_size, rot_get, rot_get, rot_get, rot_get]
  have e := fun n b0 => decodeN_same (n := n) (b0 := b0) (rotN_or (s.get! (pos + 1)).toNat) (rotN_or (s.get! (pos + 2)).toNat) (rotN_or (s.get! (pos + 3)).toNat)
  rw [← e]
  generalize (s.get! pos).toNat = b0
  by_cases h : b0 < 128
  · have h' : rotN b0 < 128 := by unfold rotN; split <;> omega
    unfold decodeN
    rw [if_pos h, if_pos h']
    exact ⟨clsN_rot b0, rfl⟩
  · rw [show rotN b0 = b0 by unfold rotN; rw [if_neg (by omega)]]
    exact ⟨rfl, rfl⟩
theorem pts_rot (s : ByteArray) : ∀ fuel pos, (ptsFrom (mapB rotN s) fuel pos).map clsN = (ptsFrom s fuel pos).map clsN
  | 0, _ => rfl
  | f + 1, pos => by
    have ih := pts_rot s f (pos + (Utf8.decode s pos).2)
    obtain ⟨h1, h2⟩ := decode_rot s pos
    unfold ptsFrom
    rw [mapB_size]
    split
    · rw [List.map_cons, List.map_cons, h1, h2, ih]
    · rfl
theorem patB_rot (s : ByteArray) : patB (mapB rotN s) = patB s := by
  unfold patB pts
  rw [mapB_size, pts_rot]

end Go.Proofs.YtdncdlcfgljheaaDoor
