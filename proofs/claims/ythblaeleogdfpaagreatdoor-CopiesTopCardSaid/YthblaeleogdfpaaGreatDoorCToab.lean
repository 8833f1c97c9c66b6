/- Words for tables: cells, columns, tables in memory; rows whose elements lead to memory. No program in sight. Words for tables: valid texts, cells, tables; what the types look like. No program in sight. -/
import Derived.Test.YthblaeleogdfpaaGreatDoorCToaa
import Derived.Lib.ValidU
set_option linter.unusedVariables false
set_option linter.unusedSimpArgs false
namespace Go.Proofs.YthblaeleogdfpaaGreatDoor
open Go.RowKit
def InK (k : Nat) (w : World) (S : Nat → Prop) (v : Value) (n : Nat) (f : Nat → Nat → Value) : Prop :=
  ∃ a c, v = .slice a n c ∧ n ≤ c ∧ c ≤ maxLen ∧ (0 < n → ∃ b o, a = some ⟨b, o, none⟩ ∧ S b ∧ ∀ i, i < n → ∀ j, j < k → w.cell? ⟨b, o + i * k + j, none⟩ = some (f i j))
section
variable {k : Nat} {w w' : World} {S S' : Nat → Prop} {v : Value} {n : Nat} {f g : Nat → Nat → Value}
theorem InK.keep (h : InK k w S v n f) (hk : ∀ p : Addr, S p.block → w'.cell? p = w.cell? p) : InK k w' S v n f := by
 obtain ⟨a, c, e, h1, h2, h3⟩ := h
 refine ⟨a, c, e, h1, h2, fun hp => ?_⟩
 obtain ⟨b, o, e1, h5, h6⟩ := h3 hp
 exact ⟨b, o, e1, h5, fun i hi j hj => (hk _ h5).trans (h6 i hi j hj)⟩
theorem InK.more (h : InK k w S v n f) (hS : ∀ b, S b → S' b) : InK k w S' v n f := by
 obtain ⟨a, c, e, h1, h2, h3⟩ := h
 refine ⟨a, c, e, h1, h2, fun hp => ?_⟩
 obtain ⟨b, o, e1, h5, h6⟩ := h3 hp
 exact ⟨b, o, e1, hS _ h5, h6⟩
theorem InK.nil : InK k w S (.slice none 0 0) 0 f := ⟨none, 0, rfl, Nat.le_refl _, by simp [maxLen], fun h => absurd h (by omega)⟩
theorem InK.congr (h : InK k w S v n f) (e : ∀ i, i < n → ∀ j, j < k → f i j = g i j) : InK k w S v n g := by
 obtain ⟨a, c, e1, h1, h2, h3⟩ := h
 refine ⟨a, c, e1, h1, h2, fun hp => ?_⟩
 obtain ⟨b, o, e2, h5, h6⟩ := h3 hp
 exact ⟨b, o, e2, h5, fun i hi j hj => by rw [← e i hi j hj]; exact h6 i hi j hj⟩
theorem InK.rd {B : Nat} {f : Nat → Value} (h : InK 1 w S v n (fun i _ => f i)) (hS : ∀ b, S b → b < B) : Rd w B v n f := by
 obtain ⟨a, c, e, h1, h2, h3⟩ := h
 refine ⟨a, c, e, h1, h2, fun hp => ?_⟩
 obtain ⟨b, o, e1, h5, h6⟩ := h3 hp
 exact ⟨b, o, e1, hS _ h5, fun i hi => by have := h6 i hi 0 (by omega); simpa using this⟩
theorem inK_of_rd {B : Nat} {f : Nat → Value} (h : Rd w B v n f) : InK 1 w (· < B) v n (fun i _ => f i) := by
  obtain ⟨a, c, e, h1, h2, h3⟩ := h
  refine ⟨a, c, e, h1, h2, fun hp => ?_⟩
  obtain ⟨b, o, e1, h5, h6⟩ := h3 hp
  exact ⟨b, o, e1, h5, fun i hi j hj => by obtain rfl : j = 0 := by omega
                                           rw [Nat.mul_one, Nat.add_zero]; exact h6 i hi⟩
end
def flatK (k n : Nat) (f : Nat → Nat → Value) : List Value := (List.range n).flatMap fun i => (List.range k).map (f i)
theorem flatK_succ (k n : Nat) (f : Nat → Nat → Value) : flatK k (n + 1) f = flatK k n f ++ (List.range k).map (f n) := by
 simp [flatK, List.range_succ, List.flatMap_append]
theorem flatK_len (k n : Nat) (f : Nat → Nat → Value) : (flatK k n f).length = n * k := by
 induction n with
 | zero => simp [flatK]
 | succ n ih => rw [flatK_succ, List.length_append, ih]; simp [Nat.succ_mul]
theorem flatK_congr {k n : Nat} {f g : Nat → Nat → Value} (h : ∀ i, i < n → ∀ j, j < k → f i j = g i j) : flatK k n f = flatK k n g := by
 induction n with
 | zero => rfl
 | succ n ih =>
  rw [flatK_succ, flatK_succ, ih fun i hi => h i (by omega)]
  congr 1
  exact List.map_congr_left fun j hj => h n (by omega) j (List.mem_range.1 hj)
theorem flatK_at {k n : Nat} {f : Nat → Nat → Value} {i j : Nat} (hi : i < n) (hj : j < k) : (flatK k n f)[i * k + j]? = some (f i j) := by
 induction n with
 | zero => omega
 | succ n ih =>
  rw [flatK_succ]
  by_cases e : i = n
  ·subst e
   rw [List.getElem?_append_right (by rw [flatK_len]; omega), flatK_len, show i * k + j - i * k = j by omega]
   simp [hj]
  ·have hlt : i * k + j < n * k := by
    have : (i + 1) * k ≤ n * k := Nat.mul_le_mul_right _ (by omega)
    rw [Nat.succ_mul] at this
    omega
   rw [List.getElem?_append_left (by rw [flatK_len]; exact hlt)]
   exact ih (by omega)
theorem flat_push {k n : Nat} {f f' : Nat → Nat → Value} {news : List Value} (h1 : ∀ i, i < n → ∀ j, j < k → f' i j = f i j) (h2 : news = (List.range k).map (f' n)) : flatK k n f ++ news = flatK k (n + 1) f' := by
 rw [flatK_succ, h2, flatK_congr h1]
theorem own_same {w : World} {base base' : Nat} {e e' : TypeId} {size n : Nat} {v : Value} {xs ys : List Value} (h : w.ownsRow base e size v n xs) (h' : w.ownsRow base' e' size v n ys) : xs = ys := by
 rcases h.2 with ⟨e1, h1⟩ | ⟨g1, cap1, cur1, e1, _, hc1, _, _, _, ht1⟩
 ·have a1 := h.1
  have a2 := h'.1
  rw [h1] at a1 a2
  rw [List.eq_nil_of_length_eq_zero (l := xs) (by simpa using a1), List.eq_nil_of_length_eq_zero (l := ys) (by simpa using a2)]
 ·rcases h'.2 with ⟨e2, h2⟩ | ⟨g2, cap2, cur2, e2, _, hc2, _, _, _, ht2⟩
  ·rw [e1] at e2; cases e2
  ·rw [e1] at e2
   obtain ⟨e3, _, _⟩ := Value.slice.inj e2
   cases e3
   rw [hc1] at hc2
   cases hc2
   rw [← ht1, ht2]
theorem inK_of_owns {w : World} {base : Nat} {e : TypeId} {k : Nat} {v : Value} {n : Nat} {f : Nat → Nat → Value} (h : w.ownsRow base e k v n (flatK k n f)) :
  InK k w (fun b => v.ownBlock = some b) v n f := by
 obtain ⟨hl, h⟩ := h
 rcases h with ⟨rfl, rfl⟩ | ⟨g, cap, cur, rfl, hb, hg, hn, hm, hs, ht⟩
 ·exact InK.nil
 ·refine ⟨_, _, rfl, hn, hm, fun hp => ⟨g, 0, rfl, rfl, fun i hi j hj => ?_⟩⟩
  have h1 := flatK_at (f := f) hi hj
  rw [Nat.zero_add, cell_of_row w g _ cur e (0, 0) hg]
  rw [← ht, List.getElem?_take] at h1
  split at h1
  ·simpa using h1
  ·cases h1
def Keeps (Q : World → (Nat → Prop) → Prop) : Prop := ∀ w w' S S', Q w S → (∀ p : Addr, S p.block → w'.cell? p = w.cell? p) → (∀ b, S b → S' b) → Q w' S'
def Own (w : World) (base : Nat) (v : Value) (b : Nat) : Prop := base ≤ b ∧ b < w.heap.size ∧ v.ownBlock ≠ some b
structure Nest (k : Nat) (w : World) (base : Nat) (e : TypeId) (v : Value) (n : Nat) (f : Nat → Nat → Value) (Q : Nat → World → (Nat → Prop) → Prop) : Prop where
  row : w.ownsRow base e k v n (flatK k n f)
  low : base ≤ w.heap.size
  kids : ∀ i, i < n → Q i w (Own w base v)
section
variable {k : Nat} {w w' : World} {base : Nat} {e : TypeId} {v : Value} {n : Nat} {f f' : Nat → Nat → Value} {Q Q' : Nat → World → (Nat → Prop) → Prop}
theorem Nest.start (hb : base ≤ w.heap.size) : Nest k w base e (.slice none 0 0) 0 f Q := ⟨World.ownsRow_nil _ _ _ _, hb, fun i hi => absurd hi (by omega)⟩
theorem Nest.roll (h : Nest k w base e v n f Q) (hQ : ∀ i, i < n → Keeps (Q i)) {B g : Nat} (hr : Roll B g w w') (hB : w.heap.size ≤ B) (hg : g < base) : Nest k w' base e v n f Q where
 row := own_roll h.row hr hB hg
 low := Nat.le_trans h.low hr.size
 kids i hi := hQ i hi _ _ _ _ (h.kids i hi) (fun p hp => hr.cell (by have := hp.2.1; omega) (by have := hp.1; omega)) (fun b hb => ⟨hb.1, Nat.lt_of_lt_of_le hb.2.1 hr.size, hb.2.2⟩)
theorem Nest.below (h : Nest k w base e v n f Q) (hQ : ∀ i, i < n → Keeps (Q i)) {B : Nat} (hb : Below B w w') (hB : w.heap.size ≤ B) (hp : 0 < base) : Nest k w' base e v n f Q :=
 h.roll hQ (Roll.of_below hb 0) hB hp
theorem Nest.alloc (h : Nest k w base e v n f Q) (hQ : ∀ i, i < n → Keeps (Q i)) (O : Obj) : Nest k (w.alloc O) base e v n f Q where
 row := h.row.alloc O
 low := by rw [World.size_alloc]; exact Nat.le_succ_of_le h.low
 kids i hi := hQ i hi _ _ _ _ (h.kids i hi) (fun p hp => World.cell?_alloc_lt _ _ _ hp.2.1) (fun b hb => ⟨hb.1, by rw [World.size_alloc]; exact Nat.lt_succ_of_lt hb.2.1, hb.2.2⟩)
theorem Nest.drewN (h : Nest k w base e v n f Q) (hQ : ∀ i, i < n → Keeps (Q i)) (m : Nat) : Nest k (w.drewN m) base e v n f Q where
 row := own_drewN h.row m
 low := h.low
 kids i hi := hQ i hi _ _ _ _ (h.kids i hi) (fun _ _ => rfl) (fun _ hb => hb)
theorem Nest.setCell (h : Nest k w base e v n f Q) (hQ : ∀ i, i < n → Keeps (Q i)) {p : Addr} (hp : p.block < base) (u : Value) : Nest k (w.setCell p u) base e v n f Q where
 row := ownsRow_setCell_below h.row hp u
 low := by rw [World.size_setCell]; exact h.low
 kids i hi := hQ i hi _ _ _ _ (h.kids i hi) (fun q hq => World.cell?_setCell_other _ _ _ _ (by intro e; subst e; have := hq.1; omega)) (fun b hb => ⟨hb.1, by rw [World.size_setCell]; exact hb.2.1, hb.2.2⟩)
theorem Nest.push (h : Nest k w base e v n f Q) (hQ : ∀ i, i < n → Keeps (Q i)) {g cap : Nat} {news : List Value}
  (hown : w'.ownsRow base e k (.slice (some ⟨g, 0, none⟩) (n + 1) cap) (n + 1) (flatK k n f ++ news)) (hg : w.grownBy w' v.ownBlock) (hat : v.ownBlock = some g ∨ g = w.heap.size)
  (hnew : Q' n w (Own w base v)) (hkn : Keeps (Q' n)) (hf : ∀ i, i < n → ∀ j, j < k → f' i j = f i j) (hn : news = (List.range k).map (f' n)) (hQQ : ∀ i, i < n → Q' i = Q i) :
  Nest k w' base e (.slice (some ⟨g, 0, none⟩) (n + 1) cap) (n + 1) f' Q' := by
 have hc : ∀ p : Addr, Own w base v p.block → w'.cell? p = w.cell? p := fun p hp => World.cell?_of_block (hg.block _ hp.2.1 (fun e => hp.2.2 e.symm))
 have hs : ∀ b, Own w base v b → Own w' base (.slice (some ⟨g, 0, none⟩) (n + 1) cap) b := fun b hb => ⟨hb.1, Nat.lt_of_lt_of_le hb.2.1 hg.size, fun e => by
  have e1 : g = b := by simpa [Value.ownBlock] using e
  subst e1
  rcases hat with h1 | h1
  ·exact hb.2.2 h1
  ·have := hb.2.1; omega⟩
 refine ⟨by rw [← flat_push hf hn]; exact hown, Nat.le_trans h.low hg.size, fun i hi => ?_⟩
 by_cases e : i = n
 ·subst e
  exact hkn _ _ _ _ hnew hc hs
 ·have hi' : i < n := by omega
  rw [hQQ i hi']
  exact hQ i hi' _ _ _ _ (h.kids i hi') hc hs
end
structure Cl where
  null : Bool
  text : ByteArray
structure Co where
  name : ByteArray
  cells : List Cl
structure Ta where
  id : Int
  name : ByteArray
  cols : List Co
def Cl.z : Cl := ⟨false, ⟨#[]⟩⟩
def Co.z : Co := ⟨⟨#[]⟩, []⟩
def Ta.z : Ta := ⟨0, ⟨#[]⟩, []⟩
def two (a b : Value) : Nat → Value
  | 0 => a
  | _ => b
def three (a b c : Value) : Nat → Value
  | 0 => a
  | 1 => b
  | _ => c
def clF (cs : List Cl) (i : Nat) : Nat → Value := two (.bool (cs.getD i Cl.z).null) (.string (cs.getD i Cl.z).text)
def coF (xs : List Co) (cv : Nat → Value) (i : Nat) : Nat → Value := two (.string (xs.getD i Co.z).name) (cv i)
def taF (ts : List Ta) (tv : Nat → Value) (i : Nat) : Nat → Value := three (.int .i64 (ts.getD i Ta.z).id) (.string (ts.getD i Ta.z).name) (tv i)
def RdCl (w : World) (S : Nat → Prop) (v : Value) (cs : List Cl) : Prop := InK 2 w S v cs.length (clF cs)
def RdCo (w : World) (S : Nat → Prop) (v : Value) (xs : List Co) : Prop :=
  ∃ cv, InK 2 w S v xs.length (coF xs cv) ∧ ∀ i, i < xs.length → RdCl w S (cv i) (xs.getD i Co.z).cells
def RdTa (w : World) (S : Nat → Prop) (v : Value) (ts : List Ta) : Prop :=
  ∃ tv, InK 3 w S v ts.length (taF ts tv) ∧ ∀ i, i < ts.length → RdCo w S (tv i) (ts.getD i Ta.z).cols
section
variable {w w' : World} {S S' : Nat → Prop} {v : Value}
theorem RdCl.keep {cs : List Cl} (h : RdCl w S v cs) (hk : ∀ p : Addr, S p.block → w'.cell? p = w.cell? p) : RdCl w' S v cs := InK.keep h hk
theorem RdCl.more {cs : List Cl} (h : RdCl w S v cs) (hS : ∀ b, S b → S' b) : RdCl w S' v cs := InK.more h hS
theorem RdCo.keep {xs : List Co} (h : RdCo w S v xs) (hk : ∀ p : Addr, S p.block → w'.cell? p = w.cell? p) : RdCo w' S v xs := by
 obtain ⟨cv, h1, h2⟩ := h
 exact ⟨cv, h1.keep hk, fun i hi => (h2 i hi).keep hk⟩
theorem RdCo.more {xs : List Co} (h : RdCo w S v xs) (hS : ∀ b, S b → S' b) : RdCo w S' v xs := by
 obtain ⟨cv, h1, h2⟩ := h
 exact ⟨cv, h1.more hS, fun i hi => (h2 i hi).more hS⟩
theorem RdTa.keep {ts : List Ta} (h : RdTa w S v ts) (hk : ∀ p : Addr, S p.block → w'.cell? p = w.cell? p) : RdTa w' S v ts := by
 obtain ⟨tv, h1, h2⟩ := h
 exact ⟨tv, h1.keep hk, fun i hi => (h2 i hi).keep hk⟩
theorem RdTa.more {ts : List Ta} (h : RdTa w S v ts) (hS : ∀ b, S b → S' b) : RdTa w S' v ts := by
 obtain ⟨tv, h1, h2⟩ := h
 exact ⟨tv, h1.more hS, fun i hi => (h2 i hi).more hS⟩
theorem RdCl.nil : RdCl w S (.slice none 0 0) [] := InK.nil
theorem RdCo.nil : RdCo w S (.slice none 0 0) [] := ⟨fun _ => .bool false, InK.nil, fun i hi => absurd hi (by simp)⟩
theorem RdTa.nil : RdTa w S (.slice none 0 0) [] := ⟨fun _ => .bool false, InK.nil, fun i hi => absurd hi (by simp)⟩
end
theorem keeps_cl (v : Value) (cs : List Cl) : Keeps (fun w S => RdCl w S v cs) := fun _ _ _ _ h hk hS => (h.keep hk).more hS
theorem keeps_co (v : Value) (xs : List Co) : Keeps (fun w S => RdCo w S v xs) := fun _ _ _ _ h hk hS => (h.keep hk).more hS
def News (w w' : World) (b : Nat) : Prop := w.heap.size ≤ b ∧ b < w'.heap.size
def CoSt (w : World) (base : Nat) (e : TypeId) (v : Value) (xs : List Co) : Prop :=
  ∃ cv : Nat → Value, Nest 2 w base e v xs.length (coF xs cv) (fun i w S => RdCl w S (cv i) (xs.getD i Co.z).cells)
def TaSt (w : World) (base : Nat) (e : TypeId) (v : Value) (ts : List Ta) : Prop :=
  ∃ tv : Nat → Value, Nest 3 w base e v ts.length (taF ts tv) (fun i w S => RdCo w S (tv i) (ts.getD i Ta.z).cols)
section
variable {w w' : World} {base : Nat} {e : TypeId} {v : Value} {xs : List Co} {ts : List Ta}
theorem CoSt.start (hb : base ≤ w.heap.size) : CoSt w base e (.slice none 0 0) [] := ⟨fun _ => .bool false, Nest.start hb⟩
theorem CoSt.roll (h : CoSt w base e v xs) {B g : Nat} (hr : Roll B g w w') (hB : w.heap.size ≤ B) (hg : g < base) : CoSt w' base e v xs := by
 obtain ⟨cv, h⟩ := h
 exact ⟨cv, h.roll (fun i _ => keeps_cl _ _) hr hB hg⟩
theorem CoSt.alloc (h : CoSt w base e v xs) (O : Obj) : CoSt (w.alloc O) base e v xs := by
 obtain ⟨cv, h⟩ := h
 exact ⟨cv, h.alloc (fun i _ => keeps_cl _ _) O⟩
theorem CoSt.drewN (h : CoSt w base e v xs) (m : Nat) : CoSt (w.drewN m) base e v xs := by
 obtain ⟨cv, h⟩ := h
 exact ⟨cv, h.drewN (fun i _ => keeps_cl _ _) m⟩
theorem CoSt.setCell (h : CoSt w base e v xs) {p : Addr} (hp : p.block < base) (u : Value) : CoSt (w.setCell p u) base e v xs := by
 obtain ⟨cv, h⟩ := h
 exact ⟨cv, h.setCell (fun i _ => keeps_cl _ _) hp u⟩
theorem CoSt.owns (h : CoSt w base e v xs) : ∃ L, w.ownsRow base e 2 v xs.length L := by
 obtain ⟨cv, h⟩ := h
 exact ⟨_, h.row⟩
theorem CoSt.push (h : CoSt w base e v xs) {L : List Value} (hL : w.ownsRow base e 2 v xs.length L) {x : Co} {u : Value} {g n cap : Nat} (hn : n = xs.length + 1)
  (hown : w'.ownsRow base e 2 (.slice (some ⟨g, 0, none⟩) n cap) n (L ++ [.string x.name, u])) (hg : w.grownBy w' v.ownBlock) (hat : v.ownBlock = some g ∨ g = w.heap.size)
  (hnew : RdCl w (Own w base v) u x.cells) : CoSt w' base e (.slice (some ⟨g, 0, none⟩) n cap) (xs ++ [x]) := by
 obtain ⟨cv, h⟩ := h
 subst hn
 have hLL : L = flatK 2 xs.length (coF xs cv) := own_same hL h.row
 subst hLL
 refine ⟨fun i => if i = xs.length then u else cv i, ?_⟩
 rw [List.length_append, List.length_singleton]
 refine h.push (fun i _ => keeps_cl _ _) hown hg hat ?_ (keeps_cl _ _) ?_ ?_ ?_
 ·simpa [List.getD] using hnew
 ·intro i hi j hj
  have : i ≠ xs.length := by omega
  simp [coF, List.getD, List.getElem?_append_left hi, this]
 ·simp [coF, List.getD, List.range_succ, two]
 ·intro i hi
  have : i ≠ xs.length := by omega
  simp [List.getD, List.getElem?_append_left hi, this]
theorem CoSt.read (h : CoSt w base e v xs) : RdCo w (fun b => base ≤ b ∧ b < w.heap.size) v xs := by
 obtain ⟨cv, h⟩ := h
 exact ⟨cv, (inK_of_owns h.row).more fun b hb => h.row.lt b hb, fun i hi => (h.kids i hi).more fun b hb => ⟨hb.1, hb.2.1⟩⟩
theorem TaSt.start (hb : base ≤ w.heap.size) : TaSt w base e (.slice none 0 0) [] := ⟨fun _ => .bool false, Nest.start hb⟩
theorem TaSt.roll (h : TaSt w base e v ts) {B g : Nat} (hr : Roll B g w w') (hB : w.heap.size ≤ B) (hg : g < base) : TaSt w' base e v ts := by
 obtain ⟨tv, h⟩ := h
 exact ⟨tv, h.roll (fun i _ => keeps_co _ _) hr hB hg⟩
theorem TaSt.alloc (h : TaSt w base e v ts) (O : Obj) : TaSt (w.alloc O) base e v ts := by
 obtain ⟨tv, h⟩ := h
 exact ⟨tv, h.alloc (fun i _ => keeps_co _ _) O⟩
theorem TaSt.drewN (h : TaSt w base e v ts) (m : Nat) : TaSt (w.drewN m) base e v ts := by
 obtain ⟨tv, h⟩ := h
 exact ⟨tv, h.drewN (fun i _ => keeps_co _ _) m⟩
theorem TaSt.owns (h : TaSt w base e v ts) : ∃ L, w.ownsRow base e 3 v ts.length L := by
 obtain ⟨tv, h⟩ := h
 exact ⟨_, h.row⟩
theorem TaSt.push (h : TaSt w base e v ts) {L : List Value} (hL : w.ownsRow base e 3 v ts.length L) {x : Ta} {u : Value} {g n cap : Nat} (hn : n = ts.length + 1)
  (hown : w'.ownsRow base e 3 (.slice (some ⟨g, 0, none⟩) n cap) n (L ++ [.int .i64 x.id, .string x.name, u])) (hg : w.grownBy w' v.ownBlock) (hat : v.ownBlock = some g ∨ g = w.heap.size)
  (hnew : RdCo w (Own w base v) u x.cols) : TaSt w' base e (.slice (some ⟨g, 0, none⟩) n cap) (ts ++ [x]) := by
 obtain ⟨tv, h⟩ := h
 subst hn
 have hLL : L = flatK 3 ts.length (taF ts tv) := own_same hL h.row
 subst hLL
 refine ⟨fun i => if i = ts.length then u else tv i, ?_⟩
 rw [List.length_append, List.length_singleton]
 refine h.push (fun i _ => keeps_co _ _) hown hg hat ?_ (keeps_co _ _) ?_ ?_ ?_
 ·simpa [List.getD] using hnew
 ·intro i hi j hj
  have : i ≠ ts.length := by omega
  simp [taF, List.getD, List.getElem?_append_left hi, this]
 ·simp [taF, List.getD, List.range_succ, three]
 ·intro i hi
  have : i ≠ ts.length := by omega
  simp [List.getD, List.getElem?_append_left hi, this]
theorem TaSt.read (h : TaSt w base e v ts) : RdTa w (fun b => base ≤ b ∧ b < w.heap.size) v ts := by
 obtain ⟨tv, h⟩ := h
 exact ⟨tv, (inK_of_owns h.row).more fun b hb => h.row.lt b hb, fun i hi => (h.kids i hi).more fun b hb => ⟨hb.1, hb.2.1⟩⟩
end
theorem rdCl_of_own {w : World} {base : Nat} {e : TypeId} {v : Value} {cs : List Cl} (h : w.ownsRow base e 2 v cs.length (flatK 2 cs.length (clF cs))) :
  RdCl w (fun b => base ≤ b ∧ b < w.heap.size) v cs := (inK_of_owns h).more fun b hb => h.lt b hb
theorem cl_push (cs : List Cl) (x : Cl) : flatK 2 cs.length (clF cs) ++ [.bool x.null, .string x.text] = flatK 2 (cs ++ [x]).length (clF (cs ++ [x])) := by
 rw [List.length_append, List.length_singleton]
 refine flat_push (fun i hi j hj => ?_) ?_
 ·simp [clF, List.getD, List.getElem?_append_left hi]
 ·simp [clF, List.getD, List.range_succ, two]
def BoxN (w : World) (b : Nat) (t : TypeId) (vs : Array Value) : Prop := w.heap[b]? = some (.cells vs t (0, 0))
section
variable {w w' : World} {b B g : Nat} {t : TypeId} {vs : Array Value}
theorem BoxN.lt (h : BoxN w b t vs) : b < w.heap.size := (Array.getElem?_eq_some_iff.1 h).1
theorem BoxN.cell (h : BoxN w b t vs) (i : Nat) {v : Value} (hv : vs[i]? = some v) : w.cell? ⟨b, i, none⟩ = some v := by
 rw [cell_of_row w b i vs t (0, 0) h]; exact hv
theorem BoxN.frozen (h : BoxN w b t vs) (i : Nat) : w.frozen? ⟨b, i, none⟩ = false := by simp [World.frozen?, show w.heap[b]? = _ from h]
theorem BoxN.roll (h : BoxN w b t vs) (hr : Roll B g w w') (hb : b < B) (hg : b ≠ g) : BoxN w' b t vs := (hr.block b hb hg).trans h
theorem BoxN.below (h : BoxN w b t vs) (hr : Below B w w') (hb : b < B) : BoxN w' b t vs := (hr.block b hb).trans h
theorem BoxN.alloc (h : BoxN w b t vs) (o : Obj) : BoxN (w.alloc o) b t vs := (Below.heap_alloc w o b h.lt).trans h
theorem BoxN.drewN (h : BoxN w b t vs) (n : Nat) : BoxN (w.drewN n) b t vs := h
theorem BoxN.grown (h : BoxN w b t vs) {row : Option Nat} (hg : w.grownBy w' row) (hne : some b ≠ row) : BoxN w' b t vs := (hg.block b h.lt hne).trans h
theorem BoxN.new (w : World) (vs : Array Value) (t : TypeId) : BoxN (w.alloc (.cells vs t)) w.heap.size t vs := heap_alloc_new w _
theorem BoxN.set (h : BoxN w b t vs) (i : Nat) (u : Value) : BoxN (w.setCell ⟨b, i, none⟩ u) b t (vs.setIfInBounds i u) := by
 unfold BoxN at *
 simp [World.setCell, Array.getElem?_modify, h]
theorem BoxN.other (h : BoxN w b t vs) {p : Addr} (hp : p.block ≠ b) (u : Value) : BoxN (w.setCell p u) b t vs := (Below.heap_setCell _ _ _ _ (Ne.symm hp)).trans h
end
theorem cell_one_at {w : World} {b : Nat} (x : Value) (t : TypeId) (hb : b = w.heap.size) : ∀ j u, [x][j]? = some u → (w.alloc (.cells #[x] t)).cell? ((⟨b, 0, none⟩ : Addr).add j) = some u := by
 subst hb
 intro j u hu
 rw [Addr.add_lit, World.cell?_alloc_at _ _ _ _ rfl]
 simpa using hu
theorem cell_two_at {w : World} {b : Nat} (x y : Value) (t : TypeId) (hb : b = w.heap.size) : ∀ j u, [x, y][j]? = some u → (w.alloc (.cells #[x, y] t)).cell? ((⟨b, 0, none⟩ : Addr).add j) = some u := by
 subst hb
 intro j u hu
 rw [Addr.add_lit, World.cell?_alloc_at _ _ _ _ rfl]
 simpa using hu
end Go.Proofs.YthblaeleogdfpaaGreatDoor

namespace Go.Proofs.YthblaeleogdfpaaGreatDoor
open Go.RowKit
def TextOk (n : Nat) (s : ByteArray) : Prop := s.size ≤ n ∧ Lib.validD s.data.toList = true
def CellOk (c : Cl) : Prop := (c.null = true → c.text = ⟨#[]⟩) ∧ TextOk 1024 c.text
theorem cellOk_null : CellOk ⟨true, ⟨#[]⟩⟩ := by unfold CellOk TextOk; decide +kernel
theorem TextOk.more {m n : Nat} {s : ByteArray} (h : TextOk m s) (hn : m ≤ n) : TextOk n s := ⟨Nat.le_trans h.1 hn, h.2⟩
theorem cellOk_text {s : ByteArray} (h : TextOk 8 s) : CellOk ⟨false, s⟩ := ⟨(fun h => by cases h), h.more (by decide)⟩
theorem info_cell : (Tryz.prog.info? 104).map (fun i => (i.zero, i.size, i.bytes)) = some (some (.agg #[.bool false, .string ⟨#[]⟩]), 2, 24) := by kernel_rfl
theorem info_col : (Tryz.prog.info? 30).map (fun i => (i.zero, i.size, i.bytes)) = some (some (.agg #[.string ⟨#[]⟩, .slice none 0 0]), 2, 40) := by kernel_rfl
theorem info_tab : (Tryz.prog.info? 24).map (fun i => (i.zero, i.size, i.bytes)) = some (some (.agg #[.int .i64 0, .string ⟨#[]⟩, .slice none 0 0]), 3, 48) := by kernel_rfl
def TabV (t : Ta) : Prop := 0 ≤ t.id ∧ t.id ≤ 1073741824 ∧ TextOk 1024 t.name ∧ t.cols.length ≤ 64 ∧ ∃ n, n ≤ 4096 ∧ ∀ x ∈ t.cols, TextOk 1024 x.name ∧ x.cells.length = n ∧ ∀ c ∈ x.cells, CellOk c
theorem getD_mem {α : Type} {l : List α} {i : Nat} (h : i < l.length) (d : α) : l.getD i d ∈ l := by simp [List.getD, h]
def ListV (ts : List Ta) : Prop := ts.length ≤ 1024 ∧ (∀ t ∈ ts, TabV t) ∧ ts.Pairwise (fun a b => a.id < b.id)
theorem ids_up {ts : List Ta} (h : ts.Pairwise (fun a b => a.id < b.id)) {i j : Nat} (hij : i < j) (hj : j < ts.length) : (ts.getD i Ta.z).id < (ts.getD j Ta.z).id := by
 have h1 := List.pairwise_iff_getElem.1 h i j (by omega) hj hij
 simpa [List.getD, hj, show i < ts.length by omega] using h1
def rowsC (xs : List Co) : Nat := (xs.getD 0 Co.z).cells.length
end Go.Proofs.YthblaeleogdfpaaGreatDoor
