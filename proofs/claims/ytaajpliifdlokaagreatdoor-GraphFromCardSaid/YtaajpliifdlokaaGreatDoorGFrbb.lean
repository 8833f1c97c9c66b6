/- Plain: the groups of connected tables (chapter 30). No program in sight. Words: a map of numbers by numbers; a row of rows of numbers, each of which grows. No program in sight but its types. -/
import Derived.Test.YtaajpliifdlokaaGreatDoorGFrba
import Derived.Maps.OwnSet
set_option linter.unusedVariables false
set_option linter.unusedSimpArgs false
namespace Go.Proofs.YtaajpliifdlokaaGreatDoor
open Go.RowKit
def Conn (rs : List Rl) (x y : Int) : Prop := ∀ E : Int → Int → Prop, (∀ a, E a a) → (∀ a b, E a b → E b a) → (∀ a b c, E a b → E b c → E a c) → (∀ r ∈ rs, E r.ta r.tb) → E x y
theorem Conn.refl (rs : List Rl) (x : Int) : Conn rs x x := fun E h1 _ _ _ => h1 x
theorem Conn.symm {rs : List Rl} {x y : Int} (h : Conn rs x y) : Conn rs y x := fun E h1 h2 h3 h4 => h2 _ _ (h E h1 h2 h3 h4)
theorem Conn.trans {rs : List Rl} {x y z : Int} (h : Conn rs x y) (h' : Conn rs y z) : Conn rs x z := fun E h1 h2 h3 h4 => h3 _ _ _ (h E h1 h2 h3 h4) (h' E h1 h2 h3 h4)
theorem Conn.edge {rs : List Rl} {r : Rl} (h : r ∈ rs) : Conn rs r.ta r.tb := fun E _ _ _ h4 => h4 r h
structure GOk (ids : List Int) (rs : List Rl) (g : Int → Int) : Prop where
  low : ∀ x ∈ ids, 0 ≤ g x ∧ g x ≤ x
  mem : ∀ x ∈ ids, g x ∈ ids
  conn : ∀ x ∈ ids, Conn rs x (g x)
theorem GOk.start {ids : List Int} {rs : List Rl} (h : ∀ x ∈ ids, 0 ≤ x) : GOk ids rs id := ⟨fun x hx => ⟨h x hx, Int.le_refl _⟩, fun x hx => hx, fun x _ => Conn.refl _ _⟩
def joinG (g : Int → Int) (a b : Int) : Int → Int := fun x => if x = a ∨ x = b then min (g a) (g b) else g x
theorem GOk.join {ids : List Int} {rs : List Rl} {g : Int → Int} (h : GOk ids rs g) {r : Rl} (hr : r ∈ rs) (h1 : r.ta ∈ ids) (h2 : r.tb ∈ ids) : GOk ids rs (joinG g r.ta r.tb) := by
  have a1 := h.low _ h1
  have a2 := h.low _ h2
  have c1 := h.conn _ h1
  have c2 := h.conn _ h2
  have ce : Conn rs r.ta r.tb := Conn.edge hr
  have hm : min (g r.ta) (g r.tb) = g r.ta ∨ min (g r.ta) (g r.tb) = g r.tb := by omega
  refine ⟨fun x hx => ?_, fun x hx => ?_, fun x hx => ?_⟩
  · unfold joinG
    split
    · rename_i hc
      rcases hc with rfl | rfl <;> omega
    · exact h.low x hx
  · unfold joinG
    split
    · rcases hm with e | e <;> rw [e]
      · exact h.mem _ h1
      · exact h.mem _ h2
    · exact h.mem x hx
  · unfold joinG
    split
    · rename_i hc
      rcases hm with e | e <;> rw [e] <;> rcases hc with rfl | rfl
      · exact c1
      · exact ce.symm.trans c1
      · exact ce.trans c2
      · exact c2
    · exact h.conn x hx
def sumG (ids : List Int) (g : Int → Int) : Nat := (ids.map fun x => (g x).toNat).sum
theorem sumG_lt {ids : List Int} {f g : Int → Int} (h : ∀ x ∈ ids, (f x).toNat ≤ (g x).toNat) {y : Int} (hy : y ∈ ids) (h' : (f y).toNat < (g y).toNat) : sumG ids f < sumG ids g := by
  induction ids with
  | nil => cases hy
  | cons a l ih =>
    have ha := h a (by simp)
    have hl : ∀ m : List Int, (∀ x ∈ m, (f x).toNat ≤ (g x).toNat) → sumG m f ≤ sumG m g := by
      intro m
      induction m with
      | nil => intro _; simp [sumG]
      | cons b m ihm =>
        intro hm
        have h1 := hm b (by simp)
        have h2 := ihm fun x hx => hm x (by simp [hx])
        simp only [sumG, List.map_cons, List.sum_cons] at h2 ⊢
        omega
    rcases List.mem_cons.1 hy with rfl | hy
    · have h2 := hl l fun x hx => h x (by simp [hx])
      simp only [sumG, List.map_cons, List.sum_cons] at h2 ⊢
      omega
    · have h2 := ih (fun x hx => h x (by simp [hx])) hy
      simp only [sumG, List.map_cons, List.sum_cons] at h2 ⊢
      omega
theorem join_lt {ids : List Int} {rs : List Rl} {g : Int → Int} (h : GOk ids rs g) {a b : Int} (h1 : a ∈ ids) (h2 : b ∈ ids) (hne : g a ≠ g b) : sumG ids (joinG g a b) < sumG ids g := by
  have a1 := h.low _ h1
  have a2 := h.low _ h2
  have hle : ∀ x ∈ ids, (joinG g a b x).toNat ≤ (g x).toNat := by
    intro x hx
    unfold joinG
    split
    · rename_i hc
      rcases hc with rfl | rfl <;> omega
    · exact Nat.le_refl _
  rcases (by omega : g a < g b ∨ g b < g a) with h3 | h3
  · refine sumG_lt hle h2 ?_
    unfold joinG
    rw [if_pos (.inr rfl)]
    omega
  · refine sumG_lt hle h1 ?_
    unfold joinG
    rw [if_pos (.inl rfl)]
    omega
theorem snoc_ind {α : Type} {P : List α → Prop} (h0 : P []) (hs : ∀ l x, P l → P (l ++ [x])) (l : List α) : P l := by
  have h : ∀ m : List α, P m.reverse := by
    intro m
    induction m with
    | nil => exact h0
    | cons x m ih => rw [List.reverse_cons]; exact hs _ _ ih
  have h1 := h l.reverse
  rw [List.reverse_reverse] at h1
  exact h1
def headsL (g : Int → Int) (l : List Int) : List Int := l.foldl (fun hs x => if g x ∈ hs then hs else hs ++ [g x]) []
def withV (g : Int → Int) (l : List Int) (v : Int) : List Int := l.filter fun x => decide (g x = v)
def groupsL (g : Int → Int) (l : List Int) : List (List Int) := (headsL g l).map (withV g l)
theorem heads_snoc (g : Int → Int) (l : List Int) (x : Int) : headsL g (l ++ [x]) = if g x ∈ headsL g l then headsL g l else headsL g l ++ [g x] := by
  unfold headsL
  rw [List.foldl_append]
  rfl
theorem heads_mem (g : Int → Int) : ∀ l : List Int, ∀ v, v ∈ headsL g l ↔ ∃ x ∈ l, g x = v := by
  refine snoc_ind ?_ ?_
  · intro v; simp [headsL]
  · intro l x ih v
    rw [heads_snoc]
    constructor
    · intro h
      split at h
      · obtain ⟨y, hy, e⟩ := (ih v).1 h
        exact ⟨y, by simp [hy], e⟩
      · rcases List.mem_append.1 h with h | h
        · obtain ⟨y, hy, e⟩ := (ih v).1 h
          exact ⟨y, by simp [hy], e⟩
        · exact ⟨x, by simp, (List.mem_singleton.1 h).symm⟩
    · rintro ⟨y, hy, e⟩
      rcases List.mem_append.1 hy with hy | hy
      · have h := (ih v).2 ⟨y, hy, e⟩
        split
        · exact h
        · exact List.mem_append.2 (.inl h)
      · rw [List.mem_singleton.1 hy] at e
        subst e
        split
        · assumption
        · simp
theorem heads_nodup (g : Int → Int) : ∀ l : List Int, (headsL g l).Nodup := by
  refine snoc_ind ?_ ?_
  · simp [headsL]
  · intro l x ih
    rw [heads_snoc]
    split
    · exact ih
    · rename_i h
      rw [List.nodup_append]
      refine ⟨ih, by simp, fun a ha b hb e => h ?_⟩
      rw [List.mem_singleton.1 hb] at e
      rw [← e]
      exact ha
theorem withV_snoc (g : Int → Int) (l : List Int) (x v : Int) : withV g (l ++ [x]) v = if g x = v then withV g l v ++ [x] else withV g l v := by
  unfold withV
  rw [List.filter_append, List.filter_cons, List.filter_nil]
  by_cases h : g x = v
  · rw [if_pos h, if_pos (decide_eq_true h)]
  · rw [if_neg h, if_neg (by simpa using h), List.append_nil]
theorem groups_len (g : Int → Int) (l : List Int) : (groupsL g l).length = (headsL g l).length := by simp [groupsL]
theorem groups_old {g : Int → Int} {l : List Int} {x : Int} {n : Nat} (hn : n < (headsL g l).length) (e : (headsL g l).getD n 0 = g x) :
    groupsL g (l ++ [x]) = (groupsL g l).set n ((groupsL g l).getD n [] ++ [x]) := by
  have hmem : g x ∈ headsL g l := by
    rw [← e]
    exact getD_mem hn 0
  have hnd := heads_nodup g l
  have hh : headsL g (l ++ [x]) = headsL g l := by rw [heads_snoc, if_pos hmem]
  apply List.ext_getElem
  · rw [groups_len, hh, List.length_set, groups_len]
  · intro i h1 h2
    have hi : i < (headsL g l).length := by rw [groups_len, hh] at h1; exact h1
    have e1 : (groupsL g (l ++ [x]))[i] = withV g (l ++ [x]) ((headsL g l)[i]) := by
      simp only [groupsL, hh, List.getElem_map]
    rw [e1, withV_snoc, List.getElem_set]
    have eg : (headsL g l)[n] = g x := by simpa [List.getD, hn] using e
    by_cases hin : n = i
    · subst hin
      rw [if_pos rfl, if_pos eg.symm]
      have : (groupsL g l).getD n [] = withV g l ((headsL g l)[n]) := by
        simp [groupsL, List.getD, hn]
      rw [this]
    · rw [if_neg hin, if_neg fun h3 => hin ?_]
      · simp [groupsL]
      · exact (List.getElem_inj hnd).1 (by rw [eg, h3])
theorem groups_new {g : Int → Int} {l : List Int} {x : Int} (h : g x ∉ headsL g l) : groupsL g (l ++ [x]) = groupsL g l ++ [[x]] := by
  unfold groupsL
  rw [heads_snoc, if_neg h, List.map_append]
  congr 1
  · refine List.map_congr_left fun v hv => ?_
    rw [withV_snoc, if_neg fun e => h (by rw [e]; exact hv)]
  · rw [List.map_cons, List.map_nil, withV_snoc, if_pos rfl]
    have : withV g l (g x) = [] := by
      unfold withV
      rw [List.filter_eq_nil_iff]
      intro y hy e
      have e' : g y = g x := of_decide_eq_true e
      exact h ((heads_mem g l _).2 ⟨y, hy, e'⟩)
    rw [this, List.nil_append]
def GroupsOk (ids : List Int) (rs : List Rl) (g : Int → Int) : Prop := GOk ids rs g ∧ ∀ r ∈ rs, g r.ta = g r.tb
end Go.Proofs.YtaajpliifdlokaaGreatDoor

namespace Go.Proofs.YtaajpliifdlokaaGreatDoor
open Go.RowKit
theorem law_intZ : Go.Maps.Keyed Tryz.prog 3 := Go.Maps.int_keyed Tryz.underlying3
def W64 (z : Int) : Prop := -9223372036854775808 ≤ z ∧ z ≤ 9223372036854775807
theorem wf_z {z : Int} (h : W64 z) : (Lit.int .i64 z).wf = true := by
  have e : z = wrap64 z := by unfold wrap64; obtain ⟨h1, h2⟩ := h; omega
  rw [e]
  exact wrap64_wf _
theorem key_z {z : Int} (h : W64 z) : keyOf Tryz.prog 3 (.int .i64 z) = some (.int .i64 z) := Go.Maps.keyOf_int_mk Tryz.underlying3 (wf_z h)
theorem keyLit_z (z : Int) : Go.WideAt.IsKeyLit (.int .i64 z) := by unfold Go.WideAt.IsKeyLit; trivial
structure ZOk (D : DataW Unit) (G : Int → Option Int) : Prop where
  map : Go.Maps.IsMap D
  has : ∀ z, Go.Maps.has D (.int .i64 z) = (G z).isSome
  look : ∀ z, D.atKey (.int .i64 z) (.lit (.int .i64 0)) = .lit (.int .i64 ((G z).getD 0))
theorem ZOk.start : ZOk (.map []) (fun _ => none) := ⟨Go.Maps.isMap_empty, fun s => by simp [Go.Maps.has], fun s => rfl⟩
def setZ (G : Int → Option Int) (k v : Int) : Int → Option Int := fun z => if z = k then some v else G z
theorem ZOk.put {D : DataW Unit} {G : Int → Option Int} (h : ZOk D G) (k v : Int) : ZOk (D.put (.int .i64 k) (.lit (.int .i64 v))) (setZ G k v) := by
  refine ⟨h.map.put _ _, fun t => ?_, fun t => ?_⟩
  · unfold setZ
    by_cases e : t = k
    · subst e
      rw [if_pos rfl, Go.Maps.has_put_same h.map (keyLit_z _)]; rfl
    · rw [if_neg e, Go.Maps.has_put_other (fun e2 => e (by injection e2))]
      exact h.has t
  · unfold setZ
    by_cases e : t = k
    · subst e
      rw [if_pos rfl, Go.Maps.atKey_put_same h.map (keyLit_z _)]; rfl
    · rw [if_neg e, Go.Maps.atKey_put_other (fun e2 => e (by injection e2))]
      exact h.look t
def MapZ (w : World) (b K : Nat) (G : Int → Option Int) : Prop :=
  ∃ D : DataW Unit, w.ownsMap Tryz.prog 3 (plainElem (H := Unit) Tryz.prog 3) b K D ∧ ZOk D G ∧ Go.Maps.size D = K
section
variable {w w' : World} {b K : Nat} {G : Int → Option Int}
theorem MapZ.lt (h : MapZ w b K G) : b < w.heap.size := by
  obtain ⟨D, hown, -, -⟩ := h
  exact hown.lt
theorem MapZ.later (h : MapZ w b K G) (hk : w'.heap[b]? = w.heap[b]?) : MapZ w' b K G := by
  obtain ⟨D, ⟨es, clock, hb, Ft, hs, hD⟩, ho, hz⟩ := h
  exact ⟨D, ⟨es, clock, hk.trans hb, Ft, hs, hD⟩, ho, hz⟩
theorem MapZ.below {B : Nat} (h : MapZ w b K G) (hb : Below B w w') (hl : b < B) : MapZ w' b K G := h.later (hb.block b hl)
theorem MapZ.grown {row : Option Nat} (h : MapZ w b K G) (hg : w.grownBy w' row) (hne : some b ≠ row) : MapZ w' b K G := h.later (hg.block b h.lt hne)
theorem MapZ.alloc (h : MapZ w b K G) (O : Obj) : MapZ (w.alloc O) b K G := h.later (Below.heap_alloc _ _ _ h.lt)
theorem MapZ.congr {G' : Int → Option Int} (h : MapZ w b K G) (e : ∀ z, G z = G' z) : MapZ w b K G' := by
  have : G = G' := funext e
  subst this
  exact h
theorem MapZ.apart (h : MapZ w b K G) {base : Nat} {e : TypeId} {size n : Nat} {v : Value} {xs : List Value} (hr : w.ownsRow base e size v n xs) : some b ≠ v.ownBlock := fun e1 => by
  obtain ⟨D, ⟨es, clock, hb, -⟩, -⟩ := h
  rcases hr.2 with ⟨e2, -⟩ | ⟨g, cap, cur, e2, -, h3, -⟩
  · rw [e2] at e1; cases e1
  · rw [e2] at e1
    obtain rfl := Option.some.inj e1
    rw [hb] at h3
    cases Option.some.inj h3
theorem MapZ.made (w : World) : MapZ (w.alloc (.map #[] 0)) w.heap.size 0 (fun _ => none) := ⟨_, World.ownsMap_made w Tryz.prog 3 _, ZOk.start, rfl⟩
set_option maxRecDepth 100000 in
theorem MapZ.look (h : MapZ w b K G) {z : Int} (hz : W64 z) : (Instr.lookup 65 (.map (some b)) (.int .i64 z) false).run Tryz.prog w = .ok (.int .i64 ((G z).getD 0)) w := by
  obtain ⟨D, hown, ho, -⟩ := h
  obtain ⟨c, hrun, hat, -⟩ := hown.lookup_int law_intZ Tryz.underlying65 Tryz.underlying3 (Tryz.zeroValue3 _) (key_z hz)
  rw [ho.look z] at hat
  injection hat with hat
  injection hat with _ hat
  rw [hrun, ← hat]
set_option maxRecDepth 100000 in
theorem MapZ.look_ok (h : MapZ w b K G) {z : Int} (hz : W64 z) : (Instr.lookup 65 (.map (some b)) (.int .i64 z) true).run Tryz.prog w = .ok (.tuple #[.int .i64 ((G z).getD 0), .bool (G z).isSome]) w := by
  obtain ⟨D, hown, ho, -⟩ := h
  obtain ⟨v, ps, hrun, hv⟩ := hown.look_ok law_intZ Tryz.underlying65 (Tryz.zeroValue3 _) (plainElem_int Tryz.underlying3 (by decide)) (key_z hz)
  obtain ⟨c, rfl, hc, -⟩ := plainElem_int_inv Tryz.underlying3 hv
  simp only [Prod.mk.injEq] at hc
  have hat := hc.1
  rw [ho.look z] at hat
  injection hat with hat
  injection hat with _ hat
  rw [hrun, ho.has z, ← hat]
theorem own_exactZ {H : Type} {P : Program} {k : TypeId} {R : Value → Option (DataW H × List MemPlace)} {w : World} {b n m : Nat} {D : DataW H} (h : w.ownsMap P k R b n D) (e : Go.Maps.size D = m) : w.ownsMap P k R b m D := by
  obtain ⟨es, clock, hb, Ft, hs, hD⟩ := h
  refine ⟨es, clock, hb, Ft, ?_, hD⟩
  rw [hD, Go.Maps.size_eq, length_sorted, List.length_map, Array.length_toList] at e
  omega
set_option maxRecDepth 100000 in
theorem MapZ.update (h : MapZ w b K G) {z v : Int} (hz : W64 z) (hv : W64 v) (hK : K < maxLen) :
    ∃ w', (Instr.mapUpdate 65 (.map (some b)) (.int .i64 z) (.int .i64 v)).run Tryz.prog w = .ok () w' ∧ MapZ w' b (if (G z).isSome then K else K + 1) (setZ G z v) ∧ w.grownBy w' (some b) := by
  obtain ⟨D, hown, ho, hs⟩ := h
  obtain ⟨w', h1, h2, h3⟩ := hown.update law_intZ Tryz.underlying65 hK (key_z hz) (plainElem_int (H := Unit) Tryz.underlying3 (wf_z hv))
  have h4 : Go.Maps.size (D.put (.int .i64 z) (.lit (.int .i64 v))) = if (G z).isSome then K else K + 1 := by
    rw [Go.Maps.size_put (hown.tidy law_intZ), ho.has, hs]
  exact ⟨w', h1, ⟨_, own_exactZ h2 h4, ho.put z v, h4⟩, h3⟩
end
def ints (zs : List Int) : List Value := zs.map (Value.int .i64)
theorem own_kept {w w' : World} {base : Nat} {e : TypeId} {size n : Nat} {v : Value} {xs : List Value} {row : Option Nat} (h : w.ownsRow base e size v n xs) (hg : w.grownBy w' row) (hne : ∀ b, v.ownBlock = some b → row ≠ some b) : w'.ownsRow base e size v n xs := by
  obtain ⟨hl, h⟩ := h
  refine ⟨hl, ?_⟩
  rcases h with ⟨e1, h1⟩ | ⟨g, cap, cur, e1, h2, h3, h4⟩
  · exact .inl ⟨e1, h1⟩
  · exact .inr ⟨g, cap, cur, e1, h2, (hg.block g (Array.getElem?_eq_some_iff.1 h3).1 (fun e => hne g (by rw [e1]; rfl) e.symm)).trans h3, h4⟩
theorem own_apartZ {w : World} {base base' : Nat} {e e' : TypeId} {size size' n n' : Nat} {v v' : Value} {xs xs' : List Value} (h : w.ownsRow base e size v n xs) (h' : w.ownsRow base' e' size' v' n' xs') (he : e ≠ e') : ∀ b, v.ownBlock = some b → v'.ownBlock ≠ some b := by
  intro b h1 h2
  rcases h.2 with ⟨e1, _⟩ | ⟨g1, cap1, cur1, e1, _, hc1, _⟩
  · rw [e1] at h1; cases h1
  · rcases h'.2 with ⟨e2, _⟩ | ⟨g2, cap2, cur2, e2, _, hc2, _⟩
    · rw [e2] at h2; cases h2
    · rw [e1] at h1
      rw [e2] at h2
      obtain rfl := Option.some.inj h1
      have h3 : g2 = g1 := Option.some.inj h2
      rw [h3, hc1] at hc2
      have h4 := Option.some.inj hc2
      injection h4 with _ h5 _
      exact he h5
def nilS : Value := .slice none 0 0
structure GrSt (w : World) (base : Nat) (v : Value) (out : List (List Int)) (vs : List Value) : Prop where
  len : vs.length = out.length
  row : w.ownsRow base 22 1 v out.length vs
  kids : ∀ i, i < out.length → w.ownsRow base 3 1 (vs.getD i nilS) (out.getD i []).length (ints (out.getD i []))
  apart : ∀ i j b, i < out.length → j < out.length → (vs.getD i nilS).ownBlock = some b → (vs.getD j nilS).ownBlock = some b → i = j
section
variable {w w' : World} {base : Nat} {v : Value} {out : List (List Int)} {vs : List Value}
theorem GrSt.start (w : World) (base : Nat) : GrSt w base (.slice none 0 0) [] [] := ⟨rfl, World.ownsRow_nil _ _ _ _, fun i hi => absurd hi (by simp), fun i j b hi => absurd hi (by simp)⟩
theorem GrSt.grown {row : Option Nat} (h : GrSt w base v out vs) (hg : w.grownBy w' row) (hr : ∀ b, row = some b → v.ownBlock ≠ some b ∧ ∀ i, i < out.length → (vs.getD i nilS).ownBlock ≠ some b) : GrSt w' base v out vs where
  len := h.len
  row := own_kept h.row hg fun b h1 h2 => (hr b h2).1 h1
  kids i hi := own_kept (h.kids i hi) hg fun b h1 h2 => (hr b h2).2 i hi h1
  apart := h.apart
theorem GrSt.later (h : GrSt w base v out vs) (hb : Below w.heap.size w w') : GrSt w' base v out vs where
  len := h.len
  row := own_below h.row hb
  kids i hi := own_below (h.kids i hi) hb
  apart := h.apart
theorem GrSt.notMap (h : GrSt w base v out vs) {b K : Nat} {G : Int → Option Int} (hm : MapZ w b K G) : v.ownBlock ≠ some b ∧ ∀ i, i < out.length → (vs.getD i nilS).ownBlock ≠ some b :=
  ⟨fun e => hm.apart h.row e.symm, fun i hi e => hm.apart (h.kids i hi) e.symm⟩
theorem getD_snoc_lt {α : Type} {l : List α} {x d : α} {i : Nat} (h : i < l.length) : (l ++ [x]).getD i d = l.getD i d := by simp [List.getD, List.getElem?_append_left h]
theorem getD_snoc_eq {α : Type} (l : List α) (x d : α) : (l ++ [x]).getD l.length d = x := by simp [List.getD]
theorem GrSt.pushNil (h : GrSt w base v out vs) {g n cap : Nat} (hn : n = out.length + 1) (hown : w'.ownsRow base 22 1 (.slice (some ⟨g, 0, none⟩) n cap) n (vs ++ [nilS])) (hg : w.grownBy w' v.ownBlock) :
    GrSt w' base (.slice (some ⟨g, 0, none⟩) n cap) (out ++ [[]]) (vs ++ [nilS]) := by
  subst hn
  have hk : ∀ i, i < out.length → w'.ownsRow base 3 1 (vs.getD i nilS) (out.getD i []).length (ints (out.getD i [])) := fun i hi => own_kept (h.kids i hi) hg fun b h1 h2 => own_apartZ (h.kids i hi) h.row (by decide) b h1 h2
  refine ⟨by simp [h.len], by rw [List.length_append, List.length_singleton]; exact hown, fun i hi => ?_, fun i j b hi hj => ?_⟩
  · rw [List.length_append, List.length_singleton] at hi
    by_cases e : i = out.length
    · subst e
      rw [getD_snoc_eq, ← h.len, getD_snoc_eq]
      exact World.ownsRow_nil _ _ _ _
    · have hi' : i < out.length := by omega
      rw [getD_snoc_lt hi', getD_snoc_lt (by rw [h.len]; exact hi')]
      exact hk i hi'
  · rw [List.length_append, List.length_singleton] at hi hj
    intro h1 h2
    have hnil : (vs ++ [nilS]).getD out.length nilS = nilS := by rw [← h.len]; exact getD_snoc_eq _ _ _
    by_cases ei : i = out.length
    · rw [ei, hnil] at h1; cases h1
    · by_cases ej : j = out.length
      · rw [ej, hnil] at h2; cases h2
      · rw [getD_snoc_lt (by rw [h.len]; omega)] at h1 h2
        exact h.apart i j b (by omega) (by omega) h1 h2
theorem GrSt.pushAt {G len cap : Nat} (h : GrSt w base (.slice (some ⟨G, 0, none⟩) len cap) out vs) {n : Nat} (hn : n < out.length) {x : Int} {g m cap' : Nat} (hm : m = (out.getD n []).length + 1)
  (hown : w'.ownsRow base 3 1 (.slice (some ⟨g, 0, none⟩) m cap') m (ints (out.getD n []) ++ [.int .i64 x])) (hg : w.grownBy w' (vs.getD n nilS).ownBlock) (hat : (vs.getD n nilS).ownBlock = some g ∨ g = w.heap.size) :
  GrSt (w'.setCell ⟨G, n, none⟩ (.slice (some ⟨g, 0, none⟩) m cap')) base (.slice (some ⟨G, 0, none⟩) len cap) (out.set n (out.getD n [] ++ [x])) (vs.set n (.slice (some ⟨g, 0, none⟩) m cap')) := by
 subst hm
 obtain ⟨a0, c0, e0⟩ := own_slice h.row
 have hlen : len = out.length := (Value.slice.inj e0).2.1
 subst hlen
 have hr1 := own_kept h.row hg fun b h1 h2 => own_apartZ h.row (h.kids n hn) (by decide) b h1 h2
 obtain ⟨hr2, hg2⟩ := hr1.stored n (.slice (some ⟨g, 0, none⟩) ((out.getD n []).length + 1) cap')
 have hvn : (vs.set n (.slice (some ⟨g, 0, none⟩) ((out.getD n []).length + 1) cap')).getD n nilS = .slice (some ⟨g, 0, none⟩) ((out.getD n []).length + 1) cap' := by
  simp [List.getD, List.getElem?_set, h.len, hn]
 have hvi : ∀ i, i ≠ n → (vs.set n (.slice (some ⟨g, 0, none⟩) ((out.getD n []).length + 1) cap')).getD i nilS = vs.getD i nilS := fun i hi => by
  simp [List.getD, List.getElem?_set, Ne.symm hi]
 have hon : (out.set n (out.getD n [] ++ [x])).getD n [] = out.getD n [] ++ [x] := by simp [List.getD, List.getElem?_set, hn]
 have hoi : ∀ i, i ≠ n → (out.set n (out.getD n [] ++ [x])).getD i [] = out.getD i [] := fun i hi => by simp [List.getD, List.getElem?_set, Ne.symm hi]
 have hGb : ∀ i, i < out.length → (vs.getD i nilS).ownBlock ≠ some G := fun i hi e => own_apartZ h.row (h.kids i hi) (by decide) G rfl e
 refine ⟨by simp [h.len], by rw [List.length_set]; exact hr2, fun i hi => ?_, fun i j b hi hj => ?_⟩
 ·rw [List.length_set] at hi
  by_cases e : i = n
  ·subst e
   rw [hvn, hon]
   have h1 : w'.ownsRow base 3 1 (.slice (some ⟨g, 0, none⟩) ((out.getD i []).length + 1) cap') ((out.getD i []).length + 1) (ints (out.getD i [] ++ [x])) := by
    have e2 : ints (out.getD i [] ++ [x]) = ints (out.getD i []) ++ [.int .i64 x] := by simp [ints]
    rw [e2]
    exact hown
   rw [List.length_append, List.length_singleton]
   refine own_kept h1 hg2 fun b h3 h4 => ?_
   exact own_apartZ hr1 hown (by decide) b h4 h3
  ·rw [hvi i e, hoi i e]
   refine own_kept (own_kept (h.kids i hi) hg fun b h3 h4 => e (h.apart i n b hi hn h3 h4)) hg2 fun b h3 h4 => ?_
   obtain rfl := Option.some.inj h4
   exact hGb i hi h3
 ·rw [List.length_set] at hi hj
  have hfresh : ∀ i, i < out.length → i ≠ n → (vs.getD i nilS).ownBlock ≠ some g := fun i hi hin e => by
   rcases hat with h1 | h1
   ·exact hin (h.apart i n g hi hn e h1)
   ·have := ((h.kids i hi).lt g e).2
    omega
  intro h1 h2
  by_cases ei : i = n
  ·by_cases ej : j = n
   ·omega
   ·rw [ei, hvn] at h1
    rw [hvi j ej] at h2
    have h3 : g = b := Option.some.inj h1
    rw [← h3] at h2
    exact absurd h2 (hfresh j hj ej)
  ·by_cases ej : j = n
   ·rw [ej, hvn] at h2
    rw [hvi i ei] at h1
    have h3 : g = b := Option.some.inj h2
    rw [← h3] at h1
    exact absurd h1 (hfresh i hi ei)
   ·rw [hvi i ei] at h1
    rw [hvi j ej] at h2
    exact h.apart i j b hi hj h1 h2
end
end Go.Proofs.YtaajpliifdlokaaGreatDoor
