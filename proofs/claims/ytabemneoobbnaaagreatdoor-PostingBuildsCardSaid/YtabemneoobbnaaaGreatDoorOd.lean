/- Contract of posting.List. Contract of posting.List where the value is found. Groups by a text, in a map: plain. slices.Sorted(maps.Keys(m)) laid at this program (the form of the text that lay-iter.mjs writes). The keys of a map of groups, in order. -/
import Derived.Test.YtabemneoobbnaaaGreatDoorNy
import Derived.Shelf.SlicesG.Clone
import Derived.Shelf.SlicesG.Turned
import Derived.Maps.OwnRows
import Derived.Shelf.SlIter.Nil
import Derived.Shelf.SortM.Plain
import Derived.Shelf.SortM.SortNone
import Derived.Maps.GroupsBeside
namespace Go.Proofs.YtabemneoobbnaaaGreatDoor
open Go.Shelf Go.RowKit Go.Lib

theorem lib_CloneN (v : Value) (xs : List Nat) (B : Nat) (w : World) (hv : InN w (· < B) v xs) (hp : 0 < xs.length) (hm : xs.length ≤ 1099511627776) :
    Calls Tryz.prog 42 #[v] w fun e w' => ∃ a c, e = .returned (.slice (some ⟨a, 0, none⟩) xs.length c) ∧ w'.ownsRow w.heap.size 3 1 (.slice (some ⟨a, 0, none⟩) xs.length c) xs.length (natsV xs) ∧ Below w.heap.size w w' := by
  obtain ⟨a, c, rfl, hc, hm', hr⟩ := hv
  obtain ⟨b, o, rfl, hb, hcell⟩ := hr hp
  have hcon := AnyG.slices_Clone_int Tryz.cloneI b o xs.length c (xs.map fun x : Nat => (x : Int)) w (by simp) (by omega) (fun j hj => by
    rw [List.length_map] at hj
    have h1 := hcell j hj 0 (by omega)
    simp only [Nat.mul_one, Nat.add_zero] at h1
    rw [h1]
    simp [natF, List.getD, hj])
  refine hcon.mono ?_
  rintro e w' ⟨v', rfl, hown, -, hbl⟩
  have e1 : ((xs.map fun x : Nat => (x : Int)).take xs.length).map (Value.int .i64) = natsV xs := by
    rw [List.take_of_length_le (by simp)]
    simp [natsV]
  rw [e1] at hown
  obtain ⟨g, cap, rfl, -⟩ := hown.form hp
  exact ⟨g, cap, rfl, hown, hbl⟩

theorem lib_IndexS (v : Value) (xs : List ByteArray) (s : ByteArray) (B : Nat) (w : World) (hv : InS w (· < B) v xs) (hp : 0 < xs.length) :
    Calls Tryz.prog 55 #[v, .string s] w fun e w' => e = .returned (.int .i64 (Lib.idxOfS xs s)) ∧ w' = w := by
  obtain ⟨a, c, rfl, hc, hm', hr⟩ := hv
  obtain ⟨b, o, rfl, hb, hcell⟩ := hr hp
  unfold maxLen at hm'
  have hcon := AnyG.slices_Index_string Tryz.indexS b o xs.length c xs s w (Nat.le_refl _) (by omega) (fun j hj => by
    have h1 := hcell j hj 0 (by omega)
    simp only [Nat.mul_one, Nat.add_zero] at h1
    exact h1)
  rw [List.take_of_length_le (Nat.le_refl _)] at hcon
  exact hcon

end Go.Proofs.YtabemneoobbnaaaGreatDoor

namespace Go.Proofs.YtabemneoobbnaaaGreatDoor
open Go.RowKit

theorem own_lower {w : World} {base base' : Nat} {e : TypeId} {k n : Nat} {v : Value} {L : List Value} (h : w.ownsRow base e k v n L) (hb : base' ≤ base) : w.ownsRow base' e k v n L := by
  refine ⟨h.1, ?_⟩
  rcases h.2 with h1 | ⟨g, cap, cur, e1, hg, rest⟩
  · exact .inl h1
  · exact .inr ⟨g, cap, cur, e1, Nat.le_trans hb hg, rest⟩

set_option maxHeartbeats 1000000 in
theorem posting_List (ix : Ix) (ev vv lv : Value) (B : Nat) (w : World) (hx : RdIx w (· < B) ev vv lv ix) (hB : B ≤ w.heap.size) (s : ByteArray) (i : Nat) (hi : Lib.idxOfS ix.vals s = (i : Int)) (hil : i < ix.lists.length) (hv : 0 < ix.vals.length)
    (hp : 0 < (ix.lists.getD i []).length) (hm : (ix.lists.getD i []).length ≤ 1099511627776) :
    Calls Tryz.prog 26 #[.agg #[ev, vv, lv], .string s] w fun e w' => ∃ a c, e = .returned (.tuple #[.slice (some ⟨a, 0, none⟩) (ix.lists.getD i []).length c, .bool true]) ∧
      w'.ownsRow w.heap.size 3 1 (.slice (some ⟨a, 0, none⟩) (ix.lists.getD i []).length c) (ix.lists.getD i []).length (natsV (ix.lists.getD i [])) ∧ Below w.heap.size w w' := by
  obtain ⟨hE, hV, lf, ⟨la, lc, rfl, hlc, hlm, hlr⟩, hkids⟩ := hx
  obtain ⟨ea, ec, rfl, -⟩ := hE
  have HIX := hid (fun W (hW : Below w.heap.size w W) => lib_IndexS vv ix.vals s B W (hV.keep fun p (hp : p.block < B) => hW.cell (p := p) (by omega)) hv)
  rw [hi] at HIX
  have hk := hkids i hil
  have HCL := hid (fun W (hW : Below w.heap.size w W) => lib_CloneN (lf i) (ix.lists.getD i []) B W (hk.keep fun p (hp : p.block < B) => hW.cell (p := p) (by omega)) hp hm)
  obtain ⟨b, o, rfl, hb, hcell⟩ := hlr (by omega)
  have hb' : b < B := hb
  have hc0 : w.cell? ⟨b, o + i, none⟩ = some (lf i) := by have := hcell i hil 0 (by omega); simpa using this
  obtain ⟨xa, xc, e1, -⟩ := hk
  rw [e1] at hc0 HCL
  obtain ⟨va, vc, rfl, -⟩ := hV
  clear hlr hkids hcell e1 hi hb
  generalize ix.lists.getD i [] = X at *
  generalize ix.vals.length = n2 at *
  generalize ix.ents.length = n1 at *
  generalize ix.lists.length = n3 at *
  unfold maxLen at hlm
  go_enter Tryz.func26, Tryz.ntmps26
  have HB0 := hid ((Below.refl w.heap.size w).alloc (Nat.le_refl _) (.cells #[.slice ea n1 ec, .slice va n2 vc, .slice (some ⟨b, o, none⟩) n3 lc] 40))
  have hbx := BoxN.new w #[.slice ea n1 ec, .slice va n2 vc, .slice (some ⟨b, o, none⟩) n3 lc] 40
  have x1 := hbx.cell 1 rfl
  have x2 := hbx.cell 2 rfl
  have x3 := (HB0.out.cell (p := ⟨b, o + i, none⟩) (by show b < _; omega)).trans hc0
  clear hbx hc0
  have hd0 : decide ((i : Int) < 0) = false := decide_eq_false (by omega)
  have hd1 : decide (n3 ≤ i) = false := decide_eq_false (by omega)
  have hd2 : decide ((n3 : Int) ≤ (i : Int)) = false := decide_eq_false (by omega)
  go_wp2_with fail
  with_reducible refine (HIX.out _ HB0.out).mono ?_
  rintro e w1 ⟨rfl, rfl⟩
  go_wp2_with (go_at_call 42; with_reducible refine (HCL.out _ HB0.out).mono ?_; rintro e w1 ⟨a, c, rfl, hown, hbl⟩)
  go_ret2
  refine ⟨_, _, rfl, own_lower hown (by simp), ?_⟩
  have := HB0.out
  exact this.trans (hbl.mono this.size)

end Go.Proofs.YtabemneoobbnaaaGreatDoor

namespace Go.Proofs.YtabemneoobbnaaaGreatDoor
open Go.RowKit

def keyL (s : ByteArray) : Lit := .string s.data.toList
theorem keyL_inj {s t : ByteArray} (h : keyL s = keyL t) : s = t := by
  obtain ⟨⟨s⟩⟩ := s
  obtain ⟨⟨t⟩⟩ := t
  simp [keyL] at h
  subst h
  rfl
abbrev intsOf (xs : List Nat) : List Int := xs.map fun x : Nat => (x : Int)
structure GrpOk (D : DataW Unit) (F : ByteArray → List Nat) : Prop where
  map : Go.Maps.IsMap D
  look : ∀ s, (F s = [] ∧ D.atKey (keyL s) .nil = .nil) ∨ (F s ≠ [] ∧ D.atKey (keyL s) .nil = .slice (Go.ChangeShapes.lits .i64 (intsOf (F s))) [])
  has : ∀ s, Go.Maps.has D (keyL s) = true ↔ F s ≠ []
theorem GrpOk.start : GrpOk (.map []) (fun _ => []) := ⟨Go.Maps.isMap_empty, fun s => .inl ⟨rfl, rfl⟩, fun s => by simp [Go.Maps.has]⟩
theorem lits_inj {xs ys : List Int} (h : Go.ChangeShapes.lits (H := Unit) .i64 xs = Go.ChangeShapes.lits .i64 ys) : xs = ys := by
  unfold Go.ChangeShapes.lits at h
  exact (List.map_inj_right (fun a b hab => by cases hab; rfl)).1 h
section
variable {D : DataW Unit} {F : ByteArray → List Nat}
theorem GrpOk.given (h : GrpOk D F) {w : World} {base : Nat} {e : TypeId} {v : Value} {zs : List Int} {s : ByteArray} (hat : D.atKey (keyL s) .nil = rowDatum .i64 v zs) (ho : w.ownsInts base e .i64 v zs) : zs = intsOf (F s) := by
  rcases ho.datum (H := Unit) with ⟨h1, rfl⟩ | h1
  · rw [h1] at hat
    rcases h.look s with ⟨h2, -⟩ | ⟨-, h3⟩
    · rw [h2]; rfl
    · rw [h3] at hat; cases hat
  · rw [h1] at hat
    rcases h.look s with ⟨-, h3⟩ | ⟨-, h3⟩
    · rw [h3] at hat; cases hat
    · rw [h3] at hat
      injection hat with hat
      exact (lits_inj hat).symm
theorem GrpOk.push (h : GrpOk D F) {s : ByteArray} {i : Nat} {d : DataW Unit} (hd : d = .slice (Go.ChangeShapes.lits .i64 (intsOf (F s ++ [i]))) []) : GrpOk (D.put (keyL s) d) (fun t => if t = s then F s ++ [i] else F t) := by
  subst hd
  have hk : Go.WideAt.IsKeyLit (keyL s) := by unfold keyL Go.WideAt.IsKeyLit; trivial
  refine ⟨h.map.put _ _, fun t => ?_, fun t => ?_⟩
  · by_cases e : t = s
    · subst e
      right
      rw [if_pos rfl]
      exact ⟨by simp, Go.Maps.atKey_put_same h.map hk _ _⟩
    · rw [if_neg e, Go.Maps.atKey_put_other (fun e2 => e (keyL_inj e2))]
      exact h.look t
  · by_cases e : t = s
    · subst e
      rw [if_pos rfl, Go.Maps.has_put_same h.map hk]
      simp
    · rw [if_neg e, Go.Maps.has_put_other (fun e2 => e (keyL_inj e2))]
      exact h.has t
theorem GrpOk.congr {F' : ByteArray → List Nat} (h : GrpOk D F) (e : ∀ s, F s = F' s) : GrpOk D F' := by
  have : F = F' := funext e
  subst this
  exact h
end

end Go.Proofs.YtabemneoobbnaaaGreatDoor

namespace Go.Proofs.YtabemneoobbnaaaGreatDoor
open Go.RowKit Go.Shelf

theorem sortsM (m : Nat) : Go.Proofs.AnyZ.SortsIn Tryz.prog Tryz.sortedM_ren Fence.wide m :=
  ⟨fun blk off cap ss W hH hblk hsz => callsIn_wide.2 (AnyM.slices_Sort_string Tryz.sortM blk off cap ss W hH hblk hsz),
   fun p cap W => callsIn_wide.2 (AnyM.slices_Sort_string_none Tryz.sortM p cap W)⟩

theorem lib_Keys (mb : Option Nat) (W : World) : Calls Tryz.prog 91 #[.map mb] W fun e w' => e = .returned (.func (.func 116) #[] #[.pointer (some ⟨W.heap.size, 0, none⟩)]) ∧ w' = W.alloc (.cells #[.map mb] 141) :=
  callsIn_wide.1 (AnyZ.keys_in Tryz.keysM Fence.wide 5 trivial rfl mb W)

set_option maxHeartbeats 1000000 in
theorem lib_Sorted (b nn : Nat) (D0 : DataW Unit) (R : Value → Option (DataW Unit × List MemPlace)) (w : World) (hown : w.ownsMap Tryz.prog 9 R b nn D0) (hmax : Go.Maps.size D0 ≤ 268435456) :
    Calls Tryz.prog 85 #[.func (.func 116) #[] #[.pointer (some ⟨w.heap.size, 0, none⟩)]] (w.alloc (.cells #[.map (some b)] 141)) fun e w' => ∃ (v : Value) (ss : List (List UInt8)), e = .returned v ∧ ss.Perm (strKeys D0) ∧
      w'.ownsRow (w.alloc (.cells #[.map (some b)] 141)).heap.size 9 1 v ss.length ((ss.mergeSort (fun x y => decide (x ≤ y))).map encStr) ∧ Below (w.alloc (.cells #[.map (some b)] 141)).heap.size (w.alloc (.cells #[.map (some b)] 141)) w' := by
  have hbl := hown.lt
  have hseq : SeqGives Fence.wide 2 Tryz.prog 116 #[.pointer (some ⟨w.heap.size, 0, none⟩)] encStr (fun ss => ss.Perm (strKeys D0)) (Go.Maps.size D0) (w.alloc (.cells #[.map (some b)] 141)) :=
    AnyZ.keys_gives (ρ := Tryz.keysM_ren) { Tryz.keysM with } Fence.wide _ trivial rfl (by omega) w.heap.size b nn D0 _ (by simp) (by simp) (by
      obtain ⟨es, clock, hb, Ft, hs, hD⟩ := hown
      exact ⟨es, clock, (Below.heap_alloc _ _ b hbl).trans hb, Ft, hs, hD⟩)
  refine (callsIn_wide.1 (AnyZ.sorted_in Tryz.sortedM Fence.wide 5 trivial trivial trivial trivial rfl (by omega) (sortsM _) (enters_of Tryz.func112 (by kernel_rfl) rfl) 116 #[.pointer (some ⟨w.heap.size, 0, none⟩)] trivial (enters_of Tryz.func116 (by kernel_rfl) rfl) _ _ (by unfold maxLen; omega) (by omega) _ hseq)).mono ?_
  rintro e w' ⟨v, ss, h1, h2, h3, -, h4⟩
  exact ⟨v, ss, h1, h2, h3, h4⟩

end Go.Proofs.YtabemneoobbnaaaGreatDoor

namespace Go.Proofs.YtabemneoobbnaaaGreatDoor
open Go.RowKit

theorem law_str : Go.Maps.Keyed Tryz.prog 9 := Go.Maps.string_keyed Tryz.underlying9
theorem keys_sorted {D : DataW Unit} {F : ByteArray → List Nat} (hg : GrpOk D F) {w : World} {R : Value → Option (DataW Unit × List MemPlace)} {b nn : Nat} (hown : w.ownsMap Tryz.prog 9 R b nn D) (X : List ByteArray) (hX : ∀ s, F s ≠ [] ↔ s ∈ X) {ss : List (List UInt8)} (hp : ss.Perm (strKeys D)) :
    ss.mergeSort (fun x y => decide (x ≤ y)) = (setOfL X).map listOf := by
  obtain ⟨es, hD, hpw, -⟩ := hown.entries law_str
  obtain ⟨es', hD', hko⟩ := hown.keysOf
  obtain rfl : es = es' := by rw [hD] at hD'; simpa using hD'
  subst hD
  have hasc := setOfL_asc X
  have hpair : ((setOfL X).map listOf).Pairwise (fun x y => x < y) := by
    refine List.pairwise_map.2 (hasc.imp fun {a b} h => ?_)
    rw [sl_lt, ByteArray.toList_eq, ByteArray.toList_eq] at h
    simpa [listOf] using h
  have hperm : ((setOfL X).map listOf).Perm (strKeys (.map es)) := perm_strKeys hpw (fun p hp => by obtain ⟨v, hv⟩ := hko p hp; obtain ⟨x, _, hx, _⟩ := Maps.keyOf_str Tryz.underlying9 hv; exact ⟨x, hx⟩)
    (hpair.imp fun h => fun e => by subst e; exact List.lt_irrefl _ h) (fun x => by
      have h1 := (hg.has ⟨⟨x⟩⟩).trans (hX ⟨⟨x⟩⟩)
      have h2 : keyL ⟨⟨x⟩⟩ = .string x := rfl
      rw [h2] at h1
      rw [h1, ← setOfL_mem_iff, List.mem_map]
      constructor
      · rintro ⟨a, ha, rfl⟩
        exact ha
      · intro h
        exact ⟨⟨⟨x⟩⟩, h, rfl⟩)
  have h3 := mergeSort_of_perm (hp.trans hperm.symm)
  refine h3.trans (List.mergeSort_of_pairwise (hpair.imp fun h => by simp only [leB, decide_eq_true_eq]; exact List.le_of_lt h))
theorem keys_len {D : DataW Unit} {F : ByteArray → List Nat} (hg : GrpOk D F) {w : World} {R : Value → Option (DataW Unit × List MemPlace)} {b nn : Nat} (hown : w.ownsMap Tryz.prog 9 R b nn D) (X : List ByteArray) (hX : ∀ s, F s ≠ [] ↔ s ∈ X) {ss : List (List UInt8)} (hp : ss.Perm (strKeys D)) :
    ss.length = (setOfL X).length := by
  have h1 := congrArg List.length (keys_sorted hg hown X hX hp)
  simpa using h1

/-- rows of another type are no group's row -/
theorem groups_apart {P : Program} {k e e' : TypeId} {base base' b n size n' : Nat} {w : World} {D : DataW Unit} {v : Value} {L : List Value} (h : w.ownsGroups P k base e .i64 b n D) (h' : w.ownsRow base' e' size v n' L) (he : e ≠ e') :
    ∀ es clock, w.heap[b]? = some (.map es clock) → ∀ x ∈ es.toList, x.val.ownBlock = none ∨ x.val.ownBlock ≠ v.ownBlock := by
  obtain ⟨es, clock, hb, F, -, -, -, -, -⟩ := h
  intro es' clock' hb' x hx
  rw [hb] at hb'
  cases hb'
  obtain ⟨y, hy⟩ := F.reads x hx
  obtain ⟨z, hz, _⟩ := Go.WideElems.rd_val hy
  obtain ⟨zs, ho, _⟩ := rowElem_inv hz
  exact own_apart ho.1 h' he
theorem groups_map {P : Program} {k e : TypeId} {base b n : Nat} {w : World} {D : DataW Unit} (h : w.ownsGroups P k base e .i64 b n D) : w.ownsMap P k (rowElem w base e .i64) b n D := by
  obtain ⟨es, clock, hb, F, hs, hD, -⟩ := h
  exact ⟨es, clock, hb, F, hs, hD⟩

/-- columns' places by value, so far -/
def pgF (cs : List Cv) (q j : Nat) (s : ByteArray) : List Nat := listK cs s q ++ if hasL ((cs.getD q Cv.z).2.take j) s = true then [q] else []
theorem pgF_zero (cs : List Cv) (s : ByteArray) : pgF cs 0 0 s = [] := by simp [pgF, listK, hasL]
theorem pgF_step {cs : List Cv} {q j : Nat} (ha : Asc (cs.getD q Cv.z).2) (hj : j < (cs.getD q Cv.z).2.length) (s : ByteArray) :
    (if s = (cs.getD q Cv.z).2.getD j ⟨#[]⟩ then pgF cs q j ((cs.getD q Cv.z).2.getD j ⟨#[]⟩) ++ [q] else pgF cs q j s) = pgF cs q (j + 1) s := by
  unfold pgF
  generalize (cs.getD q Cv.z).2 = X at *
  have e1 : X.getD j ⟨#[]⟩ = X[j] := by simp [List.getD, hj]
  have hno : ¬ hasL (X.take j) X[j] = true := by
    rw [hasL_iff]
    intro h
    obtain ⟨i, hi, e⟩ := List.mem_iff_getElem.1 h
    rw [List.length_take] at hi
    rw [List.getElem_take] at e
    have h1 := List.pairwise_iff_getElem.1 ha i j (by omega) hj (by omega)
    rw [e, sl_irrefl] at h1
    cases h1
  have e2 : hasL (X.take (j + 1)) s = true ↔ (hasL (X.take j) s = true ∨ s = X[j]) := by
    rw [hasL_iff, hasL_iff, List.take_succ_eq_append_getElem hj, List.mem_append, List.mem_singleton]
  rw [e1]
  by_cases e : s = X[j]
  · subst e
    rw [if_pos rfl, if_neg hno, if_pos (e2.2 (.inr rfl))]
    simp
  · rw [if_neg e]
    by_cases h : hasL (X.take j) s = true
    · rw [if_pos h, if_pos (e2.2 (.inl h))]
    · rw [if_neg h, if_neg (fun h2 => (e2.1 h2).elim h e)]
theorem pgF_end {cs : List Cv} {q : Nat} (s : ByteArray) : pgF cs q (cs.getD q Cv.z).2.length s = pgF cs (q + 1) 0 s := by
  unfold pgF
  have e0 : ¬ hasL (((cs.getD (q + 1) Cv.z).2).take 0) s = true := by rw [hasL_iff]; simp
  rw [listK_succ, List.take_length, if_neg e0]
  by_cases h : hasL (cs.getD q Cv.z).2 s = true
  · rw [if_pos h, if_pos h]; simp
  · rw [if_neg h, if_neg h]

end Go.Proofs.YtabemneoobbnaaaGreatDoor
