/- Contract of posting.List. Contract of posting.List where the value is found. Groups by a text, in a map: plain. -/
import Derived.Test.YtabemneoobbnaaaDoorNy
import Derived.Shelf.SlicesG.Clone
import Derived.Shelf.SlicesG.Turned
import Derived.Maps.OwnRows
namespace Go.Proofs.YtabemneoobbnaaaDoor
open Go.Shelf Go.RowKit Go.Lib

theorem lib_CloneN (v : Value) (xs : List Nat) (B : Nat) (w : World) (hv : InN w (· < B) v xs) (hp : 0 < xs.length) (hm : xs.length ≤ 1099511627776) :
    Calls Tryd.prog 21 #[v] w fun e w' => ∃ a c, e = .returned (.slice (some ⟨a, 0, none⟩) xs.length c) ∧ w'.ownsRow w.heap.size 3 1 (.slice (some ⟨a, 0, none⟩) xs.length c) xs.length (natsV xs) ∧ Below w.heap.size w w' := by
  obtain ⟨a, c, rfl, hc, hm', hr⟩ := hv
  obtain ⟨b, o, rfl, hb, hcell⟩ := hr hp
  have hcon := AnyG.slices_Clone_int Tryd.cloneI b o xs.length c (xs.map fun x : Nat => (x : Int)) w (by simp) (by omega) (fun j hj => by
    rw [List.length_map] at hj
    have h1 := hcell j hj 0 (by omega)
    simp only [Nat.mul_one, Nat.add_zero] at h1
    rw [h1]
    simp [natF, List.getD, hj])
  refine hcon.mono ?_
  rintro e w' ⟨v', rfl, hown, -, hbl⟩
  have e1 : ((xs.map fun x : Nat => (x : Int)).take xs.length).map (Value.int .i64) = natsV xs := by
    rw [List.take_of_length_le (by simp)]
    simp [natsV]
  rw [e1] at hown
  obtain ⟨g, cap, rfl, -⟩ := hown.form hp
  exact ⟨g, cap, rfl, hown, hbl⟩

theorem lib_IndexS (v : Value) (xs : List ByteArray) (s : ByteArray) (B : Nat) (w : World) (hv : InS w (· < B) v xs) (hp : 0 < xs.length) :
    Calls Tryd.prog 20 #[v, .string s] w fun e w' => e = .returned (.int .i64 (Lib.idxOfS xs s)) ∧ w' = w := by
  obtain ⟨a, c, rfl, hc, hm', hr⟩ := hv
  obtain ⟨b, o, rfl, hb, hcell⟩ := hr hp
  unfold maxLen at hm'
  have hcon := AnyG.slices_Index_string Tryd.indexS b o xs.length c xs s w (Nat.le_refl _) (by omega) (fun j hj => by
    have h1 := hcell j hj 0 (by omega)
    simp only [Nat.mul_one, Nat.add_zero] at h1
    exact h1)
  rw [List.take_of_length_le (Nat.le_refl _)] at hcon
  exact hcon

end Go.Proofs.YtabemneoobbnaaaDoor

namespace Go.Proofs.YtabemneoobbnaaaDoor
open Go.RowKit

theorem own_lower {w : World} {base base' : Nat} {e : TypeId} {k n : Nat} {v : Value} {L : List Value} (h : w.ownsRow base e k v n L) (hb : base' ≤ base) : w.ownsRow base' e k v n L := by
  refine ⟨h.1, ?_⟩
  rcases h.2 with h1 | ⟨g, cap, cur, e1, hg, rest⟩
  · exact .inl h1
  · exact .inr ⟨g, cap, cur, e1, Nat.le_trans hb hg, rest⟩

set_option maxHeartbeats 1000000 in
theorem posting_List (ix : Ix) (ev vv lv : Value) (B : Nat) (w : World) (hx : RdIx w (· < B) ev vv lv ix) (hB : B ≤ w.heap.size) (s : ByteArray) (i : Nat) (hi : Lib.idxOfS ix.vals s = (i : Int)) (hil : i < ix.lists.length) (hv : 0 < ix.vals.length)
    (hp : 0 < (ix.lists.getD i []).length) (hm : (ix.lists.getD i []).length ≤ 1099511627776) :
    Calls Tryd.prog 10 #[.agg #[ev, vv, lv], .string s] w fun e w' => ∃ a c, e = .returned (.tuple #[.slice (some ⟨a, 0, none⟩) (ix.lists.getD i []).length c, .bool true]) ∧
      w'.ownsRow w.heap.size 3 1 (.slice (some ⟨a, 0, none⟩) (ix.lists.getD i []).length c) (ix.lists.getD i []).length (natsV (ix.lists.getD i [])) ∧ Below w.heap.size w w' := by
  obtain ⟨hE, hV, lf, ⟨la, lc, rfl, hlc, hlm, hlr⟩, hkids⟩ := hx
  obtain ⟨ea, ec, rfl, -⟩ := hE
  have HIX := hid (fun W (hW : Below w.heap.size w W) => lib_IndexS vv ix.vals s B W (hV.keep fun p (hp : p.block < B) => hW.cell (p := p) (by omega)) hv)
  rw [hi] at HIX
  have hk := hkids i hil
  have HCL := hid (fun W (hW : Below w.heap.size w W) => lib_CloneN (lf i) (ix.lists.getD i []) B W (hk.keep fun p (hp : p.block < B) => hW.cell (p := p) (by omega)) hp hm)
  obtain ⟨b, o, rfl, hb, hcell⟩ := hlr (by omega)
  have hb' : b < B := hb
  have hc0 : w.cell? ⟨b, o + i, none⟩ = some (lf i) := by have := hcell i hil 0 (by omega); simpa using this
  obtain ⟨xa, xc, e1, -⟩ := hk
  rw [e1] at hc0 HCL
  obtain ⟨va, vc, rfl, -⟩ := hV
  clear hlr hkids hcell e1 hi hb
  generalize ix.lists.getD i [] = X at *
  generalize ix.vals.length = n2 at *
  generalize ix.ents.length = n1 at *
  generalize ix.lists.length = n3 at *
  unfold maxLen at hlm
  go_enter Tryd.func10, Tryd.ntmps10
  have HB0 := hid ((Below.refl w.heap.size w).alloc (Nat.le_refl _) (.cells #[.slice ea n1 ec, .slice va n2 vc, .slice (some ⟨b, o, none⟩) n3 lc] 30))
  have hbx := BoxN.new w #[.slice ea n1 ec, .slice va n2 vc, .slice (some ⟨b, o, none⟩) n3 lc] 30
  have x1 := hbx.cell 1 rfl
  have x2 := hbx.cell 2 rfl
  have x3 := (HB0.out.cell (p := ⟨b, o + i, none⟩) (by show b < _; omega)).trans hc0
  clear hbx hc0
  have hd0 : decide ((i : Int) < 0) = false := decide_eq_false (by omega)
  have hd1 : decide (n3 ≤ i) = false := decide_eq_false (by omega)
  have hd2 : decide ((n3 : Int) ≤ (i : Int)) = false := decide_eq_false (by omega)
  go_wp2_with fail
  with_reducible refine (HIX.out _ HB0.out).mono ?_
  rintro e w1 ⟨rfl, rfl⟩
  go_wp2_with (go_at_call 21; with_reducible refine (HCL.out _ HB0.out).mono ?_; rintro e w1 ⟨a, c, rfl, hown, hbl⟩)
  go_ret2
  refine ⟨_, _, rfl, own_lower hown (by simp), ?_⟩
  have := HB0.out
  exact this.trans (hbl.mono this.size)

end Go.Proofs.YtabemneoobbnaaaDoor

namespace Go.Proofs.YtabemneoobbnaaaDoor
open Go.RowKit

def keyL (s : ByteArray) : Lit := .string s.data.toList
theorem keyL_inj {s t : ByteArray} (h : keyL s = keyL t) : s = t := by
  obtain ⟨⟨s⟩⟩ := s
  obtain ⟨⟨t⟩⟩ := t
  simp [keyL] at h
  subst h
  rfl
abbrev intsOf (xs : List Nat) : List Int := xs.map fun x : Nat => (x : Int)
structure GrpOk (D : DataW Unit) (F : ByteArray → List Nat) : Prop where
  map : Go.Maps.IsMap D
  look : ∀ s, (F s = [] ∧ D.atKey (keyL s) .nil = .nil) ∨ (F s ≠ [] ∧ D.atKey (keyL s) .nil = .slice (Go.ChangeShapes.lits .i64 (intsOf (F s))) [])
  has : ∀ s, Go.Maps.has D (keyL s) = true ↔ F s ≠ []
theorem GrpOk.start : GrpOk (.map []) (fun _ => []) := ⟨Go.Maps.isMap_empty, fun s => .inl ⟨rfl, rfl⟩, fun s => by simp [Go.Maps.has]⟩
theorem lits_inj {xs ys : List Int} (h : Go.ChangeShapes.lits (H := Unit) .i64 xs = Go.ChangeShapes.lits .i64 ys) : xs = ys := by
  unfold Go.ChangeShapes.lits at h
  exact (List.map_inj_right (fun a b hab => by cases hab; rfl)).1 h
section
variable {D : DataW Unit} {F : ByteArray → List Nat}
theorem GrpOk.given (h : GrpOk D F) {w : World} {base : Nat} {e : TypeId} {v : Value} {zs : List Int} {s : ByteArray} (hat : D.atKey (keyL s) .nil = rowDatum .i64 v zs) (ho : w.ownsInts base e .i64 v zs) : zs = intsOf (F s) := by
  rcases ho.datum (H := Unit) with ⟨h1, rfl⟩ | h1
  · rw [h1] at hat
    rcases h.look s with ⟨h2, -⟩ | ⟨-, h3⟩
    · rw [h2]; rfl
    · rw [h3] at hat; cases hat
  · rw [h1] at hat
    rcases h.look s with ⟨-, h3⟩ | ⟨-, h3⟩
    · rw [h3] at hat; cases hat
    · rw [h3] at hat
      injection hat with hat
      exact (lits_inj hat).symm
theorem GrpOk.push (h : GrpOk D F) {s : ByteArray} {i : Nat} {d : DataW Unit} (hd : d = .slice (Go.ChangeShapes.lits .i64 (intsOf (F s ++ [i]))) []) : GrpOk (D.put (keyL s) d) (fun t => if t = s then F s ++ [i] else F t) := by
  subst hd
  have hk : Go.WideAt.IsKeyLit (keyL s) := by unfold keyL Go.WideAt.IsKeyLit; trivial
  refine ⟨h.map.put _ _, fun t => ?_, fun t => ?_⟩
  · by_cases e : t = s
    · subst e
      right
      rw [if_pos rfl]
      exact ⟨by simp, Go.Maps.atKey_put_same h.map hk _ _⟩
    · rw [if_neg e, Go.Maps.atKey_put_other (fun e2 => e (keyL_inj e2))]
      exact h.look t
  · by_cases e : t = s
    · subst e
      rw [if_pos rfl, Go.Maps.has_put_same h.map hk]
      simp
    · rw [if_neg e, Go.Maps.has_put_other (fun e2 => e (keyL_inj e2))]
      exact h.has t
theorem GrpOk.congr {F' : ByteArray → List Nat} (h : GrpOk D F) (e : ∀ s, F s = F' s) : GrpOk D F' := by
  have : F = F' := funext e
  subst this
  exact h
end

end Go.Proofs.YtabemneoobbnaaaDoor
