/- Plain: LineageRight and LineageNearest (chapter 39). No program in sight. Memory: the tables of chapter 39's example, while they are built. The tables of chapter 39's example. DERIVED: THE SHELF's CONTRACTS AT THIS DUMP, IN PLAIN WORDS (tools/lay-plain.mjs out of 'YtaajpliifdlokaaGreatDoorShVL.lean', which tools/lay-shelf.mjs wrote): THE SAME DECLARATIONS UNDER THE SAME NAMES: 'import', 'namespace', 'open', 'def', 'theorem' AND NOTHING ELSE: no command of the shelf's: FOR A HAND-IN. Each laying: the table of numbers ('.._ren') and one theorem, a field a fact of the dump's own or the kernel's comparison; each contract: ONE APPLICATION. Contracts of text.Valid and the reference's Valid; the tables of UTF-8. Contracts of the reference's checks of tables, at valid ones. A region that draws its order, whose operations only read and whose callees may lay blocks: walked once. No program in sight. Contract of the reference's check of a list of tables, at valid ones. -/
import Derived.Test.YtaajpliifdlokaaGreatDoorLnNrac
import Derived.Test.YtaajpliifdlokaaGreatDoorLnNrab
import Derived.Shelf.Unicode.ValidAny
import Derived.Test.YtaajpliifdlokaaGreatDoorProg
import Derived.Test.YtaajpliifdlokaaGreatDoorLnNraa
set_option linter.unusedVariables false
set_option linter.unusedSimpArgs false
namespace Go.Proofs.YtaajpliifdlokaaGreatDoor
open Go.RowKit
theorem link_right {l : List Ta} {x : Lk} (h : x ∈ linksL l) (hv : ∀ t ∈ l, TabV t) : ∃ a ∈ l, ∃ b ∈ l, a.id = x.src ∧ b.id = x.dst ∧ grT a b = true ∧ canRun a.cols x.ops = true ∧ runL a.cols x.ops = b.cols ∧ x.ops.length ≤ 4 := by
  obtain ⟨b, hb, hx⟩ := List.mem_filterMap.1 h
  obtain ⟨a, ha, e1, e2, hg, hf, -⟩ := link_spec hx
  obtain ⟨f, p, e, -, -, -, -, h4, h5⟩ := find_shape hf
  obtain ⟨n, -, hc⟩ := (hv a ha).cv
  exact ⟨a, ha, b, hb, e1, e2, hg, can_found hc (hv b hb).2.2.2.1 hf, h5, h4⟩
def rootsT (l : List Ta) : List Ta := l.filter fun b => (linkO l b).isNone
theorem link_nearest {l : List Ta} {a b : Ta} {ops : List Po} (ha : a ∈ l) (hg : grT a b = true) (hf : findL a.cols b.cols = some ops) :
    ∃ x a0, linkO l b = some x ∧ a0 ∈ l ∧ a0.id = x.src ∧ x.dst = b.id ∧ ¬ (ops.length < x.ops.length ∨ (ops.length = x.ops.length ∧ (cellsT a < cellsT a0 ∨ (cellsT a = cellsT a0 ∧ a0.id < a.id)))) := by
  have hm : (a, ops) ∈ fromsL l b := froms_iff.2 ⟨ha, hg, hf⟩
  rcases h : linkO l b with _ | x
  · have := link_none h
    rw [this] at hm
    cases hm
  · obtain ⟨a0, h1, h2, h3, -, -, h6⟩ := link_spec h
    have h7 := h6 _ hm
    rw [nearO_lt] at h7
    exact ⟨x, a0, rfl, h1, h2, h3.symm, h7⟩
end Go.Proofs.YtaajpliifdlokaaGreatDoor

namespace Go.Proofs.YtaajpliifdlokaaGreatDoor
open Go.RowKit
theorem own_ne {w : World} {base : Nat} {e t : TypeId} {k n b : Nat} {v : Value} {L : List Value} {vs : Array Value} (h : w.ownsRow base e k v n L) (hb : BoxN w b t vs) (hne : e ≠ t) : v.ownBlock ≠ some b := by
  intro e1
  rcases h.2 with ⟨rfl, -⟩ | ⟨g, cap, cur, rfl, -, hg, -⟩
  · cases e1
  · have e2 : g = b := Option.some.inj e1
    subst e2
    unfold BoxN at hb
    rw [hb] at hg
    injection hg with h1
    injection h1 with h2 h3
    exact hne h3.symm
theorem own_ne2 {w : World} {base base' : Nat} {e t : TypeId} {k k' n n' b : Nat} {v v' : Value} {L L' : List Value} (h : w.ownsRow base e k v n L) (h' : w.ownsRow base' t k' v' n' L') (hne : e ≠ t) (hb : v'.ownBlock = some b) : v.ownBlock ≠ some b := by
  intro e1
  rcases h.2 with ⟨rfl, -⟩ | ⟨g, cap, cur, rfl, -, hg, -⟩
  · cases e1
  · rcases h'.2 with ⟨rfl, -⟩ | ⟨g', cap', cur', rfl, -, hg', -⟩
    · cases hb
    · have e2 : g = b := Option.some.inj e1
      have e3 : g' = b := Option.some.inj hb
      subst e2 e3
      rw [hg] at hg'
      injection hg' with h1
      injection h1 with h2 h3
      exact hne h3
theorem own_keepB {w w' : World} {base : Nat} {e : TypeId} {k n : Nat} {v : Value} {L : List Value} (h : w.ownsRow base e k v n L) (hk : ∀ b, v.ownBlock = some b → w'.heap[b]? = w.heap[b]?) : w'.ownsRow base e k v n L := by
  refine ⟨h.1, ?_⟩
  rcases h.2 with h1 | ⟨g, cap, cur, rfl, h2, hg, h3⟩
  · exact .inl h1
  · exact .inr ⟨g, cap, cur, rfl, h2, (hk g rfl).trans hg, h3⟩
def kCl : Cl := ⟨false, ⟨#[107]⟩⟩
def ksL (n : Nat) : List Cl := List.replicate n kCl
def digB : List ByteArray := [⟨#[49]⟩, ⟨#[50]⟩, ⟨#[51]⟩, ⟨#[52]⟩]
def nsL (n : Nat) : List Cl := (List.range n).map fun i => ⟨false, digB.getD i ⟨#[]⟩⟩
def chC (n : Nat) : List Co := [⟨⟨#[97]⟩, ksL n⟩, ⟨⟨#[98]⟩, nsL n⟩]
theorem ksL_len (n : Nat) : (ksL n).length = n := by simp [ksL]
theorem nsL_len (n : Nat) : (nsL n).length = n := by simp [nsL]
theorem ks_push (n : Nat) : flatK 2 n (clF (ksL n)) ++ [.bool false, .string ⟨#[107]⟩] = flatK 2 (n + 1) (clF (ksL (n + 1))) := by
  have h := cl_push (ksL n) kCl
  have e : ksL n ++ [kCl] = ksL (n + 1) := by simp [ksL, List.replicate_succ']
  rw [e, ksL_len, ksL_len] at h
  exact h
theorem ns_push (n : Nat) : flatK 2 n (clF (nsL n)) ++ [.bool false, .string (digB.getD n ⟨#[]⟩)] = flatK 2 (n + 1) (clF (nsL (n + 1))) := by
  have h := cl_push (nsL n) ⟨false, digB.getD n ⟨#[]⟩⟩
  have e : nsL n ++ [⟨false, digB.getD n ⟨#[]⟩⟩] = nsL (n + 1) := by simp [nsL, List.range_succ]
  rw [e, nsL_len, nsL_len] at h
  exact h
structure ChI (W0 W : World) (z : Int) (r0 r1 : Nat) (v0 v1 : Value) : Prop where
  bel : Below W0.heap.size W0 W
  cbx : BoxN W W0.heap.size 55 #[.string ⟨#[97]⟩, v0, .string ⟨#[98]⟩, v1]
  tbx : BoxN W (W0.heap.size + 1) 51 #[.int .i64 z, .string ⟨#[]⟩, .slice (some ⟨W0.heap.size, 0, none⟩) 2 2]
  own0 : W.ownsRow W0.heap.size 84 2 v0 r0 (flatK 2 r0 (clF (ksL r0)))
  own1 : W.ownsRow W0.heap.size 84 2 v1 r1 (flatK 2 r1 (clF (nsL r1)))
  apart : ∀ b, v0.ownBlock = some b → v1.ownBlock ≠ some b
section
variable {W0 W W' : World} {z : Int} {r0 r1 : Nat} {v0 v1 : Value}
theorem ChI.later (h : ChI W0 W z r0 r1 v0 v1) (hb : Below W.heap.size W W') : ChI W0 W' z r0 r1 v0 v1 :=
  ⟨h.bel.trans (hb.mono h.bel.size), h.cbx.below hb h.cbx.lt, h.tbx.below hb h.tbx.lt, own_later h.own0 hb, own_later h.own1 hb, h.apart⟩
theorem ChI.drew (h : ChI W0 W z r0 r1 v0 v1) : ChI W0 W.drew z r0 r1 v0 v1 := h.later (Below.refl _ _).drew
theorem ChI.push0 (h : ChI W0 W z r0 r1 v0 v1) {p cap m : Nat} (hm : m = r0 + 1) (hown : W'.ownsRow W0.heap.size 84 2 (.slice (some ⟨p, 0, none⟩) m cap) m (flatK 2 r0 (clF (ksL r0)) ++ [.bool false, .string ⟨#[107]⟩])) (hg : W.grownBy W' v0.ownBlock) (hat : v0.ownBlock = some p ∨ p = W.heap.size) :
    ChI W0 (W'.setCell ⟨W0.heap.size, 1, none⟩ (.slice (some ⟨p, 0, none⟩) m cap)) z (r0 + 1) r1 (.slice (some ⟨p, 0, none⟩) m cap) v1 := by
  subst hm
  have hsz := h.bel.size
  have e1 : v0.ownBlock ≠ some W0.heap.size := own_ne h.own0 h.cbx (by decide)
  have e2 : v0.ownBlock ≠ some (W0.heap.size + 1) := own_ne h.own0 h.tbx (by decide)
  have e3 : v1.ownBlock ≠ some W0.heap.size := own_ne h.own1 h.cbx (by decide)
  have hcb : BoxN W' W0.heap.size _ _ := h.cbx.grown hg (fun e => e1 e.symm)
  have htb : BoxN W' (W0.heap.size + 1) _ _ := h.tbx.grown hg (fun e => e2 e.symm)
  have hbl : Below W0.heap.size W0 W' := h.bel.trans ⟨hg.os, hg.tape, hg.output, hg.size, fun k hk => hg.block k (by omega) (fun e => by have := (h.own0.lt k e.symm).1; omega)⟩
  rw [ks_push] at hown
  have ep : p ≠ W0.heap.size := fun e => own_ne hown hcb (by decide) (by rw [e]; rfl)
  refine ⟨hbl.setCell (Nat.le_refl _) _, hcb.set 1 _, htb.other (by show W0.heap.size ≠ W0.heap.size + 1; omega) _, own_keepB hown fun b hb => ?_, own_keepB h.own1 fun b hb => ?_, fun b hb => ?_⟩
  · have : p = b := Option.some.inj hb
    exact Below.heap_setCell _ _ _ _ (by show b ≠ W0.heap.size; omega)
  · have h1 : b ≠ W0.heap.size := fun e => e3 (by rw [hb, e])
    rw [Below.heap_setCell _ _ _ _ h1]
    exact hg.block b (h.own1.lt b hb).2 (fun e => h.apart b e.symm hb)
  · have e4 : p = b := Option.some.inj hb
    subst e4
    rcases hat with h1 | h1
    · exact h.apart _ h1
    · intro e
      have := (h.own1.lt _ e).2
      omega
theorem ChI.push1 (h : ChI W0 W z r0 r1 v0 v1) {p cap m : Nat} (hm : m = r1 + 1) (hown : W'.ownsRow W0.heap.size 84 2 (.slice (some ⟨p, 0, none⟩) m cap) m (flatK 2 r1 (clF (nsL r1)) ++ [.bool false, .string (digB.getD r1 ⟨#[]⟩)])) (hg : W.grownBy W' v1.ownBlock) (hat : v1.ownBlock = some p ∨ p = W.heap.size) :
    ChI W0 (W'.setCell ⟨W0.heap.size, 3, none⟩ (.slice (some ⟨p, 0, none⟩) m cap)) z r0 (r1 + 1) v0 (.slice (some ⟨p, 0, none⟩) m cap) := by
  subst hm
  have hsz := h.bel.size
  have e1 : v1.ownBlock ≠ some W0.heap.size := own_ne h.own1 h.cbx (by decide)
  have e2 : v1.ownBlock ≠ some (W0.heap.size + 1) := own_ne h.own1 h.tbx (by decide)
  have e3 : v0.ownBlock ≠ some W0.heap.size := own_ne h.own0 h.cbx (by decide)
  have hcb : BoxN W' W0.heap.size _ _ := h.cbx.grown hg (fun e => e1 e.symm)
  have htb : BoxN W' (W0.heap.size + 1) _ _ := h.tbx.grown hg (fun e => e2 e.symm)
  have hbl : Below W0.heap.size W0 W' := h.bel.trans ⟨hg.os, hg.tape, hg.output, hg.size, fun k hk => hg.block k (by omega) (fun e => by have := (h.own1.lt k e.symm).1; omega)⟩
  rw [ns_push] at hown
  have ep : p ≠ W0.heap.size := fun e => own_ne hown hcb (by decide) (by rw [e]; rfl)
  refine ⟨hbl.setCell (Nat.le_refl _) _, hcb.set 3 _, htb.other (by show W0.heap.size ≠ W0.heap.size + 1; omega) _, own_keepB h.own0 fun b hb => ?_, own_keepB hown fun b hb => ?_, fun b hb => ?_⟩
  · have h1 : b ≠ W0.heap.size := fun e => e3 (by rw [hb, e])
    rw [Below.heap_setCell _ _ _ _ h1]
    exact hg.block b (h.own0.lt b hb).2 (fun e => h.apart b hb e.symm)
  · have : p = b := Option.some.inj hb
    exact Below.heap_setCell _ _ _ _ (by show b ≠ W0.heap.size; omega)
  · intro e
    have e4 : p = b := Option.some.inj e
    subst e4
    rcases hat with h1 | h1
    · exact h.apart _ hb h1
    · have := (h.own0.lt _ hb).2
      omega
end
def TabB (W : World) (lo hi n : Nat) (v : Value) : Prop :=
  ∃ v0 v1, v = .slice (some ⟨lo, 0, none⟩) 2 2 ∧ BoxN W lo 55 #[.string ⟨#[97]⟩, v0, .string ⟨#[98]⟩, v1] ∧ W.ownsRow lo 84 2 v0 n (flatK 2 n (clF (ksL n))) ∧ W.ownsRow lo 84 2 v1 n (flatK 2 n (clF (nsL n))) ∧
    (∀ b, v0.ownBlock = some b → v1.ownBlock ≠ some b) ∧ lo < hi ∧ (∀ b, v0.ownBlock = some b → b < hi) ∧ (∀ b, v1.ownBlock = some b → b < hi)
theorem ChI.built {W0 W : World} {z : Int} {n : Nat} {v0 v1 : Value} (h : ChI W0 W z n n v0 v1) : TabB W W0.heap.size W.heap.size n (.slice (some ⟨W0.heap.size, 0, none⟩) 2 2) :=
  ⟨v0, v1, rfl, h.cbx, h.own0, h.own1, h.apart, h.cbx.lt, fun b hb => (h.own0.lt b hb).2, fun b hb => (h.own1.lt b hb).2⟩
theorem TabB.keep {W W' : World} {lo hi n : Nat} {v : Value} (h : TabB W lo hi n v) (hk : ∀ b cur e, lo ≤ b → b < hi → W.heap[b]? = some (.cells cur e (0, 0)) → e = 84 ∨ e = 55 → W'.heap[b]? = W.heap[b]?) : TabB W' lo hi n v := by
  obtain ⟨v0, v1, rfl, hb, h0, h1, ha, hl, hh0, hh1⟩ := h
  have hrow : ∀ (u : Value) L, W.ownsRow lo 84 2 u n L → (∀ b, u.ownBlock = some b → b < hi) → W'.ownsRow lo 84 2 u n L := fun u L hu hlt => own_keepB hu fun b hbb => by
    rcases hu.2 with ⟨rfl, -⟩ | ⟨g, cap, cur, rfl, hg1, hg, -⟩
    · cases hbb
    · have e : g = b := Option.some.inj hbb
      subst e
      exact hk g cur _ hg1 (hlt g rfl) hg (.inl rfl)
  exact ⟨v0, v1, rfl, (hk lo _ _ (Nat.le_refl _) hl hb (.inr rfl)).trans hb, hrow v0 _ h0 hh0, hrow v1 _ h1 hh1, ha, hl, hh0, hh1⟩
theorem TabB.read {W : World} {lo hi n : Nat} {v : Value} (h : TabB W lo hi n v) : RdCo W (fun b => lo ≤ b ∧ b < hi) v (chC n) := by
  obtain ⟨v0, v1, rfl, hb, h0, h1, ha, hl, hh0, hh1⟩ := h
  refine ⟨fun i => if i = 0 then v0 else v1, ⟨_, _, rfl, Nat.le_refl _, by simp [maxLen], fun _ => ⟨lo, 0, rfl, ⟨Nat.le_refl _, hl⟩, fun i hi j hj => ?_⟩⟩, fun i hi => ?_⟩
  · rcases (show i = 0 ∨ i = 1 by simp [chC] at hi; omega) with rfl | rfl
    · rcases (show j = 0 ∨ j = 1 by omega) with rfl | rfl
      · exact hb.cell 0 rfl
      · exact hb.cell 1 rfl
    · rcases (show j = 0 ∨ j = 1 by omega) with rfl | rfl
      · exact hb.cell 2 rfl
      · exact hb.cell 3 rfl
  · rcases (show i = 0 ∨ i = 1 by simp [chC] at hi; omega) with rfl | rfl
    · show RdCl W _ v0 (ksL n)
      have h2 := h0
      rw [← ksL_len n] at h2
      rw [ksL_len] at h2
      have h3 : W.ownsRow lo 84 2 v0 (ksL n).length (flatK 2 (ksL n).length (clF (ksL n))) := by rw [ksL_len]; exact h0
      exact (inK_of_owns h3).more fun b hbb => ⟨(h0.lt b hbb).1, hh0 b hbb⟩
    · show RdCl W _ v1 (nsL n)
      have h3 : W.ownsRow lo 84 2 v1 (nsL n).length (flatK 2 (nsL n).length (clF (nsL n))) := by rw [nsL_len]; exact h1
      exact (inK_of_owns h3).more fun b hbb => ⟨(h1.lt b hbb).1, hh1 b hbb⟩
end Go.Proofs.YtaajpliifdlokaaGreatDoor

namespace Go.Proofs.YtaajpliifdlokaaGreatDoor
open Go.RowKit
theorem info_taC : (Tryz.prog.info? 51).map (fun i => (i.zero, i.size, i.bytes)) = some (some (.agg #[.int .i64 0, .string ⟨#[]⟩, .slice none 0 0]), 3, 48) := by kernel_rfl
def nulL : List Cl := [⟨false, ⟨#[49]⟩⟩, ⟨false, ⟨#[50]⟩⟩, ⟨false, ⟨#[51]⟩⟩, ⟨true, ⟨#[]⟩⟩]
def chB : List Ta := [⟨1, ⟨#[]⟩, chC 4⟩, ⟨2, ⟨#[]⟩, chC 3⟩, ⟨3, ⟨#[]⟩, chC 1⟩]
def chainL : List Ta := [⟨1, ⟨#[]⟩, [⟨⟨#[97]⟩, ksL 4⟩, ⟨⟨#[98]⟩, nulL⟩]⟩, ⟨2, ⟨#[]⟩, chC 3⟩, ⟨3, ⟨#[]⟩, chC 1⟩]
def nOf (i : Nat) : Nat := [4, 3, 1].getD i 0
theorem TabB.grown {W W' : World} {lo hi n base k : Nat} {v s : Value} {L : List Value} (h : TabB W lo hi n v) {m : Nat} (hs : W.ownsRow base 51 k s m L) (hg : W.grownBy W' s.ownBlock) (hh : hi ≤ W.heap.size) : TabB W' lo hi n v :=
  h.keep fun b cur e _ h2 hb he => hg.block b (by omega) fun eq => by
    rcases hs.2 with ⟨rfl, -⟩ | ⟨g, cap, cur', rfl, -, hg', -⟩
    · cases eq
    · have e2 : b = g := Option.some.inj eq
      subst e2
      rw [hb] at hg'
      injection hg' with h3
      injection h3 with h4 h5
      rw [h5] at he
      rcases he with h6 | h6 <;> exact absurd h6 (by decide)
theorem TabB.nulled {W : World} {lo hi c1 cap : Nat} {v : Value} {v0 : Value} (hb : BoxN W lo 55 #[.string ⟨#[97]⟩, v0, .string ⟨#[98]⟩, .slice (some ⟨c1, 0, none⟩) 4 cap]) (h0 : W.ownsRow lo 84 2 v0 4 (flatK 2 4 (clF (ksL 4)))) (h1 : W.ownsRow lo 84 2 (.slice (some ⟨c1, 0, none⟩) 4 cap) 4 (flatK 2 4 (clF (nsL 4))))
    (ha : v0.ownBlock ≠ some c1) (hl : lo < hi) (hh0 : ∀ b, v0.ownBlock = some b → b < hi) (hh1 : c1 < hi) (hv : v = .slice (some ⟨lo, 0, none⟩) 2 2) :
    RdCo ((W.setCell ⟨c1, 6, none⟩ (.bool true)).setCell ⟨c1, 7, none⟩ (.string ⟨#[]⟩)) (fun b => lo ≤ b ∧ b < hi) v [⟨⟨#[97]⟩, ksL 4⟩, ⟨⟨#[98]⟩, nulL⟩] := by
  subst hv
  have hne : lo ≠ c1 := fun e => own_ne h1 hb (by decide) (by rw [e]; rfl)
  have hb2 := (hb.other (p := ⟨c1, 6, none⟩) (fun e => hne e.symm) (.bool true)).other (p := ⟨c1, 7, none⟩) (fun e => hne e.symm) (.string ⟨#[]⟩)
  have h02 : ((W.setCell ⟨c1, 6, none⟩ (.bool true)).setCell ⟨c1, 7, none⟩ (.string ⟨#[]⟩)).ownsRow lo 84 2 v0 4 (flatK 2 4 (clF (ksL 4))) := own_keepB h0 fun b hbb => by
    have hne2 : b ≠ c1 := fun e => ha (by rw [hbb, e])
    rw [Below.heap_setCell _ _ _ _ hne2, Below.heap_setCell _ _ _ _ hne2]
  have h12 := ((h1.stored 6 (.bool true)).1.stored 7 (.string ⟨#[]⟩)).1
  have ef : ((flatK 2 4 (clF (nsL 4))).set 6 (.bool true)).set 7 (.string ⟨#[]⟩) = flatK 2 4 (clF nulL) := rfl
  rw [ef] at h12
  refine ⟨fun i => if i = 0 then v0 else .slice (some ⟨c1, 0, none⟩) 4 cap, ⟨_, _, rfl, Nat.le_refl _, by simp [maxLen], fun _ => ⟨lo, 0, rfl, ⟨Nat.le_refl _, hl⟩, fun i hi j hj => ?_⟩⟩, fun i hi => ?_⟩
  · rcases (show i = 0 ∨ i = 1 by simp at hi; omega) with rfl | rfl
    · rcases (show j = 0 ∨ j = 1 by omega) with rfl | rfl
      · exact hb2.cell 0 rfl
      · exact hb2.cell 1 rfl
    · rcases (show j = 0 ∨ j = 1 by omega) with rfl | rfl
      · exact hb2.cell 2 rfl
      · exact hb2.cell 3 rfl
  · rcases (show i = 0 ∨ i = 1 by simp at hi; omega) with rfl | rfl
    · exact (inK_of_owns (f := clF (ksL 4)) h02).more fun b hbb => ⟨(h02.lt b hbb).1, hh0 b hbb⟩
    · exact (inK_of_owns (f := clF nulL) h12).more fun b hbb => ⟨(h12.lt b hbb).1, (Option.some.inj hbb : c1 = b) ▸ hh1⟩
def ChainP (w : World) (e : Ending) (w' : World) : Prop := ∃ v, e = .returned v ∧ RdTa w' (News w w') v chainL ∧ Below w.heap.size w w'
end Go.Proofs.YtaajpliifdlokaaGreatDoor

namespace Go.Proofs
open Go.Shelf
def Tryz.layValid_ren : Go.Shelf.Ren := ⟨fun | 196 => 225 | 259 => 253 | n => n, fun | 9 => 9 | 4 => 4 | 3 => 3 | 5 => 5 | 12 => 12 | 119 => 265 | 0 => 0 | 46 => 135 | 139 => 268 | 138 => 267 | 53 => 157 | n => n, fun | 3 => 1 | 4 => 2 | n => n⟩
theorem Tryz.layValid : Go.Proofs.Lays.n196 Tryz.prog Tryz.layValid_ren := {
  mixed := by kernel_rfl
  f196 := Tryz.func225.trans (congrArg some (by kernel_rfl))
  f259 := Tryz.func253.trans (congrArg some (by kernel_rfl))
  t0 := Tryz.underlying0
  a0 := Tryz.isAgg0
  z0 := Tryz.sizeOf0
  v0 := Tryz.zeroValue0
  t3 := Tryz.underlying3
  a3 := Tryz.isAgg3
  z3 := Tryz.sizeOf3
  v3 := Tryz.zeroValue3
  t4 := Tryz.underlying4
  a4 := Tryz.isAgg4
  z4 := Tryz.sizeOf4
  v4 := Tryz.zeroValue4
  t5 := Tryz.underlying5
  a5 := Tryz.isAgg5
  z5 := Tryz.sizeOf5
  v5 := Tryz.zeroValue5
  t9 := Tryz.underlying9
  a9 := Tryz.isAgg9
  z9 := Tryz.sizeOf9
  v9 := Tryz.zeroValue9
  t12 := Tryz.underlying12
  a12 := Tryz.isAgg12
  z12 := Tryz.sizeOf12
  v12 := Tryz.zeroValue12
  t46 := Tryz.underlying135
  a46 := Tryz.isAgg135
  z46 := Tryz.sizeOf135
  v46 := Tryz.zeroValue135
  t53 := Tryz.underlying157
  a53 := Tryz.isAgg157
  z53 := Tryz.sizeOf157
  v53 := Tryz.zeroValue157
  t119 := Tryz.underlying265
  a119 := Tryz.isAgg265
  z119 := Tryz.sizeOf265
  t138 := Tryz.underlying267
  a138 := Tryz.isAgg267
  z138 := Tryz.sizeOf267
  v138 := Tryz.zeroValue267
  t139 := Tryz.underlying268
  a139 := Tryz.isAgg268
  z139 := Tryz.sizeOf268
  v139 := Tryz.zeroValue268
  g3 := by kernel_rfl
  g4 := by kernel_rfl }
end Go.Proofs

namespace Go.Proofs.YtaajpliifdlokaaGreatDoor
open Go.RowKit Go.Shelf
def Tabs (w : World) : Prop := Lib.Utf8Tabs 1 2 w
theorem Tabs.below {w w' : World} (h : Tabs w) (hb : Below w.heap.size w w') : Tabs w' := Utf8Tabs_below h hb
theorem text_Valid (s : ByteArray) (w : World) (hs : s.size ≤ 1099511627776) (hT : Tabs w) : Calls Tryz.prog 198 #[.string s] w (Ret w (.bool (Lib.validD s.data.toList))) := by
  have HV : Hid (∀ W, Tabs W → Calls Tryz.prog 225 #[.string s] W (Ret W (.bool (Lib.validD s.data.toList)))) := hid (fun W h => Any.utf8_ValidString Tryz.layValid s W (by omega) h)
  have HT := hid hT
  clear hT
  generalize Lib.validD s.data.toList = b at *
  go_enter Tryz.func198, Tryz.ntmps198
  go_wp2_with fail
  with_reducible refine (HV.out _ HT.out).mono ?_
  rintro e w1 ⟨rfl, hb⟩
  go_wp2
  go_ret
  exact ⟨rfl, hb⟩
theorem ref_Valid (s : ByteArray) (w : World) (hs : s.size ≤ 1099511627776) (hT : Tabs w) : Calls Tryz.prog 181 #[.string s] w (Ret w (.bool (Lib.validD s.data.toList))) := by
  have HV : Hid (∀ W, Tabs W → Calls Tryz.prog 225 #[.string s] W (Ret W (.bool (Lib.validD s.data.toList)))) := hid (fun W h => Any.utf8_ValidString Tryz.layValid s W (by omega) h)
  have HT := hid hT
  clear hT
  generalize Lib.validD s.data.toList = b at *
  go_enter Tryz.func181, Tryz.ntmps181
  go_wp2_with fail
  with_reducible refine (HV.out _ HT.out).mono ?_
  rintro e w1 ⟨rfl, hb1⟩
  have HB1 := hid hb1
  clear hb1
  go_wp2
  go_ret
  exact ⟨rfl, HB1.out⟩
end Go.Proofs.YtaajpliifdlokaaGreatDoor

namespace Go.Proofs.YtaajpliifdlokaaGreatDoor
open Go.RowKit
theorem ref_name (s : ByteArray) (w : World) (h : TextOk 1024 s) (hT : Tabs w) : Calls Tryz.prog 107 #[.string s] w (Ret w (.bool true)) := by
  have HV := hid (ref_Valid s w (by have := h.1; omega) hT)
  rw [h.2] at HV
  have hs := h.1
  clear h hT
  go_enter Tryz.func107, Tryz.ntmps107
  go_wp2_with fail
  with_reducible refine HV.out.mono ?_
  rintro e w1 ⟨rfl, hb⟩
  have HB := hid hb
  clear hb
  go_wp2
  go_ret
  exact ⟨ret_bool (decide_eq_true (by omega)), HB.out⟩
set_option maxHeartbeats 400000 in
theorem ref_ValidCell (c : Cl) (w : World) (hc : CellOk c) (hT : Tabs w) : Calls Tryz.prog 108 #[.agg #[.bool c.null, .string c.text]] w (Ret w (.bool true)) := by
  obtain ⟨n, t⟩ := c
  obtain ⟨hn, ht, hv⟩ := hc
  have hb0 : Below w.heap.size w (w.alloc (.cells #[.bool n, .string t] 84)) := (Below.refl _ _).alloc (Nat.le_refl _) _
  have HV := hid (ref_Valid t (w.alloc (.cells #[.bool n, .string t] 84)) (by simp at ht; omega) (hT.below hb0))
  simp only at hv ht hn
  rw [hv] at HV
  have hx := BoxN.new w #[.bool n, .string t] 84
  have HB0 := hid hb0
  clear hT hb0 hv
  cases n
  · clear hn
    go_enter Tryz.func108, Tryz.ntmps108
    go_wp2_with fail
    with_reducible refine HV.out.mono ?_
    rintro e w1 ⟨rfl, hb⟩
    have hx1 := hx.below hb (by simp)
    have c0 := hx1.cell 0 rfl
    have c1 := hx1.cell 1 rfl
    have HB := hid (HB0.out.trans (hb.mono (by simp)))
    clear hb hx1 hx
    go_wp2
    go_ret
    exact ⟨rfl, HB.out⟩
  · obtain rfl := hn rfl
    go_enter Tryz.func108, Tryz.ntmps108
    go_wp2_with fail
    with_reducible refine HV.out.mono ?_
    rintro e w1 ⟨rfl, hb⟩
    have hx1 := hx.below hb (by simp)
    have c0 := hx1.cell 0 rfl
    have c1 := hx1.cell 1 rfl
    have HB := hid (HB0.out.trans (hb.mono (by simp)))
    clear hb hx1 hx hn
    go_wp2
    go_ret
    exact ⟨rfl, HB.out⟩
set_option maxRecDepth 100000 in
set_option maxHeartbeats 2000000 in
theorem ref_ValidTab (t : Ta) (v : Value) (B : Nat) (w : World) (ht : TabV t) (hv : RdCo w (· < B) v t.cols) (hB : B ≤ w.heap.size) (hT : Tabs w) :
  Calls Tryz.prog 66 #[.agg #[.int .i64 t.id, .string t.name, v]] w (Ret w (.bool true)) := by
 obtain ⟨id, nm, xs⟩ := t
 obtain ⟨h0, h1, hnm, hxs, n, hn, hcs⟩ := ht
 simp only at h0 h1 hnm hxs hcs hv
 obtain ⟨cv, hcv, hcl⟩ := hv
 obtain ⟨a, k, rfl, hk, hm, hrd⟩ := hcv
 have hb0 : Below w.heap.size w (w.alloc (.cells #[.int .i64 id, .string nm, .slice a xs.length k] 51)) := (Below.refl _ _).alloc (Nat.le_refl _) _
 have HN := hid (ref_name nm (w.alloc (.cells #[.int .i64 id, .string nm, .slice a xs.length k] 51)) hnm (hT.below hb0))
 have hx := BoxN.new w #[.int .i64 id, .string nm, .slice a xs.length k] 51
 have HB0 := hid hb0
 have HT := hid hT
 have HRD := hid hrd
 have HCL := hid hcl
 have HCS := hid hcs
 clear hb0 hT hrd hcl hcs hnm
 generalize hxl : xs.length = L at *
 have HXL := hid hxl
 clear hxl
 unfold maxLen at hm
 go_enter Tryz.func66, Tryz.ntmps66
 generalize hLA : Code.loop _ = LA
 go_wp2_with fail
 with_reducible refine HN.out.mono ?_
 rintro e w1 ⟨rfl, hb⟩
 have hx1 := hx.below hb (by simp)
 have c0 := hx1.cell 0 rfl
 have c1 := hx1.cell 1 rfl
 have c2 := hx1.cell 2 rfl
 have HX1 := hid hx1
 have HB1 := hid (HB0.out.trans (hb.mono (by simp)))
 have hz1 := hx1.lt
 clear hb hx1 hx HN
 go_wp2_with fail
 clear c0 c1 c2
 subst hLA
 go_loopg [30] L (fun N i wr => ∃ q : Nat, q + N = L ∧ i = .int .i64 (q : Int) ∧ Hid (Below w1.heap.size w1 wr))
 case atStart => exact ⟨0, by omega, rfl, hid (Below.refl _ _)⟩
 case round =>
  obtain ⟨q, hq, rfl, HB⟩ := hrel
  by_cases hp : 0 < gk
  ·obtain ⟨b, o, rfl, hb, hcell⟩ := HRD.out (by omega)
   have hbw : b < w.heap.size := by omega
   have HBW := hid (HB1.out.trans (HB.out.mono HB1.out.size))
   have hwz := HBW.out.size
   have hwz1 := HB.out.size
   obtain ⟨hxn, hxl, hxc⟩ := HCS.out _ (getD_mem (l := xs) (i := q) (by have := HXL.out; omega) Co.z)
   obtain ⟨-, hxl0, -⟩ := HCS.out _ (getD_mem (l := xs) (i := 0) (by have := HXL.out; omega) Co.z)
   have HRQ := hid (HCL.out q (by omega))
   obtain ⟨ca, ck, hcq, -, -, -⟩ := HCL.out q (by omega)
   obtain ⟨ca0, ck0, hc0, -, -, -⟩ := HCL.out 0 (by omega)
   rw [hxl] at hcq
   rw [hxl0] at hc0
   have k0 : wr.cell? ⟨b, o + q * 2, none⟩ = some (.string (xs.getD q Co.z).name) := (HBW.out.cell (p := ⟨b, o + q * 2, none⟩) hbw).trans (hcell q (by omega) 0 (by omega))
   have k1 : wr.cell? ⟨b, o + q * 2 + 1, none⟩ = some (cv q) := (HBW.out.cell (p := ⟨b, o + q * 2 + 1, none⟩) hbw).trans (hcell q (by omega) 1 (by omega))
   have k2 : wr.cell? ⟨b, o + 1, none⟩ = some (cv 0) := (HBW.out.cell (p := ⟨b, o + 1, none⟩) hbw).trans (by have := hcell 0 (by omega) 1 (by omega); simp only [Nat.zero_mul, Nat.add_zero] at this; exact this)
   have k3 := (HX1.out.below HB.out hz1).cell 2 rfl
   rw [hcq] at k1
   rw [hc0] at k2
   rw [hcq] at HRQ
   have HXN := hid hxn
   have HXC := hid hxc
   have HXL2 := hid hxl
   clear hcell hcq hc0 hxl0 hxn hxc hxl
   generalize xs.getD q Co.z = x at *
   obtain ⟨xn, xc⟩ := x
   have HNM := hid (fun W h => ref_name xn W HXN.out h)
   have HCC := hid (fun c h W hW => ref_ValidCell c W (HXC.out c h) hW)
   have n0 : ∀ O : Obj, (wr.alloc O).cell? ⟨b, o + 1, none⟩ = some (.slice ca0 n ck0) := fun O => (World.cell?_alloc_lt _ _ _ (by show b < _; omega)).trans k2
   have n1 : ∀ O : Obj, (wr.alloc O).cell? ⟨w.heap.size, 2, none⟩ = some (.slice (some ⟨b, o, none⟩) L k) := fun O => (World.cell?_alloc_lt _ _ _ (by show w.heap.size < _; omega)).trans k3
   have n2 := n0 (.cells #[.string xn, .slice ca n ck] 55)
   have n3 := n1 (.cells #[.string xn, .slice ca n ck] 55)
   clear n0 n1
   have hd : decide ((4096 : Int) < (n : Int)) = false := by simp; omega
   have hL0 : 0 < L := by omega
   have hL1 : (0 : Int) < (L : Int) := by omega
   have hL2 : L ≠ 0 := by omega
   go_wp2_with fail
   go_region_held3 (fun w' => w'.cell? ⟨wr.heap.size, 0, none⟩ = some (.string xn) ∧ w'.cell? ⟨wr.heap.size, 1, none⟩ = some (.slice ca n ck) ∧ w'.cell? ⟨b, o + 1, none⟩ = some (.slice ca0 n ck0) ∧ w'.cell? ⟨w.heap.size, 2, none⟩ = some (.slice (some ⟨b, o, none⟩) L k))
    (first | exact ⟨o0, o1, o2, o3⟩ | go_keep)
    (first
     | (go_at_call 107; go_must (((with_reducible refine (HNM.out _ (HT.out.below (by have := HBW.out; repeat' (first | (with_reducible exact Below.refl _ _) | (with_reducible assumption) | (with_reducible refine below_drewN ?_) | (with_reducible refine Below.alloc ?_ ?_ _) | (with_reducible refine Below.drew ?_) | (with_reducible refine Below.setCell ?_ ?_ _) | (with_reducible refine Below.trans ?_ (Below.mono (by with_reducible assumption) ?_)) | go_size)))).mono ?_); rintro e w5 ⟨rfl, hb5⟩; have o0 := cell_later hb5 (a := ⟨wr.heap.size, 0, none⟩) (v := .string xn) (by go_cell); have o1 := cell_later hb5 (a := ⟨wr.heap.size, 1, none⟩) (v := .slice ca n ck) (by go_cell); have o2 := cell_later hb5 (a := ⟨b, o + 1, none⟩) (v := .slice ca0 n ck0) (by go_cell); have o3 := cell_later hb5 (a := ⟨w.heap.size, 2, none⟩) (v := .slice (some ⟨b, o, none⟩) L k) (by go_cell)))))
   have HB5 : Hid (Below wr.heap.size wr w5) := hid (by repeat' (first | (with_reducible exact Below.refl _ _) | (with_reducible assumption) | (with_reducible refine below_drewN ?_) | (with_reducible refine Below.alloc ?_ ?_ _) | (with_reducible refine Below.drew ?_) | (with_reducible refine Below.setCell ?_ ?_ _) | (with_reducible refine Below.trans ?_ (Below.mono (by with_reducible assumption) ?_)) | go_size))
   have HBW5 := hid (HBW.out.trans (HB5.out.mono hwz))
   have HBI := hid (HB.out.trans (HB5.out.mono hwz1))
   have hz5 := HB5.out.size
   clear hb5 o0 o2 o3 n2 n3 k0 k1 k2 k3 hd
   obtain ⟨wo, rfl⟩ : ∃ wo, wo = wr := ⟨wr, rfl⟩
   obtain ⟨ko, rfl⟩ : ∃ ko, ko = gk := ⟨gk, rfl⟩
   obtain ⟨ca', ck', hce, -, -, hrc⟩ := HRQ.out
   simp only at hrc hce
   rw [HXL2.out] at hrc hce
   obtain ⟨rfl, -, rfl⟩ := Value.slice.inj hce
   have HRC := hid hrc
   clear hrc hce HRQ
   go_wp2_with fail
   go_loopg [59] n (fun N i W => ∃ j : Nat, j + N = n ∧ i = .int .i64 (j : Int) ∧ Hid (Below w5.heap.size w5 W))
   case atStart => exact ⟨0, by omega, rfl, hid (by have := Below.refl w5.heap.size w5; repeat' (first | (with_reducible exact Below.refl _ _) | (with_reducible assumption) | (with_reducible refine below_drewN ?_) | (with_reducible refine Below.alloc ?_ ?_ _) | (with_reducible refine Below.drew ?_) | (with_reducible refine Below.setCell ?_ ?_ _) | (with_reducible refine Below.trans ?_ (Below.mono (by with_reducible assumption) ?_)) | go_size))⟩
   case round =>
    obtain ⟨j, hj, rfl, HBJ⟩ := hrel
    by_cases hpj : 0 < gk
    ·obtain ⟨b2, o2, rfl, hb2, hcell2⟩ := HRC.out (by omega)
     have hbw2 : b2 < w.heap.size := by omega
     have hjz := HBJ.out.size
     have HBWJ := hid (HBW5.out.trans (HBJ.out.mono HBW5.out.size))
     have k0 : wr.cell? ⟨b2, o2 + j * 2, none⟩ = some (.bool (xc.getD j Cl.z).null) := (HBWJ.out.cell (p := ⟨b2, o2 + j * 2, none⟩) hbw2).trans (hcell2 j (by omega) 0 (by omega))
     have k1 : wr.cell? ⟨b2, o2 + j * 2 + 1, none⟩ = some (.string (xc.getD j Cl.z).text) := (HBWJ.out.cell (p := ⟨b2, o2 + j * 2 + 1, none⟩) hbw2).trans (hcell2 j (by omega) 1 (by omega))
     have HCJ := hid (HCC.out _ (getD_mem (l := xc) (i := j) (by have h : xc.length = n := HXL2.out; omega) Cl.z))
     clear hcell2
     generalize xc.getD j Cl.z = c at *
     obtain ⟨cn, ct⟩ := c
     go_wp2_with fail
     with_reducible refine (HCJ.out _ (HT.out.below (by have := HBWJ.out; repeat' (first | (with_reducible exact Below.refl _ _) | (with_reducible assumption) | (with_reducible refine below_drewN ?_) | (with_reducible refine Below.alloc ?_ ?_ _) | (with_reducible refine Below.drew ?_) | (with_reducible refine Below.setCell ?_ ?_ _) | (with_reducible refine Below.trans ?_ (Below.mono (by with_reducible assumption) ?_)) | go_size)))).mono ?_
     rintro e w6 ⟨rfl, hb6⟩
     have HB6 : Hid (Below wr.heap.size wr w6) := hid (by repeat' (first | (with_reducible exact Below.refl _ _) | (with_reducible assumption) | (with_reducible refine below_drewN ?_) | (with_reducible refine Below.alloc ?_ ?_ _) | (with_reducible refine Below.drew ?_) | (with_reducible refine Below.setCell ?_ ?_ _) | (with_reducible refine Below.trans ?_ (Below.mono (by with_reducible assumption) ?_)) | go_size))
     clear hb6 k0 k1
     go_wp2_with fail
     go_roundg (gk - 1)
     case rel => exact ⟨j + 1, by omega, by go_num, hid (HBJ.out.trans (HB6.out.mono hjz))⟩
     case measure => omega
    ·obtain rfl : j = n := by omega
     go_wp2_with fail
     go_roundg (ko - 1)
     case rel => exact ⟨q + 1, by omega, by go_num, hid (HBI.out.trans (HBJ.out.mono (by omega)))⟩
     case measure => omega
  ·obtain rfl : q = L := by omega
   go_wp2
   go_ret
   exact ⟨rfl, HB1.out.trans (HB.out.mono HB1.out.size)⟩
end Go.Proofs.YtaajpliifdlokaaGreatDoor

namespace Go.Proofs.YtaajpliifdlokaaGreatDoor
open Go.RowKit
structure LaterOf (w : World) where
  W : World
  hb : Below w.heap.size w W
instance later_inhabited (w : World) : Inhabited (LaterOf w) := ⟨⟨w, Below.refl _ _⟩⟩
theorem wp_region_later {P : Program} {id : Nat} {Q : Exit → Act → World → Prop} {a : Act} {w : World} {l : List Oper} (hm : P.follows .mixedOrders = true) (hB : Region.lexB .any l.toArray = true)
    (h : wpQuiet P l.toArray (fun w' => ∃ p : LaterOf w, w' = p.W) (fun a' => ∀ w', (∃ p : LaterOf w, w' = p.W) → Q .normal a' w') l a) : (Code.region id l.toArray true).wp P Q a w :=
  wp_region_quiet (C := fun w' => ∃ p : LaterOf w, w' = p.W) hm hB ⟨⟨w.drewN 1, below_drewN (Below.refl _ _)⟩, rfl⟩ (by simpa using h)
theorem later_call {P : Program} {f : FuncId} {args : Array Value} {w : World} {v : Value} (p : LaterOf w) (h : Calls P f args p.W (Ret p.W v)) :
    Calls P f args p.W fun e w'' => e = .returned v ∧ ∃ q : LaterOf w, w'' = q.W :=
  h.mono fun _ w' ⟨he, hb⟩ => ⟨he, ⟨w', p.hb.trans (hb.mono p.hb.size)⟩, rfl⟩
theorem LaterOf.cell {w : World} (p : LaterOf w) {a : Addr} {v : Value} (h : w.cell? a = some v) : p.W.cell? a = some v := (p.hb.cell (World.block_lt_of_cell? _ _ h)).trans h
end Go.Proofs.YtaajpliifdlokaaGreatDoor
namespace Go.Proofs.YtaajpliifdlokaaGreatDoor
open Go.RowKit
end Go.Proofs.YtaajpliifdlokaaGreatDoor
