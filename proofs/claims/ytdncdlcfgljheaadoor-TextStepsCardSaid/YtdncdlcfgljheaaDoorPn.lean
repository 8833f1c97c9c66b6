/- Plain: the pattern of a text: classes, groups of them, what is written. No program in sight. -/
import Derived.Test.YtdncdlcfgljheaaDoorPt
namespace Go.Proofs.YtdncdlcfgljheaaDoor

/-- the class of a code point -/
def clsN (c : Nat) : Nat := if 48 ≤ c ∧ c ≤ 57 then 57 else if 65 ≤ c ∧ c ≤ 90 then 65 else if 97 ≤ c ∧ c ≤ 122 then 97 else if 128 ≤ c then 117 else c
/-- runs of it are shortened -/
def runC (k : Nat) : Bool := k == 57 || k == 65 || k == 97 || k == 117
theorem clsN_lt (c : Nat) : clsN c < 128 := by unfold clsN; (repeat' split) <;> omega

def grpF : Nat → Nat → List Nat → List (Nat × Nat)
  | c, n, [] => [(c, n)]
  | c, n, k :: ks => if k = c then grpF c (n + 1) ks else (c, n) :: grpF k 1 ks
/-- equal neighbours, counted -/
def groupsOf : List Nat → List (Nat × Nat)
  | [] => []
  | k :: ks => grpF k 1 ks
/-- what is to come behind 'n' of class 'c' -/
def grpRest (c n : Nat) (ks : List Nat) : List (Nat × Nat) := if n = 0 then groupsOf ks else grpF c n ks
def piece (g : Nat × Nat) : List Nat := if runC g.1 then (if g.2 = 1 then [g.1] else [g.1, 43]) else List.replicate g.2 g.1
def patL (ks : List Nat) : List Nat := (groupsOf ks).flatMap piece
def patB (s : ByteArray) : ByteArray := ⟨((patL ((pts s).map clsN)).map UInt8.ofNat).toArray⟩

/-- how many stand side by side -/
def same (c : Nat) : List Nat → Nat
  | [] => 0
  | k :: ks => if k = c then same c ks + 1 else 0
theorem same_le (c : Nat) : ∀ ks, same c ks ≤ ks.length
  | [] => Nat.le_refl _
  | k :: ks => by unfold same; split <;> simp; exact same_le c ks
theorem grpF_same (c : Nat) : ∀ (ks : List Nat) (n : Nat), grpF c n ks = (c, n + same c ks) :: groupsOf (ks.drop (same c ks))
  | [], n => rfl
  | k :: ks, n => by
    unfold grpF same
    split
    · rw [grpF_same c ks (n + 1)]
      simp
      omega
    · rfl
/-- the groups, taken one by one from a list of classes -/
theorem patL_run (k : Nat) (ks : List Nat) (h : runC k = true) : patL (k :: ks) = (if same k ks = 0 then [k] else [k, 43]) ++ patL (ks.drop (same k ks)) := by
  show (grpF k 1 ks).flatMap piece = _
  rw [grpF_same, List.flatMap_cons]
  congr 1
  unfold piece
  simp only [h, if_true]
  by_cases e : same k ks = 0
  · simp [e]
  · rw [if_neg e, if_neg (by simp; omega)]
theorem patL_one (k : Nat) (ks : List Nat) (h : runC k = false) : patL (k :: ks) = k :: patL ks := by
  cases ks with
  | nil => simp [patL, groupsOf, grpF, piece, h]
  | cons j ks =>
    show (grpF k 1 (j :: ks)).flatMap piece = k :: (grpF j 1 ks).flatMap piece
    rw [grpF]
    split
    · rename_i e
      subst e
      rw [grpF_same, grpF_same, List.flatMap_cons, List.flatMap_cons]
      unfold piece
      simp only [h, Bool.false_eq_true, if_false]
      rw [show 1 + 1 + same j ks = (1 + same j ks) + 1 by omega, List.replicate_succ]
      rfl
    · rw [List.flatMap_cons]
      simp [piece, h]
theorem patL_lt {ks : List Nat} (h : ∀ k ∈ ks, k < 128) : ∀ b ∈ patL ks, b < 128 := by
  have key : ∀ (ks : List Nat) (c n : Nat), c < 128 → (∀ k ∈ ks, k < 128) → ∀ g ∈ grpF c n ks, g.1 < 128 := by
    intro ks
    induction ks with
    | nil => intro c n hc _ g hg; simp [grpF] at hg; subst hg; exact hc
    | cons k ks ih =>
      intro c n hc hk g hg
      unfold grpF at hg
      split at hg
      · exact ih c (n + 1) hc (fun x hx => hk x (by simp [hx])) g hg
      · rcases List.mem_cons.1 hg with rfl | hg
        · exact hc
        · exact ih k 1 (hk k (by simp)) (fun x hx => hk x (by simp [hx])) g hg
  intro b hb
  obtain ⟨g, hg, hb⟩ := List.mem_flatMap.1 hb
  have hg1 : g.1 < 128 := by
    cases ks with
    | nil => simp [groupsOf] at hg
    | cons k ks => exact key ks k 1 (h k (by simp)) (fun x hx => h x (by simp [hx])) g hg
  unfold piece at hb
  split at hb
  · split at hb
    · simp at hb; omega
    · simp at hb; omega
  · have := List.eq_of_mem_replicate hb; omega

end Go.Proofs.YtdncdlcfgljheaaDoor
