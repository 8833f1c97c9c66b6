/- Contracts of the reference's Build of an index, and of the dice's Index. -/
import Derived.Test.YtabemneoobbnaaaGreatDoorNh
namespace Go.Proofs.YtabemneoobbnaaaGreatDoor
open Go.RowKit

/-- columns with their values that grow -/
def CvSt (w : World) (base : Nat) (e : TypeId) (v : Value) (cs : List Cv) : Prop :=
  ∃ vv : Nat → Value, Nest 3 w base e v cs.length (cvF cs vv) (fun i w S => InS w S (vv i) (cs.getD i Cv.z).2)
section
variable {w w' : World} {base : Nat} {e : TypeId} {v : Value} {cs : List Cv}
theorem CvSt.start (hb : base ≤ w.heap.size) : CvSt w base e (.slice none 0 0) [] := ⟨fun _ => .bool false, Nest.start hb⟩
theorem CvSt.later (h : CvSt w base e v cs) (hb : Below w.heap.size w w') (hp : 0 < base) : CvSt w' base e v cs := by
  obtain ⟨vv, h⟩ := h
  exact ⟨vv, h.below (fun i _ => keeps_s _ _) hb (Nat.le_refl _) hp⟩
theorem CvSt.owns (h : CvSt w base e v cs) : ∃ L, w.ownsRow base e 3 v cs.length L := by
  obtain ⟨vv, h⟩ := h
  exact ⟨_, h.row⟩
theorem CvSt.push (h : CvSt w base e v cs) {L : List Value} (hL : w.ownsRow base e 3 v cs.length L) {x : Cv} {u : Value} {g n cap : Nat} (hn : n = cs.length + 1)
    (hown : w'.ownsRow base e 3 (.slice (some ⟨g, 0, none⟩) n cap) n (L ++ [.int .i64 x.1.1, .int .i64 (x.1.2 : Int), u])) (hg : w.grownBy w' v.ownBlock) (hat : v.ownBlock = some g ∨ g = w.heap.size)
    (hnew : InS w (Own w base v) u x.2) : CvSt w' base e (.slice (some ⟨g, 0, none⟩) n cap) (cs ++ [x]) := by
  obtain ⟨vv, h⟩ := h
  subst hn
  have hLL := own_same hL h.row
  subst hLL
  refine ⟨fun i => if i = cs.length then u else vv i, ?_⟩
  rw [List.length_append, List.length_singleton]
  refine h.push (fun i _ => keeps_s _ _) hown hg hat ?_ (keeps_s _ _) ?_ ?_ ?_
  · simpa [List.getD] using hnew
  · intro i hi j hj
    have : i ≠ cs.length := by omega
    simp [cvF, List.getD, List.getElem?_append_left hi, this]
  · simp [cvF, List.getD, List.range_succ, three]
  · intro i hi
    have : i ≠ cs.length := by omega
    simp [List.getD, List.getElem?_append_left hi, this]
theorem CvSt.read (h : CvSt w base e v cs) : RdCv w (fun b => base ≤ b ∧ b < w.heap.size) v cs := by
  obtain ⟨vv, h⟩ := h
  exact ⟨vv, (inK_of_owns h.row).more fun b hb => h.row.lt b hb, fun i hi => InK.more (h.kids i hi) fun b hb => ⟨hb.1, hb.2.1⟩⟩
theorem CvSt.low (h : CvSt w base e v cs) : base ≤ w.heap.size := by
  obtain ⟨vv, h⟩ := h
  exact h.low
end

/-- the columns of tables with their values -/
def cvOf (ts : List Ta) (q : Nat) : Cv := ((refsL ts).getD q (0, 0), valuesL ((colsL ts).getD q Co.z).cells)
def cvsK (ts : List Ta) (k : Nat) : List Cv := (List.range k).map (cvOf ts)
def cvsL (ts : List Ta) : List Cv := cvsK ts (refsL ts).length
theorem cvsK_succ (ts : List Ta) (k : Nat) : cvsK ts (k + 1) = cvsK ts k ++ [cvOf ts k] := by simp [cvsK, List.range_succ]
theorem cvsK_len (ts : List Ta) (k : Nat) : (cvsK ts k).length = k := by simp [cvsK]
theorem refs_le {ts : List Ta} (h : ∀ t ∈ ts, t.cols.length ≤ 64) : (refsL ts).length ≤ ts.length * 64 := by
  induction ts with
  | nil => simp [refsL]
  | cons t ts ih =>
    have e1 : refsL (t :: ts) = refs1 t ++ refsL ts := rfl
    rw [e1, List.length_append, refs1_len, List.length_cons, Nat.succ_mul]
    have h1 := h t (by simp)
    have h2 := ih fun x hx => h x (by simp [hx])
    omega
theorem cvOf_len {ts : List Ta} (h : ListV ts) {q : Nat} (hq : q < (refsL ts).length) : (cvOf ts q).2.length ≤ 4096 := by
  obtain ⟨i, k, hi, hk, -, h4⟩ := refs_at ts q hq
  unfold cvOf
  simp only
  rw [h4]
  obtain ⟨n, hn, hc⟩ := (h.2.1 _ (getD_mem hi Ta.z)).2.2.2.2
  have := (hc _ (getD_mem hk Co.z)).2.1
  have := values_len ((ts.getD i Ta.z).cols.getD k Co.z).cells
  omega
theorem cvs_len {ts : List Ta} (h : ListV ts) : ∀ c ∈ cvsL ts, c.2.length ≤ 4096 := by
  intro c hc
  obtain ⟨q, hq, rfl⟩ := List.mem_map.1 hc
  exact cvOf_len h (List.mem_range.1 hq)
def BuildP (w : World) (x : Ix) (e : Ending) (w' : World) : Prop :=
  ∃ ev vv lv, e = .returned (.tuple #[.agg #[ev, vv, lv], .int .i64 0]) ∧ RdIx w' (News w w') ev vv lv x ∧ Below w.heap.size w w'

/-- Get at the q-th reference -/
theorem ref_Get_at (v : Value) (ts : List Ta) (B q : Nat) (w : World) (h : ListV ts) (hq : q < (refsL ts).length) (hv : RdTa w (· < B) v ts) (hB : B ≤ w.heap.size) :
    Calls Tryz.prog 20 #[v, .agg #[.int .i64 ((refsL ts).getD q (0, 0)).1, .int .i64 (((refsL ts).getD q (0, 0)).2 : Int)]] w (GetP w B ((colsL ts).getD q Co.z)) := by
  obtain ⟨i, k, hi, hk, h3, h4⟩ := refs_at ts q hq
  rw [h3, h4]
  exact ref_Get v ts B i k w hi (fun j hj => by have := ids_up h.2.2 hj hi; omega) (by have := h.1; omega) hk hv hB

end Go.Proofs.YtabemneoobbnaaaGreatDoor
