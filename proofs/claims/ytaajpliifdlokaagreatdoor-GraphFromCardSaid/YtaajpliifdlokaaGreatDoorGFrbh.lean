/- Plain: the relations at a greater bound are those of the lesser one that are enough for it. Two relations compared. Contract of the kit's Edges; plain: what GraphFrom asks of the relations of a table. -/
import Derived.Test.YtaajpliifdlokaaGreatDoorGFrba
import Derived.Test.YtaajpliifdlokaaGreatDoorGFraz
import Derived.Test.YtaajpliifdlokaaGreatDoorGFrbg
set_option linter.unusedVariables false
set_option linter.unusedSimpArgs false
namespace Go.Proofs.YtaajpliifdlokaaGreatDoor
open Go.RowKit
end Go.Proofs.YtaajpliifdlokaaGreatDoor

namespace Go.Proofs.YtaajpliifdlokaaGreatDoor
open Go.RowKit
def rlEq (x y : Rl) : Bool := x.ta == y.ta && (x.ca == y.ca && (x.tb == y.tb && (x.cb == y.cb && (x.co == y.co && (x.oa == y.oa && (x.ob == y.ob && (x.ma == y.ma && (x.mb == y.mb && (x.la == y.la && x.lb == y.lb)))))))))
theorem rlEq_iff (x y : Rl) : rlEq x y = true ↔ x = y := by
  obtain ⟨xta, xca, xtb, xcb, xco, xoa, xob, xma, xmb, xla, xlb⟩ := x
  obtain ⟨yta, yca, ytb, ycb, yco, yoa, yob, yma, ymb, yla, ylb⟩ := y
  simp [rlEq]
theorem rlEq_self (x : Rl) : rlEq x x = true := (rlEq_iff x x).2 rfl
set_option maxHeartbeats 1000000 in
theorem eql_rl (xta xca xtb xcb xco xoa xob xma xmb xla xlb yta yca ytb ycb yco yoa yob yma ymb yla ylb : Int) (w : World) : (binOp .eql 44 (.agg #[.int .i64 xta, .int .i64 xca, .int .i64 xtb, .int .i64 xcb, .int .i64 xco, .int .i64 xoa, .int .i64 xob, .int .i64 xma, .int .i64 xmb, .int .i64 xla, .int .i64 xlb]) (.agg #[.int .i64 yta, .int .i64 yca, .int .i64 ytb, .int .i64 ycb, .int .i64 yco, .int .i64 yoa, .int .i64 yob, .int .i64 yma, .int .i64 ymb, .int .i64 yla, .int .i64 ylb])).run Tryz.prog w = .ok (.bool (rlEq ⟨xta, xca, xtb, xcb, xco, xoa, xob, xma, xmb, xla, xlb⟩ ⟨yta, yca, ytb, ycb, yco, yoa, yob, yma, ymb, yla, ylb⟩)) w := by
  simp [go_sem, rlEq]
  (repeat' split) <;> simp_all
end Go.Proofs.YtaajpliifdlokaaGreatDoor

namespace Go.Proofs.YtaajpliifdlokaaGreatDoor
open Go.RowKit
set_option maxRecDepth 100000 in
theorem kit_Edges (v : Value) (ts : List Ta) (B : Nat) (w : World) (h : ListV ts) (hf : FewT ts) (hv : RdTa w (· < B) v ts) (hB : B ≤ w.heap.size) (hT : Tabs w) : Calls Tryz.prog 18 #[v] w (EdgesP w ts) := by
  have HBU := hid (fun W (hW : Below w.heap.size w W) u (hu : Fr.RdF W u false 0 1) => ref30_Build v u ts B W h hf (hv.keep (w' := W) fun p (hp : p.block < B) => hW.cell (p := p) (by omega)) (Nat.le_trans hB hW.size) hu (hT.below hW))
  obtain ⟨va, vc, rfl⟩ : ∃ x y, v = .slice x ts.length y := by
    obtain ⟨tv, ⟨x, y, e, -⟩, -⟩ := hv
    exact ⟨x, y, e⟩
  clear hv h hf hT
  generalize ts.length = N at *
  go_enter Tryz.func18, Tryz.ntmps18
  go_wp2_with fail
  with_reducible refine (Fr.ref_Zero w).mono ?_
  rintro e w1 ⟨a6, c6, b6, d6, rfl, hN, hb1⟩
  have HB1 := hid hb1
  have HN1 := hid (hN.rd false)
  clear hN hb1
  go_wp2_with fail
  with_reducible refine (HBU.out w1 HB1.out _ HN1.out).mono ?_
  rintro e w2 ⟨x, rs, rfl, hg, ho, hb2⟩
  have HF : Hid (EdgesP w ts (.returned x) w2) := hid ⟨x, rs, rfl, hg, own_base ho HB1.out.size, HB1.out.trans (hb2.mono HB1.out.size)⟩
  obtain ⟨xa, xc, rfl⟩ := ho.len
  clear hg ho hb2
  generalize rs.length = M at *
  go_wp2
  go_ret
  exact HF.out
theorem fromO_some {t : Int} {r x : Rl} (h : fromO t r = some x) : x.ta = t ∧ (x = r ∨ x = r.turn) := by
  unfold fromO at h
  split at h
  · rename_i e
    obtain rfl := Option.some.inj h
    exact ⟨e, .inl rfl⟩
  · split at h
    · rename_i e
      obtain rfl := Option.some.inj h
      exact ⟨e, .inr rfl⟩
    · cases h
theorem from_mem {rs : List Rl} {t : Int} {x : Rl} (h : x ∈ fromR rs t) : x.ta = t ∧ ∃ r ∈ rs, r = x ∨ r = x.turn := by
  obtain ⟨r, hr, e⟩ := List.mem_filterMap.1 h
  obtain ⟨h1, h2⟩ := fromO_some e
  refine ⟨h1, r, hr, ?_⟩
  rcases h2 with h2 | h2
  · exact .inl h2.symm
  · exact .inr (by rw [h2, Rl.turn_turn])
def foundL (xs : List Rl) (r : Rl) : Bool := xs.any fun x => rlEq x r || rlEq x r.turn
theorem found_next {rs : List Rl} {r : Rl} {k : Nat} (hk : k < rs.length) : foundL (rs.take (k + 1)) r = (foundL (rs.take k) r || (rlEq (rs.getD k Rl.z) r || rlEq (rs.getD k Rl.z) r.turn)) := by
  unfold foundL
  rw [List.take_succ_eq_append_getElem hk, List.any_append]
  simp [List.getD, hk]
theorem found_all {rs : List Rl} {t : Int} {r : Rl} (h : r ∈ fromR rs t) : foundL (rs.take rs.length) r = true := by
  obtain ⟨-, x, hx, h1⟩ := from_mem h
  unfold foundL
  rw [List.take_length, List.any_eq_true]
  refine ⟨x, hx, ?_⟩
  rcases h1 with rfl | rfl
  · rw [rlEq_self]; rfl
  · rw [rlEq_self, Bool.or_true]
def seenL (rs : List Rl) (ids : List Int) : Nat := (ids.map fun t => (fromR rs t).length).sum
theorem seen_next {rs : List Rl} {ids : List Int} {q : Nat} (hq : q < ids.length) : seenL rs (ids.take (q + 1)) = seenL rs (ids.take q) + (fromR rs (ids.getD q 0)).length := by
  unfold seenL
  rw [List.take_succ_eq_append_getElem hq, List.map_append, List.sum_append]
  simp [List.getD, hq]
theorem sum_addN : ∀ (ids : List Int) (f g : Int → Nat), (ids.map fun t => f t + g t).sum = (ids.map f).sum + (ids.map g).sum
  | [], _, _ => rfl
  | x :: l, f, g => by
    have := sum_addN l f g
    simp only [List.map_cons, List.sum_cons]
    omega
theorem sum_none {a : Int} : ∀ {ids : List Int}, a ∉ ids → (ids.map fun t => if a = t then 1 else 0).sum = 0
  | [], _ => rfl
  | x :: l, h => by
    have h1 := sum_none (a := a) (ids := l) fun e => h (by simp [e])
    simp only [List.map_cons, List.sum_cons, h1]
    rw [if_neg (fun e => h (by simp [e]))]
theorem sum_one {a : Int} : ∀ {ids : List Int}, ids.Nodup → a ∈ ids → (ids.map fun t => if a = t then 1 else 0).sum = 1
  | x :: l, hn, ha => by
    obtain ⟨h1, h2⟩ := List.nodup_cons.1 hn
    simp only [List.map_cons, List.sum_cons]
    rcases List.mem_cons.1 ha with e | ha
    · subst e
      rw [if_pos rfl, sum_none h1]
    · rw [if_neg (fun e => h1 (by rw [← e]; exact ha)), sum_one h2 ha]
theorem seen_twice {ids : List Int} (hn : ids.Nodup) : ∀ {rs : List Rl}, (∀ r ∈ rs, r.ta ∈ ids ∧ r.tb ∈ ids ∧ r.ta < r.tb) → seenL rs ids = 2 * rs.length
  | [], _ => by
    have h0 : ∀ l : List Int, (l.map fun t => (fromR [] t).length).sum = 0 := by
      intro l
      induction l with
      | nil => rfl
      | cons x l ih => rw [List.map_cons, List.sum_cons, ih]; rfl
    exact h0 ids
  | r :: rs, h => by
    have ih := seen_twice hn (rs := rs) fun x hx => h x (by simp [hx])
    obtain ⟨h1, h2, h3⟩ := h r (by simp)
    have e : ∀ t, (fromR (r :: rs) t).length = (fromR rs t).length + ((if r.ta = t then 1 else 0) + (if r.tb = t then 1 else 0)) := by
      intro t
      unfold fromR fromO
      rw [List.filterMap_cons]
      by_cases c1 : r.ta = t
      · have c2 : ¬ r.tb = t := by omega
        simp [c1, c2]
      · by_cases c2 : r.tb = t <;> simp [c1, c2]
    unfold seenL at ih ⊢
    rw [show (fun t => (fromR (r :: rs) t).length) = fun t => (fromR rs t).length + ((if r.ta = t then 1 else 0) + (if r.tb = t then 1 else 0)) from funext e]
    rw [sum_addN, sum_addN, sum_one hn h1, sum_one hn h2, ih, List.length_cons]
    omega
theorem from_none {ids : List Int} {rs : List Rl} (h : ∀ r ∈ rs, r.ta ∈ ids ∧ r.tb ∈ ids ∧ r.ta < r.tb) {t : Int} (ht : t ∉ ids) : fromR rs t = [] := by
  unfold fromR
  rw [List.filterMap_eq_nil_iff]
  intro r hr
  obtain ⟨h1, h2, -⟩ := h r hr
  unfold fromO
  rw [if_neg (fun e => ht (by rw [← e]; exact h1)), if_neg (fun e => ht (by rw [← e]; exact h2))]
theorem asc_nodup9 {l : List Int} (h : l.Pairwise fun a b => a < b) : l.Nodup := h.imp fun h1 e => by omega
theorem seenR_le {rs : List Rl} {ids : List Int} (h : ∀ t, (fromR rs t).length ≤ rs.length) (q : Nat) : seenL rs (ids.take q) ≤ q * rs.length := by
  have h1 : ∀ l : List Int, seenL rs l ≤ l.length * rs.length := by
    intro l
    induction l with
    | nil => simp [seenL]
    | cons x l ih =>
      have := h x
      unfold seenL at ih ⊢
      rw [List.map_cons, List.sum_cons, List.length_cons, Nat.succ_mul]
      omega
  exact Nat.le_trans (h1 _) (Nat.mul_le_mul_right _ (List.length_take_le _ _))
end Go.Proofs.YtaajpliifdlokaaGreatDoor
