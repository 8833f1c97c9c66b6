/- A map of numbers by texts, in words; slices.Backward at texts; contract of signature.places. Contract of signature.places: the places of texts in a map. -/
import Derived.RangeFuncBox
import Derived.RangeFuncLeaves
import Derived.Shelf.Abstract
import Derived.OwnWalkIn
import Derived.TacticsInMore
import Derived.LoopNIn
import Derived.LoopIn
import Derived.Maps.OwnIn
import Derived.Maps.OwnSet
import Derived.Test.YtabemneoobbnaaaGreatDoorKc
import Derived.Maps.OwnRows
import Derived.Test.YtabemneoobbnaaaGreatDoorNd
namespace Go.Proofs.YtabemneoobbnaaaGreatDoor
open Go.RowKit Go.Shelf

attribute [local go_sem] Oper.semAt_some

def keyU (s : ByteArray) : Lit := .string s.data.toList
theorem keyU_inj {s t : ByteArray} (h : keyU s = keyU t) : s = t := by
  obtain ⟨⟨s⟩⟩ := s
  obtain ⟨⟨t⟩⟩ := t
  simp [keyU] at h
  subst h
  rfl
theorem law_strU : Go.Maps.Keyed Tryz.prog 9 := Go.Maps.string_keyed Tryz.underlying9
abbrev Pl := { x : Nat × ByteArray // x.1 ≤ 1099511627776 ∧ x.2.size ≤ maxLen }
structure NumOk (D : DataW Unit) (F : ByteArray → Option Nat) : Prop where
  map : Go.Maps.IsMap D
  has : ∀ s, Go.Maps.has D (keyU s) = (F s).isSome
  look : ∀ s, D.atKey (keyU s) (.lit (.int .i64 0)) = .lit (.int .i64 (((F s).getD 0 : Nat) : Int))
theorem NumOk.start : NumOk (.map []) (fun _ => none) := ⟨Go.Maps.isMap_empty, fun s => by simp [Go.Maps.has], fun s => rfl⟩
def setF1 (F : ByteArray → Option Nat) (s : ByteArray) (i : Nat) : ByteArray → Option Nat := fun t => if t = s then some i else F t
theorem NumOk.put {D : DataW Unit} {F : ByteArray → Option Nat} (h : NumOk D F) (s : ByteArray) (i : Nat) : NumOk (D.put (keyU s) (.lit (.int .i64 (i : Int)))) (setF1 F s i) := by
  have hk : Go.WideAt.IsKeyLit (keyU s) := by unfold keyU Go.WideAt.IsKeyLit; trivial
  refine ⟨h.map.put _ _, fun t => ?_, fun t => ?_⟩
  · unfold setF1
    by_cases e : t = s
    · subst e
      rw [if_pos rfl, Go.Maps.has_put_same h.map hk]; rfl
    · rw [if_neg e, Go.Maps.has_put_other (fun e2 => e (keyU_inj e2))]
      exact h.has t
  · unfold setF1
    by_cases e : t = s
    · subst e
      rw [if_pos rfl, Go.Maps.atKey_put_same h.map hk]; rfl
    · rw [if_neg e, Go.Maps.atKey_put_other (fun e2 => e (keyU_inj e2))]
      exact h.look t
def MapI (w : World) (b n : Nat) (F : ByteArray → Option Nat) : Prop :=
  ∃ D : DataW Unit, w.ownsMap Tryz.prog 9 (plainElem (H := Unit) Tryz.prog 3) b n D ∧ NumOk D F
section
variable {w w' : World} {b n : Nat} {F : ByteArray → Option Nat}
theorem MapI.later (h : MapI w b n F) (hk : w'.heap[b]? = w.heap[b]?) : MapI w' b n F := by
  obtain ⟨D, ⟨es, clock, hb, Ft, hs, hD⟩, ho⟩ := h
  exact ⟨D, ⟨es, clock, hk.trans hb, Ft, hs, hD⟩, ho⟩
theorem MapI.lt (h : MapI w b n F) : b < w.heap.size := by
  obtain ⟨D, hown, ho⟩ := h
  exact hown.lt
theorem MapI.drewN (h : MapI w b n F) (k : Nat) : MapI (w.drewN k) b n F := h.later rfl
theorem MapI.congr {F' : ByteArray → Option Nat} (h : MapI w b n F) (e : ∀ s, F s = F' s) : MapI w b n F' := by
  have : F = F' := funext e
  subst this
  exact h
theorem key_str {s : ByteArray} (hs : s.size ≤ maxLen) : keyOf Tryz.prog 9 (.string s) = some (keyU s) := Go.WideMaps.keyOf_string_mk Tryz.underlying9 hs
set_option maxRecDepth 100000 in
theorem MapI.look (h : MapI w b n F) {s : ByteArray} (hs : s.size ≤ maxLen) : (Instr.lookup 89 (.map (some b)) (.string s) false).run Tryz.prog w = .ok (.int .i64 (((F s).getD 0 : Nat) : Int)) w := by
  obtain ⟨D, hown, ho⟩ := h
  obtain ⟨c, hrun, hat, hwc⟩ := hown.lookup_int law_strU Tryz.underlying89 Tryz.underlying3 (Tryz.zeroValue3 _) (key_str hs)
  rw [ho.look s] at hat
  injection hat with hat
  injection hat with _ hat
  rw [hrun, ← hat]
set_option maxRecDepth 100000 in
theorem MapI.look_ok (h : MapI w b n F) {s : ByteArray} (hs : s.size ≤ maxLen) : (Instr.lookup 89 (.map (some b)) (.string s) true).run Tryz.prog w = .ok (.tuple #[.int .i64 (((F s).getD 0 : Nat) : Int), .bool (F s).isSome]) w := by
  obtain ⟨D, hown, ho⟩ := h
  obtain ⟨v, ps, hrun, hv⟩ := hown.look_ok law_strU Tryz.underlying89 (Tryz.zeroValue3 _) (plainElem_int Tryz.underlying3 (by decide)) (key_str hs)
  obtain ⟨c, rfl, hc, hwc⟩ := plainElem_int_inv Tryz.underlying3 hv
  simp only [Prod.mk.injEq] at hc
  have hat := hc.1
  rw [ho.look s] at hat
  injection hat with hat
  injection hat with _ hat
  rw [hrun, ho.has s, ← hat]
theorem MapI.made (w : World) : MapI (w.alloc (.map #[] 0)) w.heap.size 0 (fun _ => none) := ⟨_, World.ownsMap_made w Tryz.prog 9 _, NumOk.start⟩
end

/-! ### slices.Backward -/
def plOne (xs : List ByteArray) (i : Nat) : List Pl := if h : i ≤ 1099511627776 ∧ (xs.getD i ⟨#[]⟩).size ≤ maxLen then [⟨(i, xs.getD i ⟨#[]⟩), h⟩] else []
def backU (xs : List ByteArray) (k : Nat) : List Pl := (List.range k).flatMap fun j => plOne xs (xs.length - 1 - j)
theorem backU_succ (xs : List ByteArray) (k : Nat) : backU xs (k + 1) = backU xs k ++ plOne xs (xs.length - 1 - k) := by simp [backU, List.range_succ]
theorem plOne_len (xs : List ByteArray) (i : Nat) : (plOne xs i).length ≤ 1 := by unfold plOne; split <;> simp
theorem backU_len (xs : List ByteArray) (k : Nat) : (backU xs k).length ≤ k := by
  induction k with
  | zero => simp [backU]
  | succ k ih => rw [backU_succ, List.length_append]; have := plOne_len xs (xs.length - 1 - k); omega
/-- the last number given to a text -/
def plF (pre : List Pl) : ByteArray → Option Nat := pre.foldl (fun F x => setF1 F x.1.2 x.1.1) (fun _ => none)
theorem plF_snoc (pre : List Pl) (x : Pl) : plF (pre ++ [x]) = setF1 (plF pre) x.1.2 x.1.1 := by simp [plF]
theorem find_range_succ (p : Nat → Bool) (m k : Nat) : (List.range' m (k + 1)).find? p = if p m = true then some m else (List.range' (m + 1) k).find? p := by
  rw [List.range'_succ, List.find?_cons]
  cases p m <;> simp
theorem plF_back {xs : List ByteArray} (hsz : ∀ c ∈ xs, c.size ≤ maxLen) (hln : xs.length ≤ 1099511627776) (s : ByteArray) : ∀ k, k ≤ xs.length → plF (backU xs k) s = (List.range' (xs.length - k) k).find? fun i => decide (xs.getD i ⟨#[]⟩ = s) := by
  intro k
  induction k with
  | zero => intro _; rfl
  | succ k ih =>
    intro hk
    have hm : xs.length - 1 - k < xs.length := by omega
    have hs := hsz _ (getD_mem hm ⟨#[]⟩)
    rw [backU_succ]
    unfold plOne
    rw [dif_pos ⟨by omega, hs⟩, plF_snoc, find_range_succ, show xs.length - (k + 1) = xs.length - 1 - k by omega, show xs.length - 1 - k + 1 = xs.length - k by omega, ← ih (by omega)]
    unfold setF1
    simp only [decide_eq_true_eq]
    by_cases e : xs.getD (xs.length - 1 - k) ⟨#[]⟩ = s
    · rw [if_pos e.symm, if_pos e]
    · rw [if_neg (fun h => e h.symm), if_neg e]
theorem plF_all {xs : List ByteArray} (hsz : ∀ c ∈ xs, c.size ≤ maxLen) (hln : xs.length ≤ 1099511627776) (s : ByteArray) : plF (backU xs xs.length) s = idxF xs s := by
  rw [plF_back hsz hln s xs.length (Nat.le_refl _), Nat.sub_self, ← List.range_eq_range']
  rfl

/-- all blocks below a bound but one stay -/
structure KeepB (n₀ m : Nat) (A B : World) : Prop where
  size : A.heap.size ≤ B.heap.size
  block : ∀ k, k < n₀ → k ≠ m → B.heap[k]? = A.heap[k]?
theorem KeepB.refl {n₀ m : Nat} {A : World} : KeepB n₀ m A A := ⟨Nat.le_refl _, fun _ _ _ => rfl⟩
theorem keepB_t {n₀ m : Nat} {A B C : World} (h : KeepB n₀ m A B) (k : KeepB n₀ m B C) : KeepB n₀ m A C := ⟨Nat.le_trans h.size k.size, fun i h1 h2 => (k.block i h1 h2).trans (h.block i h1 h2)⟩
theorem keepB_b {n₀ m : Nat} {w : World} (hn : n₀ ≤ w.heap.size) (W : World) (l : Nat) (o o' : Obj) (hl : w.heap.size ≤ l) (h : W.heap[l]? = some o) (h1 : o.isCells = false) (h2 : o.isWalk = false) : KeepB n₀ m W (W.putObj l o') := by
  have hb := belowK_b (n₀ := n₀) hn W l o o' hl h h1 h2
  exact ⟨hb.size, fun k hk _ => hb.block k hk⟩
theorem KeepB.cell {n₀ m : Nat} {A B : World} (h : KeepB n₀ m A B) {p : Addr} (h1 : p.block < n₀) (h2 : p.block ≠ m) : B.cell? p = A.cell? p := World.cell?_of_block (h.block _ h1 h2)

set_option maxRecDepth 100000 in
set_option maxHeartbeats 2000000 in
theorem back1_in (F : Fence) (n : Nat) (h7 : F.fn 99) (hro : F.round = none) (hn : 1 ≤ n) (l Bs n₀ m : Nat) (sv : Value) (xs : List ByteArray) (hsz : ∀ c ∈ xs, c.size ≤ maxLen) (hlen : xs.length ≤ 1099511627776) (J Jx : List Pl → World → Prop)
    (hY : ∀ pre x W, J pre W → pre.length < xs.length → YieldAt F (n - 1) Tryz.prog l #[.int .i64 (x.1.1 : Int), .string x.1.2] W fun e W' =>
      (e = .returned (.bool true) ∧ J (pre ++ [x]) W' ∧ KeepB n₀ m W W') ∨ (e = .returned (.bool false) ∧ Jx (pre ++ [x]) W'))
    (W : World) (hBs : W.cell? ⟨Bs, 0, none⟩ = some sv) (hB0 : Bs < n₀) (hBm : Bs ≠ m) (hmn : m ≤ n₀) (hI : RdS W m sv xs) (h0 : J [] W) :
    CallsIn F n Tryz.prog 99 #[.func (.yield l) #[] #[], .pointer (some ⟨Bs, 0, none⟩)] W fun e W' => (∃ v, e = .returned v) ∧
      ((∃ ys, ys = backU xs xs.length ∧ J ys W') ∨ (∃ pre, True ∧ Jx pre W')) := by
  obtain ⟨a, c, rfl, hc, hm, hx⟩ := hI
  unfold maxLen at hm
  have HLEN := hid (backU_len xs)
  have HSZ := hid (fun k (h : k < xs.length) => hsz _ (getD_mem h ⟨#[]⟩))
  have HUS := hid (backU_succ xs)
  clear hsz
  generalize hlen : xs.length = len at *
  refine callsIn_of_wp Tryz.func99 rfl h7 ?_ hro
  simp only [Tryz.ntmps99, List.size_toArray, List.length_cons, List.length_nil, Nat.reduceAdd, Nat.reduceSub, Array.replicate_succ, Array.replicate_zero, List.push_toArray, List.append_toArray, List.nil_append, List.cons_append]
  gi_wp2
  gi_loopw [3] (fun i wr => ∃ k : Nat, k ≤ len ∧ i = .int .i64 ((len : Int) - 1 - (k : Int)) ∧ J (backU xs k) wr ∧ KeepB n₀ m W wr) (fun i _ => (intOf i + 1).toNat)
  case atStart => exact ⟨0, Nat.zero_le _, by go_num, h0, KeepB.refl⟩
  case round =>
    obtain ⟨k, hk, rfl, hJs, hnx⟩ := hrel
    have hcb : wr.cell? ⟨Bs, 0, none⟩ = some (.slice a len c) := (hnx.cell (p := ⟨Bs, 0, none⟩) hB0 hBm).trans hBs
    by_cases hlt : k < len
    · obtain ⟨q, hq⟩ : ∃ q : Nat, q + k + 1 = len := ⟨len - 1 - k, by omega⟩
      have hqi : (len : Int) - 1 - (k : Int) = (q : Int) := by omega
      rw [hqi]
      obtain ⟨b, off, rfl, hb, hcs⟩ := hx (by omega)
      have hb' : b < m := hb
      have hg : strF xs q = .string (xs.getD q ⟨#[]⟩) := by simp [strF, List.getD]
      have hcx0 : wr.cell? ⟨b, off + q, none⟩ = some (.string (xs.getD q ⟨#[]⟩)) := (hnx.cell (p := ⟨b, off + q, none⟩) (by show b < n₀; omega) (by show b ≠ m; omega)).trans (by rw [hcs q (by omega), hg])
      have hU := HUS.out k
      rw [show len - 1 - k = q by omega] at hU
      unfold plOne at hU
      rw [dif_pos ⟨by omega, HSZ.out q (by omega)⟩] at hU
      have hul := HLEN.out k
      clear hg
      obtain ⟨X, hX, hU, hcx⟩ : ∃ X : Pl, X.1.1 = q ∧ backU xs (k + 1) = backU xs k ++ [X] ∧ wr.cell? ⟨b, off + q, none⟩ = some (.string X.1.2) := ⟨⟨(q, xs.getD q ⟨#[]⟩), by show q ≤ 1099511627776; omega, HSZ.out q (by omega)⟩, rfl, hU, hcx0⟩
      have HU := hid hU
      clear hU hcx0 hcs
      obtain ⟨fn, tmps, assign, body, hy, hR⟩ := hY (backU xs k) X wr hJs (by omega)
      obtain ⟨⟨xi, x⟩, hsx⟩ := X
      obtain rfl : q = xi := hX.symm
      have hw : wrap64 ((q : Int) - 1) = (q : Int) - 1 := by unfold wrap64; omega
      have HW := hid hw
      clear hw
      gi_wp2
      refine hR.mono ?_
      rintro e W3 (⟨rfl, hJ3, hk3⟩ | ⟨rfl, hJx3⟩)
      · gi_wp2
        go_roundw
        case rel => exact ⟨k + 1, by omega, by congr 1; omega, by rw [HU.out]; exact hJ3, keepB_t hnx hk3⟩
        case measure => simp [intOf]
      · gi_wp2
        refine bodyPost_ret (results_none rfl _ _ _) rfl ?_
        exact ⟨⟨_, rfl⟩, .inr ⟨_, trivial, hJx3⟩⟩
    · obtain rfl : k = len := by omega
      rw [show (k : Int) - 1 - (k : Int) = -1 by omega]
      gi_wp2
      go_end0
      exact ⟨⟨_, rfl⟩, .inl ⟨_, rfl, hJs⟩⟩

theorem back_stops (F : Fence) (n : Nat) (h7 : F.fn 99) (hro : F.round = none) (hn : 1 ≤ n) (Bs n₀ m : Nat) (sv : Value) (xs : List ByteArray) (hsz : ∀ c ∈ xs, c.size ≤ maxLen) (hlen : xs.length ≤ 1099511627776) (w : World) (hn₀ : n₀ ≤ w.heap.size)
    (hc : w.cell? ⟨Bs, 0, none⟩ = some sv) (hB0 : Bs < n₀) (hBm : Bs ≠ m) (hmn : m ≤ n₀) (hI : RdS w m sv xs) :
    SeqStopsK F n Tryz.prog 99 #[.pointer (some ⟨Bs, 0, none⟩)] (fun x : Pl => #[Value.int .i64 (x.1.1 : Int), Value.string x.1.2]) (KeepB n₀ m) (fun ys => ys = backU xs xs.length) (fun _ => True) xs.length w := fun l J Jx W hW _ _ hY h0 =>
  back1_in F n h7 hro hn l Bs n₀ m sv xs hsz hlen J Jx hY W ((hW.cell (p := ⟨Bs, 0, none⟩) (Nat.lt_of_lt_of_le hB0 hn₀)).trans hc) hB0 hBm hmn (by
    obtain ⟨a, c, e, h1, h2, h3⟩ := hI
    refine ⟨a, c, e, h1, h2, fun hp => ?_⟩
    obtain ⟨b, o, e1, hb, hcell⟩ := h3 hp
    exact ⟨b, o, e1, hb, fun i hi => (hW.cell (p := ⟨b, o + i, none⟩) (by show b < w.heap.size; omega)).trans (hcell i hi)⟩) h0

end Go.Proofs.YtabemneoobbnaaaGreatDoor

namespace Go.Proofs.YtabemneoobbnaaaGreatDoor
open Go.RowKit Go.Shelf

attribute [local go_sem] Oper.semAt_some

set_option maxHeartbeats 1000000 in
theorem back_in (F : Fence) (n : Nat) (h5 : F.fn 78) (hro : F.round = none) (a : Option Addr) (len c : Nat) (w : World) :
    CallsIn F n Tryz.prog 78 #[.slice a len c] w fun e w' => e = .returned (.func (.func 99) #[] #[.pointer (some ⟨w.heap.size, 0, none⟩)]) ∧ w' = w.alloc (.cells #[.slice a len c] 26) := by
  refine callsIn_of_wp Tryz.func78 rfl h5 ?_ hro
  simp only [Tryz.ntmps78, List.size_toArray, List.length_cons, List.length_nil, Nat.reduceAdd, Nat.reduceSub, Array.replicate_succ, Array.replicate_zero, List.push_toArray, List.append_toArray, List.nil_append, List.cons_append]
  gi_wp2
  go_ret
  exact ⟨rfl, rfl⟩

theorem plI_wf {i : Nat} (h : i ≤ 1099511627776) : (Lit.int .i64 (i : Int)).wf = true := by
  have e : (i : Int) = wrap64 (i : Int) := by unfold wrap64; omega
  rw [e]
  exact wrap64_wf _

set_option maxRecDepth 100000 in
set_option maxHeartbeats 2000000 in
theorem places_in (F : Fence) (n : Nat) (h3 : F.fn 41) (hb0 : F.fn 78) (h5 : F.fn 99) (hro : F.round = none) (hn : 3 ≤ n) (a : Option Addr) (c B : Nat) (xs : List ByteArray) (hsz : ∀ s ∈ xs, s.size ≤ maxLen) (hlen : xs.length ≤ 1099511627776) (w : World) (hB : B ≤ w.heap.size)
    (hI : RdS w B (.slice a xs.length c) xs) :
    CallsIn F n Tryz.prog 41 #[.slice a xs.length c] w fun e W' => e = .returned (.map (some w.heap.size)) ∧ MapI W' w.heap.size xs.length (idxF xs) ∧ Below w.heap.size w W' := by
  have h1 : 1 ≤ n := by omega
  have hmm := @run_makeMap Tryz.prog
  have HALL := hid (plF_all hsz hlen)
  refine callsIn_of_wp_marks Tryz.func41 rfl h3 ?_ hro
  simp only [Tryz.ntmps41, List.size_toArray, List.length_cons, List.length_nil, Nat.reduceAdd, Nat.reduceSub, Array.replicate_succ, Array.replicate_zero, List.push_toArray, List.append_toArray, List.nil_append, List.cons_append]
  gi_wp2_with (gi_at_call 78; refine (back_in F (n - 1) hb0 hro a xs.length c _).mono ?_; rintro e w' ⟨rfl, rfl⟩)
  have hm0 := World.ownsMap_made w Tryz.prog 9 (plainElem (H := Unit) Tryz.prog 3)
  have bS := Boxed.new (w.alloc (.map #[] 0)) 89 (.map (some w.heap.size))
  simp only [World.size_alloc] at bS
  have bT := Boxed.new ((w.alloc (.map #[] 0)).alloc (.cells #[.map (some w.heap.size)] 89)) 26 (.slice a xs.length c)
  simp only [World.size_alloc] at bT
  have hB0 : Below w.heap.size w (((w.alloc (.map #[] 0)).alloc (.cells #[.map (some w.heap.size)] 89)).alloc (.cells #[.slice a xs.length c] 26)) := (((Below.refl _ w).alloc (Nat.le_refl _) _).alloc (by simp) _).alloc (by simp; omega) _
  refine wpIn_rangeFunc_ownG hro h1 (gf := 99) (lb := #[.pointer (some ⟨w.heap.size + 1 + 1, 0, none⟩)]) rfl h5 (enters_of Tryz.func99 (by kernel_rfl) rfl)
    (back_stops F (n - 1) h5 hro (by omega) (w.heap.size + 1 + 1) (w.heap.size + 1 + 1 + 1) w.heap.size (.slice a xs.length c) xs hsz hlen _ (by simp) bT.cell (by omega) (by omega) (by omega) (Rd.more (Rd.below hI hB0 hB) hB)) keepB_t (keepB_b (by simp)) (Below.refl _ _) (fun _ => rfl)
    (fun pre W => (W.cell? ⟨w.heap.size + 1, 0, none⟩ = some (.map (some w.heap.size)) ∧ w.heap.size + 1 + 1 + 1 ≤ W.heap.size ∧ ∃ D : DataW Unit, W.ownsMap Tryz.prog 9 (plainElem (H := Unit) Tryz.prog 3) w.heap.size pre.length D ∧ NumOk D (plF pre)) ∧ Below w.heap.size w W)
    (fun _ _ _ => False)
    (OwnFrom.and (fun s A B row hs hg hr => ⟨cell_kept hs.1 hg (fun r e => (hr r e).2), Nat.le_trans hs.2.1 hg.size, by obtain ⟨D, h1, h2⟩ := hs.2.2; exact ⟨D, h1.kept hg (fun e => by have := (hr _ e.symm).1; simp at this; omega), h2⟩⟩) (ownFrom_below (Nat.le_refl _) (by simp; omega)))
    (fun _ _ _ _ _ hs _ _ => hs)
    ⟨⟨(bS.alloc _).cell, by simp, _, (hm0.alloc _).alloc _, NumOk.start⟩, hB0⟩
    (fun x => { tmps := #[.slice a xs.length c, undef, .map none, .pointer (some ⟨w.heap.size + 1, 0, none⟩), .int .i64 (x.1.1 : Int), .string x.1.2, .map (some w.heap.size), .slice a xs.length c, .func (.func 99) #[] #[.pointer (some ⟨w.heap.size + 1 + 1, 0, none⟩)], .int .i64 (x.1.1 : Int), .string x.1.2, undef, undef, undef, undef], defers := [] }) ?assign ?body ?done ?stop
  case assign =>
    intro l x W K hK
    gi_wp2
    exact hK
  case body =>
    rintro l pre x W ⟨⟨hc, hwz, D, hown, hno⟩, hB⟩ hlt
    have hkey : keyOf Tryz.prog 9 (.string x.1.2) = some (keyU x.1.2) := key_str x.2.2
    gi_wp2_with (gi_at_mapUpdate; refine wpListIn_mapUpdate_own _ rfl _ _ _ 89 rfl 9 3 law_strU Tryz.underlying89 _ w.heap.size pre.length _ rfl hown (by unfold maxLen; omega) _ _ _ rfl rfl hkey _ [] (plainElem_int Tryz.underlying3 (plI_wf x.2.1)) ?_; intro w1 hown1 hgrow1)
    obtain ⟨es, ck, hh, _⟩ := hown
    exact ⟨KeepsFrom.of_grownBy hgrow1 (fun j e => by cases e; simp; omega), ⟨hgrow1.size, fun k _ hk => hgrow1.block k (by omega) (fun e => hk (by injection e))⟩,
      ⟨cell_kept hc hgrow1 (fun r e => by cases e; exact ⟨_, hh, rfl⟩), Nat.le_trans hwz hgrow1.size, _, by rw [List.length_append]; exact hown1, by rw [plF_snoc]; exact hno.put _ _⟩, hB.grown hgrow1 hB.size (fun k e => by cases e; exact Nat.le_refl _)⟩
  case done =>
    rintro D ys W hD rfl ⟨⟨hc, hwz, D', hown, hno⟩, hB⟩ hK
    gi_wp2
    refine ⟨by simp, .inl ⟨_, _, rfl, run_takeDeferred hK, ?_⟩⟩
    refine ⟨_, results_tmp rfl _ _ _, rfl, ?_, hB.trans (belowK_b (w := w) (Nat.le_refl _) W D _ _ (by simp at hD; omega) hK rfl rfl)⟩
    have ho2 := fun o' => hown.kept (grownBy_putObj' W D o') (fun e => by cases e; simp at hD; omega)
    exact ⟨_, (ho2 _).mono (backU_len xs _), by rw [show idxF xs = plF (backU xs xs.length) from funext fun s => (HALL.out s).symm]; exact hno⟩
  case stop =>
    rintro D c pre W _ _ h _
    exact h.elim

end Go.Proofs.YtabemneoobbnaaaGreatDoor
