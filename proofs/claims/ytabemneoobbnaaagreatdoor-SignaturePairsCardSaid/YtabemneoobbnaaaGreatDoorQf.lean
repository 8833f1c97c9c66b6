/- Contracts of profile.texts and tally: the texts of a column counted in a map. (The walk of tally is a worked proof of the kit, turned.) Contracts of profile.tally and profile.Values. -/
import Derived.RangeFuncBox
import Derived.RangeFuncLeaves
import Derived.Shelf.Abstract
import Derived.OwnWalkIn
import Derived.TacticsInMore
import Derived.LoopNIn
import Derived.LoopIn
import Derived.Maps.OwnIn
import Derived.Test.YtabemneoobbnaaaGreatDoorQd
import Derived.Test.YtabemneoobbnaaaGreatDoorOz
import Derived.Test.YtabemneoobbnaaaGreatDoorNf
import Derived.Test.YtabemneoobbnaaaGreatDoorShK
namespace Go.Proofs.YtabemneoobbnaaaGreatDoor
open Go.RowKit Go.Shelf

attribute [local go_sem] Oper.semAt_some

abbrev Txt := { s : ByteArray // s.size ≤ maxLen }
def cellTxt (c : Cl) : List Txt := if c.null = true then [] else if h : c.text.size ≤ maxLen then [⟨c.text, h⟩] else []
def textsT (cs : List Cl) : List Txt := cs.flatMap cellTxt
def uptoT (cs : List Cl) (k : Nat) : List Txt := (List.range k).flatMap fun j => cellTxt (cs.getD j Cl.z)
theorem uptoT_succ (cs : List Cl) (k : Nat) : uptoT cs (k + 1) = uptoT cs k ++ cellTxt (cs.getD k Cl.z) := by simp [uptoT, List.range_succ]
theorem cellTxt_len (c : Cl) : (cellTxt c).length ≤ 1 := by
  unfold cellTxt
  split
  · simp
  · split <;> simp
theorem uptoT_len (cs : List Cl) (k : Nat) : (uptoT cs k).length ≤ k := by
  induction k with
  | zero => simp [uptoT]
  | succ k ih => rw [uptoT_succ, List.length_append]; have := cellTxt_len (cs.getD k Cl.z); omega
theorem uptoT_all (cs : List Cl) : uptoT cs cs.length = textsT cs := by
  unfold uptoT textsT
  have h : (List.range cs.length).map (fun j => cs.getD j Cl.z) = cs := by
    apply List.ext_getElem
    · simp
    · intro i h1 h2
      simp [List.getD, h2]
  rw [← List.flatMap_map, h]
theorem textsT_len (cs : List Cl) : (textsT cs).length ≤ cs.length := by rw [← uptoT_all]; exact uptoT_len _ _
theorem textsT_texts {cs : List Cl} (h : ∀ c ∈ cs, c.text.size ≤ maxLen) : (textsT cs).map (·.1) = textsL cs := by
  induction cs with
  | nil => rfl
  | cons c cs ih =>
    have ih' := ih fun x hx => h x (by simp [hx])
    unfold textsT textsL at *
    rw [List.flatMap_cons, List.map_append, ih', List.filter_cons]
    have hc := h c (by simp)
    unfold cellTxt
    cases hn : c.null <;> simp [hc]

set_option maxRecDepth 100000 in
set_option maxHeartbeats 2000000 in
theorem texts1_in (F : Fence) (n : Nat) (h7 : F.fn 114) (hro : F.round = none) (hn : 1 ≤ n) (l Bs n₀ : Nat) (sv : Value) (cs : List Cl) (hsz : ∀ c ∈ cs, c.text.size ≤ maxLen) (J Jx : List Txt → World → Prop) (W : World) (hJ : AbidesFrom W.heap.size J)
    (hY : ∀ pre x W, J pre W → pre.length < cs.length → YieldAt F (n - 1) Tryz.prog l #[.string x.1] W fun e W' =>
      (e = .returned (.bool true) ∧ J (pre ++ [x]) W' ∧ Below n₀ W W') ∨ (e = .returned (.bool false) ∧ Jx (pre ++ [x]) W'))
    (hn₀ : n₀ ≤ W.heap.size) (hBs : W.cell? ⟨Bs, 1, none⟩ = some sv) (hI : RdCl W (· < n₀) sv cs) (h0 : J [] W) :
    CallsIn F n Tryz.prog 114 #[.func (.yield l) #[] #[], .pointer (some ⟨Bs, 0, none⟩)] W fun e W' => (∃ v, e = .returned v) ∧
      ((∃ ys, ys = textsT cs ∧ J ys W') ∨ (∃ pre, True ∧ Jx pre W')) := by
  obtain ⟨a, c, rfl, hc, hm, hx⟩ := hI
  unfold maxLen at hm
  have HALL := hid (uptoT_all cs)
  have HLEN := hid (uptoT_len cs)
  have HSZ := hid (fun k (h : k < cs.length) => hsz _ (getD_mem h Cl.z))
  clear hsz
  generalize hlen : cs.length = len at *
  refine callsIn_of_wp Tryz.func114 rfl h7 ?_ hro
  simp only [Tryz.ntmps114, List.size_toArray, List.length_cons, List.length_nil, Nat.reduceAdd, Nat.reduceSub, Array.replicate_succ, Array.replicate_zero, List.push_toArray, List.append_toArray, List.nil_append, List.cons_append]
  gi_wp2
  gi_loopw [8] (fun i wr => ∃ k : Nat, k ≤ len ∧ i = .int .i64 k ∧ J (uptoT cs k) wr ∧ Below n₀ W wr) (fun i _ => len - (intOf i).toNat)
  case atStart => exact ⟨0, Nat.zero_le _, rfl, h0, Below.refl _ _⟩
  case round =>
    obtain ⟨k, hk, rfl, hJs, hnx⟩ := hrel
    by_cases hlt : k < len
    · obtain ⟨b, off, rfl, hb, hcs⟩ := hx (by omega)
      have hb' : b < n₀ := hb
      have c0 : wr.cell? ⟨b, off + k * 2, none⟩ = some (.bool (cs.getD k Cl.z).null) := (hnx.cell (p := ⟨b, off + k * 2, none⟩) hb').trans (hcs k hlt 0 (by omega))
      have c1 : wr.cell? ⟨b, off + k * 2 + 1, none⟩ = some (.string (cs.getD k Cl.z).text) := (hnx.cell (p := ⟨b, off + k * 2 + 1, none⟩) hb').trans (hcs k hlt 1 (by omega))
      have HU := hid (uptoT_succ cs k)
      have hul := HLEN.out k
      have hsk := HSZ.out k hlt
      generalize cs.getD k Cl.z = x at *
      obtain ⟨xn, xt⟩ := x
      simp only at c0 c1 hsk
      have hw : wrap64 ((k : Int) + 1) = (k : Int) + 1 := by unfold wrap64; omega
      have HW := hid hw
      clear hw
      have hJa : J (uptoT cs k) (wr.alloc (.cells #[.bool xn, .string xt] 81)) := hJ _ wr _ none hJs (World.grownBy_alloc wr _ none) (by simp)
      have hbA : Below n₀ W (wr.alloc (.cells #[.bool xn, .string xt] 81)) := hnx.alloc (by have := hnx.size; omega) _
      cases xn
      · obtain ⟨fn, tmps, assign, body, hy, hR⟩ := hY (uptoT cs k) ⟨xt, hsk⟩ (wr.alloc (.cells #[.bool false, .string xt] 81)) hJa (by omega)
        have HE : Hid (uptoT cs (k + 1) = uptoT cs k ++ [⟨xt, hsk⟩]) := hid (by rw [HU.out]; unfold cellTxt; simp [hsk])
        gi_wp2
        refine hR.mono ?_
        rintro e W3 (⟨rfl, hJ3, hk3⟩ | ⟨rfl, hJx3⟩)
        · gi_wp2
          go_roundw
          case rel => exact ⟨k + 1, by omega, by go_num, by rw [HE.out]; exact hJ3, hbA.trans hk3⟩
          case measure => simp [intOf, HW.out]; omega
        · gi_wp2
          refine bodyPost_ret (results_none rfl _ _ _) rfl ?_
          exact ⟨⟨_, rfl⟩, .inr ⟨_, trivial, hJx3⟩⟩
      · have HE : Hid (uptoT cs (k + 1) = uptoT cs k) := hid (by rw [HU.out]; unfold cellTxt; simp)
        gi_wp2
        refine ⟨fun _ h => (by cases h), ?_⟩
        gi_wp2
        go_roundw
        case rel => exact ⟨k + 1, by omega, by go_num, by rw [HE.out]; exact hJa, hbA⟩
        case measure => simp [intOf, HW.out]; omega
    · obtain rfl : k = len := by omega
      gi_wp2
      go_end0
      exact ⟨⟨_, rfl⟩, .inl ⟨_, HALL.out, hJs⟩⟩

end Go.Proofs.YtabemneoobbnaaaGreatDoor

namespace Go.Proofs.YtabemneoobbnaaaGreatDoor
open Go.RowKit Go.Shelf

attribute [local go_sem] Oper.semAt_some

theorem texts_stops (F : Fence) (n : Nat) (h7 : F.fn 114) (hro : F.round = none) (hn : 1 ≤ n) (Bs n₀ : Nat) (sv : Value) (cs : List Cl) (hsz : ∀ c ∈ cs, c.text.size ≤ maxLen) (w : World) (hBs : Bs < w.heap.size) (hn₀ : n₀ ≤ w.heap.size)
    (hc : w.cell? ⟨Bs, 1, none⟩ = some sv) (hI : RdCl w (· < n₀) sv cs) :
    SeqStopsK F n Tryz.prog 114 #[.pointer (some ⟨Bs, 0, none⟩)] (fun x : Txt => #[Value.string x.1]) (Below n₀) (fun ys => ys = textsT cs) (fun _ => True) cs.length w := fun l J Jx W hW hJ _ hY h0 =>
  texts1_in F n h7 hro hn l Bs n₀ sv cs hsz J Jx W hJ hY (Nat.le_trans hn₀ hW.size) ((hW.cell (p := ⟨Bs, 1, none⟩) hBs).trans hc) (hI.keep fun p hp => hW.cell (p := p) (Nat.lt_of_lt_of_le hp hn₀)) h0

def numD : DataW Unit → Int
  | .lit (.int _ c) => c
  | _ => 0
/-- one round: the count at s, one more -/
def bumpD (D : DataW Unit) (s : ByteArray) : DataW Unit := D.put (keyL s) (.lit (.int .i64 (wrap64 (numD (D.atKey (keyL s) (.lit (.int .i64 0))) + 1))))
def tallyD (xs : List Txt) : DataW Unit := xs.foldl (fun D x => bumpD D x.1) (.map [])
theorem tallyD_snoc (pre : List Txt) (x : Txt) : tallyD (pre ++ [x]) = bumpD (tallyD pre) x.1 := by simp [tallyD]
theorem foldD_map (xs : List Txt) : ∀ D : DataW Unit, Go.Maps.IsMap D → Go.Maps.IsMap (xs.foldl (fun D x => bumpD D x.1) D) := by
  induction xs with
  | nil => intro D h; exact h
  | cons x xs ih => intro D h; exact ih _ (h.put _ _)
theorem foldD_has (xs : List Txt) (s : ByteArray) : ∀ D : DataW Unit, Go.Maps.IsMap D → (Go.Maps.has (xs.foldl (fun D x => bumpD D x.1) D) (keyL s) = true ↔ Go.Maps.has D (keyL s) = true ∨ s ∈ xs.map (·.1)) := by
  induction xs with
  | nil => intro D h; simp
  | cons x xs ih =>
    intro D h
    rw [List.foldl_cons, ih (bumpD D x.1) (h.put _ _), List.map_cons, List.mem_cons]
    have hk : Go.WideAt.IsKeyLit (keyL s) := by unfold keyL Go.WideAt.IsKeyLit; trivial
    by_cases e : s = x.1
    · subst e
      unfold bumpD
      rw [Go.Maps.has_put_same h hk]
      simp
    · unfold bumpD
      rw [Go.Maps.has_put_other (fun e2 => e (keyL_inj e2))]
      simp [e]
theorem tallyD_has (xs : List Txt) (s : ByteArray) : Go.Maps.has (tallyD xs) (keyL s) = true ↔ s ∈ xs.map (·.1) := by
  unfold tallyD
  rw [foldD_has xs s _ Go.Maps.isMap_empty]
  simp [Go.Maps.has]

set_option maxRecDepth 100000 in
set_option maxHeartbeats 2000000 in
theorem tally_in (F : Fence) (n : Nat) (h3 : F.fn 87) (h5 : F.fn 114) (hro : F.round = none) (hn : 3 ≤ n) (Bs : Nat) (sv : Value) (cs : List Cl) (hsz : ∀ c ∈ cs, c.text.size ≤ maxLen) (hlen : cs.length ≤ 1048576) (w : World) (hBs : Bs < w.heap.size)
    (hcell : w.cell? ⟨Bs, 1, none⟩ = some sv) (hI : RdCl w (· < w.heap.size) sv cs) :
    CallsIn F n Tryz.prog 87 #[.func (.func 114) #[] #[.pointer (some ⟨Bs, 0, none⟩)]] w fun e W' => e = .returned (.map (some w.heap.size)) ∧ W'.ownsMap Tryz.prog 9 (plainElem (H := Unit) Tryz.prog 3) w.heap.size (textsT cs).length (tallyD (textsT cs)) ∧ Below w.heap.size w W' := by
  have h1 : 1 ≤ n := by omega
  have hmm := @run_makeMap Tryz.prog
  refine callsIn_of_wp_marks Tryz.func87 rfl h3 ?_ hro
  simp only [Tryz.ntmps87, List.size_toArray, List.length_cons, List.length_nil, Nat.reduceAdd, Nat.reduceSub, Array.replicate_succ, Array.replicate_zero, List.push_toArray, List.append_toArray, List.nil_append, List.cons_append]
  gi_wp2
  have hm0 := World.ownsMap_made w Tryz.prog 9 (plainElem (H := Unit) Tryz.prog 3)
  have bS := Boxed.new (w.alloc (.map #[] 0)) 89 (.map (some w.heap.size))
  simp only [World.size_alloc] at bS
  have hB0 : Below w.heap.size w ((w.alloc (.map #[] 0)).alloc (.cells #[.map (some w.heap.size)] 89)) := ((Below.refl _ w).alloc (Nat.le_refl _) _).alloc (by simp) _
  refine wpIn_rangeFunc_ownG hro h1 (gf := 114) (lb := #[.pointer (some ⟨Bs, 0, none⟩)]) rfl h5 (enters_of Tryz.func114 (by kernel_rfl) rfl)
    (texts_stops F (n - 1) h5 hro (by omega) Bs w.heap.size sv cs hsz _ (by simp; omega) (by simp; omega) ((hB0.cell (p := ⟨Bs, 1, none⟩) hBs).trans hcell) (hI.keep fun p hp => hB0.cell (p := p) hp)) belowK_t (belowK_b (by simp; omega)) (Below.refl _ _) (fun _ => rfl)
    (fun pre W => (W.cell? ⟨w.heap.size + 1, 0, none⟩ = some (.map (some w.heap.size)) ∧ W.ownsMap Tryz.prog 9 (plainElem (H := Unit) Tryz.prog 3) w.heap.size pre.length (tallyD pre)) ∧ Below w.heap.size w W)
    (fun _ _ _ => False)
    (OwnFrom.and (fun s A B row hs hg hr => ⟨cell_kept hs.1 hg (fun r e => (hr r e).2), hs.2.kept hg (fun e => by have := (hr _ e.symm).1; simp at this; omega)⟩) (ownFrom_below (Nat.le_refl _) (by simp; omega)))
    (fun _ _ _ _ _ hs _ _ => hs)
    ⟨⟨bS.cell, hm0.alloc _⟩, hB0⟩
    (fun x => { tmps := #[.func (.func 114) #[] #[.pointer (some ⟨Bs, 0, none⟩)], undef, .map none, .pointer (some ⟨w.heap.size + 1, 0, none⟩), .string x.1, .map (some w.heap.size), .func (.func 114) #[] #[.pointer (some ⟨Bs, 0, none⟩)], .string x.1, undef, undef, undef, undef, undef], defers := [] }) ?assign ?body ?done ?stop
  case assign =>
    intro l x W K hK
    gi_wp2
    exact hK
  case body =>
    rintro l pre x W ⟨⟨hc, hown⟩, hB⟩ hlt
    have hkey : keyOf Tryz.prog 9 (.string x.1) = some (keyL x.1) := Go.WideMaps.keyOf_string_mk Tryz.underlying9 x.2
    gi_wp2_with (first
      | (gi_at_lookup; refine wpListIn_lookup_own_int _ rfl _ _ 89 rfl 9 3 .i64 law_str Tryz.underlying89 Tryz.underlying3 (Tryz.zeroValue3 _) w.heap.size pre.length _ rfl hown _ _ rfl hkey ?_; intro c hat hwc)
      | (gi_at_mapUpdate; refine wpListIn_mapUpdate_own _ rfl _ _ _ 89 rfl 9 3 law_str Tryz.underlying89 _ w.heap.size pre.length _ rfl hown (by unfold maxLen; omega) _ _ _ rfl rfl hkey _ [] (plainElem_int Tryz.underlying3 (wrap64_wf _)) ?_; intro w1 hown1 hgrow1))
    obtain ⟨es, ck, hh, _⟩ := hown
    exact ⟨KeepsFrom.of_grownBy hgrow1 (fun j e => by cases e; simp; omega), (Below.refl _ W).grown hgrow1 hB.size (fun k e => by cases e; exact Nat.le_refl _),
      ⟨cell_kept hc hgrow1 (fun r e => by cases e; exact ⟨_, hh, rfl⟩), by rw [tallyD_snoc, List.length_append, bumpD, hat]; exact hown1⟩, hB.grown hgrow1 hB.size (fun k e => by cases e; exact Nat.le_refl _)⟩
  case done =>
    rintro D ys W hD rfl ⟨⟨hc, hown⟩, hB⟩ hK
    gi_wp2
    refine ⟨by simp, .inl ⟨_, _, rfl, run_takeDeferred hK, ?_⟩⟩
    exact ⟨_, results_tmp rfl _ _ _, rfl, hown.kept (grownBy_putObj' _ D _) (fun e => by cases e; simp at hD; omega), hB.trans (belowK_b (w := w) (Nat.le_refl _) W D _ _ (by simp at hD; omega) hK rfl rfl)⟩
  case stop =>
    rintro D c pre W _ _ h _
    exact h.elim

/-- the keys of a map, in order -/
theorem keys_sorted' {D : DataW Unit} {w : World} {R : Value → Option (DataW Unit × List MemPlace)} {b nn : Nat} (hown : w.ownsMap Tryz.prog 9 R b nn D) (X : List ByteArray) (hX : ∀ s, Go.Maps.has D (keyL s) = true ↔ s ∈ X) {ss : List (List UInt8)} (hp : ss.Perm (strKeys D)) :
    ss.mergeSort (fun x y => decide (x ≤ y)) = (setOfL X).map listOf := by
  obtain ⟨es, hD, hpw, -⟩ := hown.entries law_str
  obtain ⟨es', hD', hko⟩ := hown.keysOf
  obtain rfl : es = es' := by rw [hD] at hD'; simpa using hD'
  subst hD
  have hasc := setOfL_asc X
  have hpair : ((setOfL X).map listOf).Pairwise (fun x y => x < y) := by
    refine List.pairwise_map.2 (hasc.imp fun {a b} h => ?_)
    rw [sl_lt, ByteArray.toList_eq, ByteArray.toList_eq] at h
    simpa [listOf] using h
  have hperm : ((setOfL X).map listOf).Perm (strKeys (.map es)) := perm_strKeys hpw (fun p hp => by obtain ⟨v, hv⟩ := hko p hp; obtain ⟨x, _, hx, _⟩ := Maps.keyOf_str Tryz.underlying9 hv; exact ⟨x, hx⟩)
    (hpair.imp fun h => fun e => by subst e; exact List.lt_irrefl _ h) (fun x => by
      have h1 := hX ⟨⟨x⟩⟩
      have h2 : keyL ⟨⟨x⟩⟩ = .string x := rfl
      rw [h2] at h1
      rw [h1, ← setOfL_mem_iff, List.mem_map]
      constructor
      · rintro ⟨a, ha, rfl⟩
        exact ha
      · intro h
        exact ⟨⟨⟨x⟩⟩, h, rfl⟩)
  have h3 := mergeSort_of_perm (hp.trans hperm.symm)
  refine h3.trans (List.mergeSort_of_pairwise (hpair.imp fun h => by simp only [leB, decide_eq_true_eq]; exact List.le_of_lt h))

theorem lib_KeysI (mb : Option Nat) (W : World) : Calls Tryz.prog 86 #[.map mb] W fun e w' => e = .returned (.func (.func 113) #[] #[.pointer (some ⟨W.heap.size, 0, none⟩)]) ∧ w' = W.alloc (.cells #[.map mb] 89) :=
  callsIn_wide.1 (AnyZ.keys_in Tryz.keysI Fence.wide 5 trivial rfl mb W)

set_option maxHeartbeats 1000000 in
theorem lib_SortedI (b nn : Nat) (D0 : DataW Unit) (R : Value → Option (DataW Unit × List MemPlace)) (w : World) (hown : w.ownsMap Tryz.prog 9 R b nn D0) (hmax : Go.Maps.size D0 ≤ 268435456) :
    Calls Tryz.prog 85 #[.func (.func 113) #[] #[.pointer (some ⟨w.heap.size, 0, none⟩)]] (w.alloc (.cells #[.map (some b)] 89)) fun e w' => ∃ (v : Value) (ss : List (List UInt8)), e = .returned v ∧ ss.Perm (strKeys D0) ∧
      w'.ownsRow (w.alloc (.cells #[.map (some b)] 89)).heap.size 9 1 v ss.length ((ss.mergeSort (fun x y => decide (x ≤ y))).map encStr) ∧ Below (w.alloc (.cells #[.map (some b)] 89)).heap.size (w.alloc (.cells #[.map (some b)] 89)) w' := by
  have hbl := hown.lt
  have hseq : SeqGives Fence.wide 2 Tryz.prog 113 #[.pointer (some ⟨w.heap.size, 0, none⟩)] encStr (fun ss => ss.Perm (strKeys D0)) (Go.Maps.size D0) (w.alloc (.cells #[.map (some b)] 89)) :=
    AnyZ.keys_gives (ρ := Tryz.keysI_ren) { Tryz.keysI with } Fence.wide _ trivial rfl (by omega) w.heap.size b nn D0 _ (by simp) (by simp) (by
      obtain ⟨es, clock, hb, Ft, hs, hD⟩ := hown
      exact ⟨es, clock, (Below.heap_alloc _ _ b hbl).trans hb, Ft, hs, hD⟩)
  refine (callsIn_wide.1 (AnyZ.sorted_in Tryz.sortedM Fence.wide 5 trivial trivial trivial trivial rfl (by omega) (sortsM _) (enters_of Tryz.func112 (by kernel_rfl) rfl) 113 #[.pointer (some ⟨w.heap.size, 0, none⟩)] trivial (enters_of Tryz.func113 (by kernel_rfl) rfl) _ _ (by unfold maxLen; omega) (by omega) _ hseq)).mono ?_
  rintro e w' ⟨v, ss, h1, h2, h3, -, h4⟩
  exact ⟨v, ss, h1, h2, h3, h4⟩

theorem texts_call (nm : ByteArray) (a : Option Addr) (n c : Nat) (w : World) : Calls Tryz.prog 88 #[.agg #[.string nm, .slice a n c]] w fun e w' => e = .returned (.func (.func 114) #[] #[.pointer (some ⟨w.heap.size, 0, none⟩)]) ∧ w' = w.alloc (.cells #[.string nm, .slice a n c] 52) := by
  go_enter Tryz.func88, Tryz.ntmps88
  go_wp2
  go_ret
  exact ⟨rfl, rfl⟩

theorem tally_size {b nn : Nat} {D : DataW Unit} {R : Value → Option (DataW Unit × List MemPlace)} {w : World} (h : w.ownsMap Tryz.prog 9 R b nn D) : Go.Maps.size D ≤ nn := by
  obtain ⟨es, clock, hb, F, hs, rfl⟩ := h
  rw [Go.Maps.size_eq, DataW.length_sorted]
  simpa using hs

set_option maxRecDepth 100000 in
set_option maxHeartbeats 2000000 in
theorem profile_Values (nm : ByteArray) (cs : List Cl) (v : Value) (B : Nat) (w : World) (hv : RdCl w (· < B) v cs) (hB : B ≤ w.heap.size) (hl : cs.length ≤ 1048576) (hsz : ∀ c ∈ cs, c.text.size ≤ maxLen) :
    Calls Tryz.prog 48 #[.agg #[.string nm, v]] w (GivesS w (valuesL cs)) := by
  obtain ⟨a, c, rfl⟩ : ∃ a c, v = .slice a cs.length c := by
    obtain ⟨a, c, e, -⟩ := hv
    exact ⟨a, c, e⟩
  have HV := hid hv
  have HSZ := hid hsz
  have HT := hid (textsT_texts hsz)
  clear hv hsz
  generalize hn : cs.length = n at *
  have HN := hid hn
  clear hn
  have hb1 : Below w.heap.size w ((w.alloc (.cells #[.string nm, .slice a n c] 52)).alloc (.cells #[.string nm, .slice a n c] 52)) := by have := Below.refl w.heap.size w; repeat' (first | (with_reducible exact Below.refl _ _) | (with_reducible assumption) | (with_reducible refine below_drewN ?_) | (with_reducible refine Below.alloc ?_ ?_ _) | (with_reducible refine Below.drew ?_) | (with_reducible refine Below.setCell ?_ ?_ _) | (with_reducible refine Below.trans ?_ (Below.mono (by with_reducible assumption) ?_)) | go_size)
  have HB1 := hid hb1
  have hx := BoxN.new (w.alloc (.cells #[.string nm, .slice a n c] 52)) #[.string nm, .slice a n c] 52
  have HTA := hid (callsIn_wide.1 (tally_in Fence.wide 5 trivial trivial rfl (by omega) (w.heap.size + 1) (.slice a n c) cs HSZ.out (by rw [HN.out]; exact hl) ((w.alloc (.cells #[.string nm, .slice a n c] 52)).alloc (.cells #[.string nm, .slice a n c] 52)) (by simp) (by rw [World.size_alloc] at hx; exact hx.cell 1 rfl)
    (by have h := HV.out; exact (h.keep fun p (hp : p.block < B) => hb1.cell (p := p) (by omega)).more fun b hb => (by have h2 : b < B := hb; simp; omega))))
  clear hb1 hx
  go_enter Tryz.func48, Tryz.ntmps48
  go_wp2_with fail
  with_reducible refine (texts_call nm a n c _).mono ?_
  rintro e w1 ⟨rfl, rfl⟩
  go_wp2_with fail
  with_reducible refine HTA.out.mono ?_
  clear HTA
  generalize hW2 : (w.alloc (.cells #[.string nm, .slice a n c] 52)).alloc (.cells #[.string nm, .slice a n c] 52) = W2 at *
  clear hW2
  rintro e w3 ⟨rfl, hown3, hb3⟩
  have hsz3 := tally_size hown3
  have htl := textsT_len cs
  have hX := fun s => tallyD_has (textsT cs) s
  have HKS := hid (fun ss hp => keys_sorted' hown3 (textsL cs) (fun s => (hX s).trans (by rw [HT.out])) (ss := ss) hp)
  have HSR := hid (lib_SortedI W2.heap.size _ _ _ w3 hown3 (by have := HN.out; omega))
  have HB3 := hid (HB1.out.trans (hb3.mono HB1.out.size))
  have HB4 := hid (HB3.out.alloc HB3.out.size (.cells #[.map (some W2.heap.size)] 89))
  clear hown3 hb3 hsz3 htl hX
  go_wp2_with (first | (go_at_call 86; refine (lib_KeysI _ _).mono ?_; rintro e w5 ⟨rfl, rfl⟩) | fail)
  with_reducible refine HSR.out.mono ?_
  clear HSR
  generalize w3.alloc (.cells #[.map (some W2.heap.size)] 89) = W4 at *
  rintro e w6 ⟨u, ss, rfl, hp6, hown6, hb6⟩
  have hss := HKS.out ss hp6
  have hsl : ss.length = (valuesL cs).length := by have := congrArg List.length hss; simpa [valuesL] using this
  rw [hss, hsl, List.map_map, show (encStr ∘ listOf) = Value.string from funext fun a => by cases a; rfl] at hown6
  have HOWN := hid (own_base (base' := w.heap.size) hown6 HB4.out.size)
  have HB6 := hid (HB4.out.trans (hb6.mono HB4.out.size))
  clear hss hsl hp6 hown6 hb6
  obtain ⟨sa, sc, rfl⟩ := own_slice HOWN.out
  go_wp2
  go_ret
  exact ⟨sa, sc, rfl, HOWN.out, HB6.out⟩

end Go.Proofs.YtabemneoobbnaaaGreatDoor
