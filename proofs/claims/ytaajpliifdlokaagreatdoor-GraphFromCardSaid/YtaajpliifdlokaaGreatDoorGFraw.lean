/- Contract of the reference's Values of a column (from Nf). Plain: how two columns are related (chapter 29). No program in sight. Contracts of relation.counts and relation.against. -/
import Derived.Test.YtaajpliifdlokaaGreatDoorGFrao
import Derived.Test.YtaajpliifdlokaaGreatDoorGFrav
import Derived.Test.YtaajpliifdlokaaGreatDoorGFrau
import Derived.Maps.RangeWalk
import Derived.Sort.MapsRangeIn
set_option linter.unusedVariables false
set_option linter.unusedSimpArgs false
namespace Go.Proofs.YtaajpliifdlokaaGreatDoor
open Go.RowKit
def textsL (cs : List Cl) : List ByteArray := (cs.filter fun c => !c.null).map Cl.text
def valuesL (cs : List Cl) : List ByteArray := setOfL (textsL cs)
theorem texts_take {cs : List Cl} {k : Nat} (h : k < cs.length) : textsL (cs.take (k + 1)) = if (cs.getD k Cl.z).null = true then textsL (cs.take k) else textsL (cs.take k) ++ [(cs.getD k Cl.z).text] := by
  unfold textsL
  rw [List.take_succ_eq_append_getElem h, List.filter_append, List.map_append]
  have e : cs.getD k Cl.z = cs[k] := by simp [List.getD, h]
  rw [e, List.filter_cons, List.filter_nil]
  cases h2 : cs[k].null <;> simp [h2]
theorem texts_len (cs : List Cl) : (textsL cs).length ≤ cs.length := by
  unfold textsL; rw [List.length_map]; exact List.length_filter_le _ _
theorem texts_take_len (cs : List Cl) (k : Nat) : (textsL (cs.take k)).length ≤ k := Nat.le_trans (texts_len _) (List.length_take_le _ _)
end Go.Proofs.YtaajpliifdlokaaGreatDoor

namespace Go.Proofs.YtaajpliifdlokaaGreatDoor
open Go.RowKit
def cntT (xs : List ByteArray) (s : ByteArray) : Nat := (xs.filter fun t => decide (t = s)).length
theorem cntT_pos {xs : List ByteArray} {s : ByteArray} : 0 < cntT xs s ↔ s ∈ xs := by
  unfold cntT
  rw [List.length_pos_iff_exists_mem]
  constructor
  · rintro ⟨t, ht⟩
    have h := List.mem_filter.1 ht
    have e : t = s := of_decide_eq_true h.2
    rw [← e]
    exact h.1
  · exact fun h => ⟨s, List.mem_filter.2 ⟨h, decide_eq_true rfl⟩⟩
theorem cntT_le (xs : List ByteArray) (s : ByteArray) : cntT xs s ≤ xs.length := List.length_filter_le _ _
theorem cntT_snoc (xs : List ByteArray) (t s : ByteArray) : cntT (xs ++ [t]) s = if s = t then cntT xs s + 1 else cntT xs s := by
  unfold cntT
  rw [List.filter_append, List.length_append, List.filter_cons, List.filter_nil]
  by_cases h : t = s
  · rw [if_pos (decide_eq_true h), if_pos h.symm]; rfl
  · rw [if_neg (by simpa using h), if_neg (fun e => h e.symm)]; rfl
theorem setOfL_nodup (xs : List ByteArray) : (setOfL xs).Nodup := by
  have h := setOfL_asc xs
  refine List.Pairwise.imp ?_ h
  intro a b hab e
  rw [e, sl_irrefl] at hab
  cases hab
theorem set_snoc_len (xs : List ByteArray) (t : ByteArray) : (setOfL (xs ++ [t])).length = if 0 < cntT xs t then (setOfL xs).length else (setOfL xs).length + 1 := by
  have n1 := setOfL_nodup (xs ++ [t])
  have n2 := setOfL_nodup xs
  have m1 := setOfL_mem_iff (xs ++ [t])
  have m2 := setOfL_mem_iff xs
  by_cases h : t ∈ xs
  · rw [if_pos (cntT_pos.2 h)]
    refine List.Perm.length_eq ((List.perm_ext_iff_of_nodup n1 n2).2 fun a => ?_)
    rw [m1, m2, List.mem_append, List.mem_singleton]
    exact ⟨fun e => e.elim id fun e => by rw [e]; exact h, Or.inl⟩
  · rw [if_neg fun e => h (cntT_pos.1 e)]
    have hp : (setOfL (xs ++ [t])).Perm (t :: setOfL xs) := (List.perm_ext_iff_of_nodup n1 (List.nodup_cons.2 ⟨fun e => h ((m2 t).1 e), n2⟩)).2 fun a => by
      rw [m1, List.mem_cons, m2, List.mem_append, List.mem_singleton]
      exact Or.comm
    rw [hp.length_eq, List.length_cons]
def cmK (xs ys : List ByteArray) : List ByteArray := (setOfL xs).filter fun s => decide (0 < cntT ys s)
theorem cmK_mem {xs ys : List ByteArray} {s : ByteArray} : s ∈ cmK xs ys ↔ s ∈ xs ∧ s ∈ ys := by
  unfold cmK
  rw [List.mem_filter, setOfL_mem_iff, decide_eq_true_iff, cntT_pos]
theorem cmK_nodup (xs ys : List ByteArray) : (cmK xs ys).Nodup := (setOfL_nodup xs).sublist List.filter_sublist
theorem cmK_len (xs ys : List ByteArray) : (cmK xs ys).length ≤ (setOfL xs).length := List.length_filter_le _ _
theorem cmK_comm (xs ys : List ByteArray) : (cmK xs ys).length = (cmK ys xs).length :=
  List.Perm.length_eq ((List.perm_ext_iff_of_nodup (cmK_nodup _ _) (cmK_nodup _ _)).2 fun a => by rw [cmK_mem, cmK_mem, and_comm])
def maxL (l : List Nat) : Nat := l.foldr max 0
theorem maxL_perm {a b : List Nat} (h : a.Perm b) : maxL a = maxL b := by
  induction h with
  | nil => rfl
  | cons x _ ih => simp only [maxL, List.foldr_cons] at ih ⊢; rw [ih]
  | swap x y l => simp only [maxL, List.foldr_cons]; omega
  | trans _ _ h1 h2 => exact h1.trans h2
theorem sumL_perm {a b : List Nat} (h : a.Perm b) : a.sum = b.sum := by
  induction h with
  | nil => rfl
  | cons x _ ih => simp only [List.sum_cons]; rw [ih]
  | swap x y l => simp only [List.sum_cons]; omega
  | trans _ _ h1 h2 => exact h1.trans h2
theorem sumL_le {M : Nat} : ∀ {l : List Nat}, (∀ x ∈ l, x ≤ M) → l.sum ≤ l.length * M
  | [], _ => by simp
  | x :: l, h => by
    have h1 := h x (by simp)
    have h2 := sumL_le (l := l) (M := M) fun y hy => h y (by simp [hy])
    rw [List.sum_cons, List.length_cons, Nat.add_mul]
    omega
theorem maxL_le {M : Nat} : ∀ {l : List Nat}, (∀ x ∈ l, x ≤ M) → maxL l ≤ M
  | [], _ => by simp [maxL]
  | x :: l, h => by
    have h1 := h x (by simp)
    have h2 := maxL_le (l := l) (M := M) fun y hy => h y (by simp [hy])
    simp only [maxL, List.foldr_cons] at h2 ⊢
    omega
theorem filt_one {α : Type} [DecidableEq α] {l : List α} (hn : l.Nodup) {p q : α → Bool} {s : α} (hp : p s = false) (hq : ∀ t, q t = (p t || decide (t = s))) :
    (s ∈ l → (l.filter q).Perm (s :: l.filter p)) ∧ (s ∉ l → l.filter q = l.filter p) := by
  refine ⟨fun hs => ?_, fun hs => ?_⟩
  · refine (List.perm_ext_iff_of_nodup (hn.sublist List.filter_sublist) (List.nodup_cons.2 ⟨fun h => ?_, hn.sublist List.filter_sublist⟩)).2 fun a => ?_
    · have := (List.mem_filter.1 h).2
      rw [hp] at this
      cases this
    · rw [List.mem_cons, List.mem_filter, List.mem_filter, hq, Bool.or_eq_true, decide_eq_true_iff]
      constructor
      · rintro ⟨h1, h2 | h2⟩
        · exact .inr ⟨h1, h2⟩
        · exact .inl h2
      · rintro (rfl | ⟨h1, h2⟩)
        · exact ⟨hs, .inr rfl⟩
        · exact ⟨h1, .inl h2⟩
  · refine List.filter_congr fun t ht => ?_
    have : decide (t = s) = false := decide_eq_false fun e => hs (by rw [← e]; exact ht)
    rw [hq, this, Bool.or_false]
structure Rl where
  ta : Int
  ca : Int
  tb : Int
  cb : Int
  co : Int
  oa : Int
  ob : Int
  ma : Int
  mb : Int
  la : Int
  lb : Int
def Rl.z : Rl := ⟨0, 0, 0, 0, 0, 0, 0, 0, 0, 0, 0⟩
def Rl.cs (r : Rl) : List Value := [.int .i64 r.ta, .int .i64 r.ca, .int .i64 r.tb, .int .i64 r.cb, .int .i64 r.co, .int .i64 r.oa, .int .i64 r.ob, .int .i64 r.ma, .int .i64 r.mb, .int .i64 r.la, .int .i64 r.lb]
def Rl.val (r : Rl) : Value := .agg r.cs.toArray
def Rl.turn (r : Rl) : Rl := ⟨r.tb, r.cb, r.ta, r.ca, r.co, r.ob, r.oa, r.mb, r.ma, r.lb, r.la⟩
theorem Rl.turn_turn (r : Rl) : r.turn.turn = r := rfl
def mostK (xs ys : List ByteArray) : Nat := maxL ((cmK xs ys).map (cntT xs))
def takenK (xs ys : List ByteArray) : Nat := ((cmK xs ys).map (cntT xs)).sum
def txC (t : Ta) (i : Nat) : List ByteArray := textsL (t.cols.getD i Co.z).cells
def relL (a b : Ta) (i j : Nat) : Rl :=
  ⟨a.id, i, b.id, j, (cmK (txC a i) (txC b j)).length, ((setOfL (txC a i)).length : Int) - (cmK (txC a i) (txC b j)).length, ((setOfL (txC b j)).length : Int) - (cmK (txC a i) (txC b j)).length,
    mostK (txC a i) (txC b j), mostK (txC b j) (txC a i), (rowsC a.cols : Int) - takenK (txC a i) (txC b j), (rowsC b.cols : Int) - takenK (txC b j) (txC a i)⟩
end Go.Proofs.YtaajpliifdlokaaGreatDoor

namespace Go.Proofs.YtaajpliifdlokaaGreatDoor
open Go.RowKit
theorem wf_oneR {k : Nat} (h : k ≤ 268435456) : (Lit.int .i64 ((k : Int) + 1)).wf = true := by
  have e : (k : Int) + 1 = wrap64 ((k : Int) + 1) := by unfold wrap64; omega
  rw [e]
  exact wrap64_wf _
def cntF (xs : List ByteArray) (s : ByteArray) : Option Nat := if 0 < cntT xs s then some (cntT xs s) else none
theorem cntF_get (xs : List ByteArray) (s : ByteArray) : (cntF xs s).getD 0 = cntT xs s := by
  unfold cntF
  split
  · rfl
  · show 0 = _; omega
theorem cntF_snoc (xs : List ByteArray) (x : ByteArray) : setF1 (cntF xs) x (cntT xs x + 1) = cntF (xs ++ [x]) := by
  funext s
  unfold setF1 cntF
  rw [cntT_snoc]
  by_cases h : s = x
  · subst h
    rw [if_pos rfl, if_pos rfl, if_pos (by omega)]
  · rw [if_neg h, if_neg h]
theorem cntF_some {xs : List ByteArray} {s : ByteArray} : (cntF xs s).isSome = true ↔ s ∈ xs := by
  rw [← cntT_pos]
  unfold cntF
  split <;> simp [*]
theorem key_str_inv {x : ByteArray} {kl : Lit} (h : keyOf Tryz.prog 9 (.string x) = some kl) : kl = keyU x ∧ x.size ≤ maxLen := by
  by_cases hs : x.size ≤ maxLen
  · rw [key_str hs] at h
    exact ⟨(Option.some.inj h).symm, hs⟩
  · exfalso
    simp [keyOf, Tryz.underlying9, mapKey, hs] at h
theorem entry_cnt {D : DataW Unit} {xs : List ByteArray} {x : ByteArray} {c : Int} {ya : DataW Unit} {yb : List MemPlace} (hno : NumOk D (cntF xs)) (hy : plainElem (H := Unit) Tryz.prog 3 (.int .i64 c) = some (ya, yb)) (hat : ∀ zd, D.atKey (keyU x) zd = ya) :
    x ∈ xs ∧ c = (cntT xs x : Int) := by
  obtain ⟨a, e1, e2, -⟩ := plainElem_int_inv Tryz.underlying3 hy
  have e3 := (Prod.mk.inj e2).1
  have h1 := hno.look x
  rw [hat, e3, cntF_get] at h1
  injection h1 with h1
  injection h1 with _ h1
  injection e1 with _ e1
  refine ⟨?_, by rw [e1, h1]⟩
  rcases hx : Go.Maps.has D (keyU x) with _ | _
  · have h2 := Go.Maps.atKey_of_not_has hx
    have h3 := hat (.lit (.int .i64 (c + 1)))
    rw [h2, e3, e1] at h3
    injection h3 with h3
    injection h3 with _ h3
    omega
  · rw [hno.has] at hx
    exact cntF_some.1 hx
def MapC (w : World) (b : Nat) (xs : List ByteArray) : Prop :=
  ∃ D : DataW Unit, w.ownsMap Tryz.prog 9 (plainElem (H := Unit) Tryz.prog 3) b (setOfL xs).length D ∧ NumOk D (cntF xs) ∧ Go.Maps.size D = (setOfL xs).length
theorem own_exact {H : Type} {P : Program} {k : TypeId} {R : Value → Option (DataW H × List MemPlace)} {w : World} {b n m : Nat} {D : DataW H} (h : w.ownsMap P k R b n D) (e : Go.Maps.size D = m) : w.ownsMap P k R b m D := by
  obtain ⟨es, clock, hb, Ft, hs, hD⟩ := h
  refine ⟨es, clock, hb, Ft, ?_, hD⟩
  rw [hD, Go.Maps.size_eq, length_sorted, List.length_map, Array.length_toList] at e
  omega
section
variable {w w' : World} {b : Nat} {xs : List ByteArray}
theorem MapC.lt (h : MapC w b xs) : b < w.heap.size := by
  obtain ⟨D, hown, -, -⟩ := h
  exact hown.lt
theorem MapC.mapI (h : MapC w b xs) : MapI w b (setOfL xs).length (cntF xs) := by
  obtain ⟨D, hown, ho, -⟩ := h
  exact ⟨D, hown, ho⟩
theorem MapC.later (h : MapC w b xs) (hk : w'.heap[b]? = w.heap[b]?) : MapC w' b xs := by
  obtain ⟨D, ⟨es, clock, hb, Ft, hs, hD⟩, ho, hz⟩ := h
  exact ⟨D, ⟨es, clock, hk.trans hb, Ft, hs, hD⟩, ho, hz⟩
theorem MapC.below {B : Nat} (h : MapC w b xs) (hb : Below B w w') (hl : b < B) : MapC w' b xs := h.later (hb.block b hl)
theorem cntF_none : cntF [] = fun _ => none := rfl
theorem MapC.made (w : World) : MapC (w.alloc (.map #[] 0)) w.heap.size [] := ⟨_, World.ownsMap_made w Tryz.prog 9 _, by rw [cntF_none]; exact NumOk.start, rfl⟩
set_option maxRecDepth 100000 in
theorem MapC.len (h : MapC w b xs) (ty : TypeId) : (Builtin.len_ #[129] ty #[.map (some b)]).run Tryz.prog w = .ok (.int .i64 ((setOfL xs).length : Int)) w := by
  obtain ⟨D, hown, -, hz⟩ := h
  rw [← hz]
  exact hown.len Tryz.underlying129 ty
theorem size_step {D : DataW Unit} {xs : List ByteArray} {x : ByteArray} {d : DataW Unit} (ht : Go.Maps.Tidy D) (ho : NumOk D (cntF xs)) (hz : Go.Maps.size D = (setOfL xs).length) : Go.Maps.size (D.put (keyU x) d) = (setOfL (xs ++ [x])).length := by
  rw [Go.Maps.size_put ht, ho.has, set_snoc_len, hz]
  by_cases h : x ∈ xs
  · rw [if_pos (cntF_some.2 h), if_pos (cntT_pos.2 h)]
  · rw [if_neg (fun e => h (cntF_some.1 e)), if_neg (fun e => h (cntT_pos.1 e))]
end
def GivesC (w : World) (xs : List ByteArray) (e : Ending) (w' : World) : Prop := ∃ b, e = .returned (.map (some b)) ∧ w.heap.size ≤ b ∧ MapC w' b xs ∧ Below w.heap.size w w'
set_option maxRecDepth 100000 in
set_option maxHeartbeats 2000000 in
theorem rel_counts (nm : ByteArray) (cs : List Cl) (v : Value) (B : Nat) (w : World) (hv : RdCl w (· < B) v cs) (hB : B ≤ w.heap.size) (hl : cs.length ≤ 4096) (hsz : ∀ c ∈ cs, c.text.size ≤ maxLen) :
  Calls Tryz.prog 85 #[.agg #[.string nm, v]] w (GivesC w (textsL cs)) := by
 obtain ⟨a, k, rfl, hk, hm, hrd⟩ := hv
 have HRD := hid hrd
 have HTK := hid (fun q h => @texts_take cs q h)
 have HTL := hid (fun q => texts_take_len cs q)
 have HSZ := hid (fun q (h : q < cs.length) => hsz _ (getD_mem h Cl.z))
 have HFIN : Hid (textsL (cs.take cs.length) = textsL cs) := hid (by rw [List.take_length])
 clear hrd hsz
 generalize textsL cs = F at *
 generalize hcl : cs.length = L at *
 have HCL := hid hcl
 clear hcl
 unfold maxLen at hm
 have HX0 := hid ((BoxN.new w #[.string nm, .slice a L k] 55).alloc (.map #[] 0))
 have hm1 := MapC.made (w.alloc (.cells #[.string nm, .slice a L k] 55))
 rw [World.size_alloc] at hm1
 have HM1 := hid hm1
 have HB1 := hid (((Below.refl w.heap.size w).alloc (Nat.le_refl _) (.cells #[.string nm, .slice a L k] 55)).alloc (by simp) (.map #[] 0))
 have hzw := HB1.out.size
 clear hm1
 have hmm := @run_makeMap Tryz.prog
 go_enter Tryz.func85, Tryz.ntmps85
 generalize hLA : Code.loop _ = LA
 go_wp2_with fail
 generalize (w.alloc (.cells #[.string nm, .slice a L k] 55)).alloc (.map #[] 0) = W1 at *
 subst hLA
 go_loopg [10] L (fun N i wr => ∃ q : Nat, q + N = L ∧ i = .int .i64 (q : Int) ∧ Hid (Below w.heap.size w wr) ∧ Hid (MapC wr (w.heap.size + 1) (textsL (cs.take q))))
 case atStart => exact ⟨0, by omega, rfl, HB1, hid (by simpa [textsL] using HM1.out)⟩
 case round =>
  obtain ⟨q, hq, rfl, HST, HM⟩ := hrel
  by_cases hp : 0 < gk
  ·obtain ⟨b, o, rfl, hb, hcell⟩ := HRD.out (by omega)
   have hb' : b < B := hb
   have hbw : b < w.heap.size := by omega
   have hwz := HST.out.size
   have k0 : wr.cell? ⟨b, o + q * 2, none⟩ = some (.bool (cs.getD q Cl.z).null) := (HST.out.cell (p := ⟨b, o + q * 2, none⟩) hbw).trans (hcell q (by omega) 0 (by omega))
   have k1 : wr.cell? ⟨b, o + q * 2 + 1, none⟩ = some (.string (cs.getD q Cl.z).text) := (HST.out.cell (p := ⟨b, o + q * 2 + 1, none⟩) hbw).trans (hcell q (by omega) 1 (by omega))
   have HNX := hid (HTK.out q (by have := HCL.out; omega))
   have hql := HTL.out q
   have hsz := HSZ.out q (by omega)
   generalize textsL (cs.take q) = acc at *
   clear hcell
   generalize cs.getD q Cl.z = c at *
   obtain ⟨nl, s⟩ := c
   simp only at k0 k1 hsz
   have hml := HM.out.lt
   have HM3 := hid (HM.out.later (w' := wr.alloc (.cells #[.bool nl, .string s] 84)) (Below.heap_alloc _ _ _ hml))
   have HB3 : Hid (Below w.heap.size w (wr.alloc (.cells #[.bool nl, .string s] 84))) := hid (HST.out.alloc hwz _)
   cases nl
   ·have hmi := HM3.out.mapI
    have hlk := hmi.look hsz
    rw [cntF_get] at hlk
    have HKEY := hid (key_str hsz)
    obtain ⟨D, hown, hno, hz0⟩ := HM3.out
    have hcl := cntT_le acc s
    have hsl := setOfL_len acc
    have HPUT : Hid (∀ W, W.ownsMap Tryz.prog 9 (plainElem (H := Unit) Tryz.prog 3) (w.heap.size + 1) ((setOfL acc).length + 1) (D.put (keyU s) (.lit (.int .i64 ((cntT acc s + 1 : Nat) : Int)))) → MapC W (w.heap.size + 1) (acc ++ [s])) := hid (fun W hW => by
     have h1 := size_step (x := s) (d := .lit (.int .i64 ((cntT acc s + 1 : Nat) : Int))) (hown.tidy law_strU) hno hz0
     have h2 := hno.put s (cntT acc s + 1)
     rw [cntF_snoc] at h2
     exact ⟨_, own_exact hW h1, h2, h1⟩)
    have HOWN := hid hown
    clear hown hno hz0 hmi
    generalize (setOfL acc).length = sl0 at *
    generalize cntT acc s = ct at *
    go_wp2_with (at_mapUpdate; refine wpList_mapUpdate_own _ rfl _ _ _ 129 rfl 9 3 law_strU Tryz.underlying129 _ (w.heap.size + 1) sl0 D rfl HOWN.out (by unfold maxLen; omega) _ _ _ rfl rfl HKEY.out _ [] (plainElem_int (H := Unit) Tryz.underlying3 (wf_oneR (by omega))) ?_; intro w9 hown9 hgrow9; have HOWN9 := hid hown9; have HGR9 := hid hgrow9; clear hown9 hgrow9)
    have HB9 := hid (HB3.out.grown HGR9.out (by have := HB3.out.size; omega) (fun k hk => by have := Option.some.inj hk; omega))
    go_roundg (gk - 1)
    case rel => exact ⟨q + 1, by omega, by go_num, HB9, hid (by rw [HNX.out]; exact HPUT.out _ HOWN9.out)⟩
    case measure => omega
   ·go_wp2_with fail
    go_roundg (gk - 1)
    case rel => exact ⟨q + 1, by omega, by go_num, HB3, hid (by rw [HNX.out]; exact HM3.out)⟩
    case measure => omega
  ·obtain rfl : gk = 0 := by omega
   obtain rfl : q = L := by omega
   rw [HFIN.out] at HM
   have HG : Hid (GivesC w F (.returned (.map (some (w.heap.size + 1)))) wr) := hid ⟨_, rfl, by omega, HM.out, HST.out⟩
   go_wp2
   go_ret
   exact HG.out
def donK (xs ys : List ByteArray) (left : Lit → Bool) : List ByteArray := (cmK xs ys).filter fun s => !left (keyU s)
theorem donK_start {xs ys : List ByteArray} {D : DataW Unit} (ho : NumOk D (cntF xs)) : donK xs ys (Go.Maps.has D) = [] := by
  unfold donK
  rw [List.filter_eq_nil_iff]
  intro s hs
  rw [ho.has, cntF_some.2 (cmK_mem.1 hs).1]
  simp
theorem donK_end {xs ys : List ByteArray} {left : Lit → Bool} (h : ∀ kl, left kl = false) : donK xs ys left = cmK xs ys := by
  unfold donK
  rw [List.filter_eq_self]
  intro s _
  rw [h]
  rfl
theorem same_keyU (s t : ByteArray) : (keyU t).sameKey (keyU s) = decide (t = s) := by
  by_cases h : t = s
  · subst h
    rw [decide_eq_true rfl]
    exact Go.WideAt.sameKey_self (by unfold keyU Go.WideAt.IsKeyLit; trivial)
  · rw [decide_eq_false h]
    exact Go.Maps.sameKey_ne fun e => h (keyU_inj e)
theorem donK_step {xs ys : List ByteArray} {left : Lit → Bool} {s : ByteArray} (hl : left (keyU s) = true) (hs : s ∈ xs) :
    (0 < cntT ys s → (donK xs ys (fun z => left z && !z.sameKey (keyU s))).Perm (s :: donK xs ys left)) ∧ (¬ 0 < cntT ys s → donK xs ys (fun z => left z && !z.sameKey (keyU s)) = donK xs ys left) := by
  unfold donK
  have h := filt_one (cmK_nodup xs ys) (p := fun t => !left (keyU t)) (q := fun t => !(left (keyU t) && !(keyU t).sameKey (keyU s))) (s := s) (by rw [hl]; rfl) (fun t => by
    rw [same_keyU]
    cases left (keyU t) <;> simp)
  exact ⟨fun hp => h.1 (cmK_mem.2 ⟨hs, cntT_pos.1 hp⟩), fun hp => h.2 fun hm => hp (cntT_pos.2 (cmK_mem.1 hm).2)⟩
def comD (l : List ByteArray) : Nat := l.length
def mosD (xs l : List ByteArray) : Nat := maxL (l.map (cntT xs))
def takD (xs l : List ByteArray) : Nat := (l.map (cntT xs)).sum
def AgaP (w : World) (xs ys : List ByteArray) (rows : Nat) (e : Ending) (w' : World) : Prop :=
  e = .returned (.tuple #[.int .i64 ((cmK xs ys).length : Int), .int .i64 (mostK xs ys : Int), .int .i64 ((rows : Int) - (takenK xs ys : Int))]) ∧ Below w.heap.size w w'
set_option maxRecDepth 100000 in
set_option maxHeartbeats 4000000 in
theorem rel_against (b1 b2 : Nat) (xs ys : List ByteArray) (rows : Nat) (w : World) (h1 : MapC w b1 xs) (h2 : MapC w b2 ys) (hx : xs.length ≤ 4096) (hy : ys.length ≤ 4096) (hr : rows ≤ 4096) (hsz : ∀ s ∈ xs, s.size ≤ maxLen) :
  Calls Tryz.prog 86 #[.map (some b1), .map (some b2), .int .i64 (rows : Int)] w (AgaP w xs ys rows) := by
 have H2 := hid h2
 have hl1 := h1.lt
 have hl2 := h2.lt
 obtain ⟨D, hown, hno, hz⟩ := h1
 have HOWN := hid hown
 have HNO := hid hno
 have HSZ := hid hsz
 have HMOST : Hid (mosD xs (cmK xs ys) = mostK xs ys ∧ takD xs (cmK xs ys) = takenK xs ys ∧ comD (cmK xs ys) = (cmK xs ys).length) := hid ⟨rfl, rfl, rfl⟩
 have HCN := hid (fun s => Nat.le_trans (cntT_le xs s) hx)
 have HCNY := hid (fun s => Nat.le_trans (cntT_le ys s) hy)
 have HDL : Hid (∀ left, comD (donK xs ys left) ≤ 4096) := hid (fun left => Nat.le_trans (List.length_filter_le _ _) (Nat.le_trans (cmK_len _ _) (Nat.le_trans (setOfL_len _) hx)))
 have HMD : Hid (∀ l, mosD xs l ≤ 4096) := hid (fun l => maxL_le fun x h => by
  obtain ⟨s, -, rfl⟩ := List.mem_map.1 h
  exact HCN.out s)
 have HTD : Hid (∀ left, takD xs (donK xs ys left) ≤ 16777216) := hid (fun left => by
  have h3 := sumL_le (M := 4096) (l := (donK xs ys left).map (cntT xs)) (fun x h => by
   obtain ⟨s, -, rfl⟩ := List.mem_map.1 h
   exact HCN.out s)
  have h4 := HDL.out left
  unfold comD at h4
  rw [List.length_map] at h3
  have h5 : (donK xs ys left).length * 4096 ≤ 4096 * 4096 := Nat.mul_le_mul_right _ h4
  unfold takD
  omega)
 have HST := hid (donK_start (ys := ys) hno)
 clear hown hno hz hsz h2 hx hy
 go_enter Tryz.func86, Tryz.ntmps86
 go_wp2_with (first
  | (at_range; refine wpList_range_own _ rfl _ 129 rfl 9 3 law_strU Tryz.underlying129 _ b1 (setOfL xs).length D rfl HOWN.out ?_; intro w0 hrg0 hg0 hs0)
  | go_in)
 go_frame
 have HRG0 := hid hrg0
 have HB0 := hid ((Below.refl w.heap.size w).grown hg0 (Nat.le_refl _) (fun k hk => by cases hk))
 clear hrg0 hg0
 go_loopw [6, 7, 8] (fun c m l wr => ∃ (left : Lit → Bool) (cnt : Nat), c = .int .i64 (comD (donK xs ys left) : Int) ∧ m = .int .i64 (mosD xs (donK xs ys left) : Int) ∧ l = .int .i64 ((rows : Int) - (takD xs (donK xs ys left) : Int)) ∧ Hid (wr.ranges Tryz.prog 9 (plainElem (H := Unit) Tryz.prog 3) b1 w.heap.size (setOfL xs).length D left cnt) ∧ Hid (Below w.heap.size w wr))
  (fun _ _ _ wr => wr.rangeLeft b1 w.heap.size)
 case atStart => exact ⟨_, _, by rw [HST.out]; rfl, by rw [HST.out]; rfl, by rw [HST.out]; simp [takD], HRG0, HB0⟩
 case round =>
  obtain ⟨left, cnt, rfl, rfl, rfl, HRG, HB⟩ := hrel
  have hbz := HB.out.size
  have hd1 := HDL.out left
  have hd2 := HMD.out (donK xs ys left)
  have hd3 := HTD.out left
  go_wp2_with (first
   | (at_next; refine wpList_next_ranges _ rfl _ rfl 9 law_strU (plainElem (H := Unit) Tryz.prog 3) Value.string (Value.int .i64) (fun key kl hkey => Go.Maps.keyOf_string_inv Tryz.underlying9 hkey) (fun v y hv => by obtain ⟨c, rfl, _⟩ := plainElem_int_inv Tryz.underlying3 hv; exact ⟨c, rfl⟩) b1 w.heap.size (setOfL xs).length D left cnt rfl HRG.out ?_ ?_)
   | go_in)
  ·intro _ hl0
   have e0 := donK_end (xs := xs) (ys := ys) hl0
   have HF : Hid (AgaP w xs ys rows (.returned (.tuple #[.int .i64 (comD (donK xs ys left) : Int), .int .i64 (mosD xs (donK xs ys left) : Int), .int .i64 ((rows : Int) - (takD xs (donK xs ys left) : Int))])) wr) := hid ⟨by rw [e0]; rfl, HB.out⟩
   clear hd1 hd2 hd3 e0
   go_wp2
   refine bodyPost_ret (v := .tuple #[.int .i64 (comD (donK xs ys left) : Int), .int .i64 (mosD xs (donK xs ys left) : Int), .int .i64 ((rows : Int) - (takD xs (donK xs ys left) : Int))]) (by simp [results, Tryz.results86, go_sem]) rfl HF.out
  ·intro x c kl ya yb w1 cnt1 hkey hlk hyv hat hrg1 hlt hg1 hs1 hen
   obtain ⟨rfl, hsx⟩ := key_str_inv hkey
   obtain ⟨hmem, rfl⟩ := entry_cnt HNO.out hyv hat
   have HSTEP := hid (donK_step (ys := ys) hlk hmem)
   have HRG1 := hid hrg1
   have HM1 := hid (HRG.out.left_eq)
   have HB1 := hid (HB.out.grown hg1 hbz (fun k hk => by have := Option.some.inj hk; omega))
   have hlk2 := (H2.out.below HB1.out hl2).mapI.look hsx
   rw [cntF_get] at hlk2
   have hc1 := HCN.out x
   have hc2 := HCNY.out x
   clear hkey hlk hyv hat hrg1 hg1 hmem
   by_cases hcp : 0 < cntT ys x
   ·have HP := hid (HSTEP.out.1 hcp)
    have e1 : Hid (comD (donK xs ys (fun z => left z && !z.sameKey (keyU x))) = comD (donK xs ys left) + 1) := hid (by unfold comD; rw [HP.out.length_eq, List.length_cons])
    have e2 : Hid (mosD xs (donK xs ys (fun z => left z && !z.sameKey (keyU x))) = max (cntT xs x) (mosD xs (donK xs ys left))) := hid (by unfold mosD; rw [maxL_perm (HP.out.map _)]; rfl)
    have e3 : Hid (takD xs (donK xs ys (fun z => left z && !z.sameKey (keyU x))) = cntT xs x + takD xs (donK xs ys left)) := hid (by unfold takD; rw [sumL_perm (HP.out.map _)]; rfl)
    generalize comD (donK xs ys left) = cd at *
    generalize mosD xs (donK xs ys left) = md at *
    generalize takD xs (donK xs ys left) = td at *
    generalize cntT xs x = cx at *
    generalize cntT ys x = cy at *
    have hcpi : (0 : Int) < (cy : Int) := by omega
    by_cases hmx : (md : Int) ≤ (cx : Int)
    ·go_wp2_with fail
     go_roundw
     case rel => exact ⟨_, cnt1, by rw [e1.out]; go_num, by rw [e2.out]; simp; omega, by rw [e3.out]; simp; omega, HRG1, HB1⟩
     case measure => rw [HRG1.out.left_eq, HM1.out]; exact hlt
    ·go_wp2_with fail
     go_roundw
     case rel => exact ⟨_, cnt1, by rw [e1.out]; go_num, by rw [e2.out]; simp; omega, by rw [e3.out]; simp; omega, HRG1, HB1⟩
     case measure => rw [HRG1.out.left_eq, HM1.out]; exact hlt
   ·have HP := hid (HSTEP.out.2 hcp)
    have hcpi : ¬ (0 : Int) < ((cntT ys x : Nat) : Int) := by omega
    go_wp2_with fail
    go_roundw
    case rel => exact ⟨_, cnt1, by rw [HP.out], by rw [HP.out], by rw [HP.out], HRG1, HB1⟩
    case measure => rw [HRG1.out.left_eq, HM1.out]; exact hlt
end Go.Proofs.YtaajpliifdlokaaGreatDoor
