/- The order of values by how often they are there; contracts of cmp.Compare at texts, of the comparing closure, of slices.SortedFunc over the keys of a map. Contract of slices.SortedFunc over the keys of a map of numbers, by how often they are there. -/
import Derived.Shelf.SlSortCmp.Whole1
import Derived.Shelf.SlIter.Nil
import Derived.Test.YtabemneoobbnaaaGreatDoorKg
import Derived.Shelf.SlSortCmp.NoneTotal
namespace Go.Proofs.YtabemneoobbnaaaGreatDoor
open Go.Shelf Go.RowKit Go.Lib Go.Sort

/-! ### Plain -/
def cmpB (s t : ByteArray) : Int := if sl s t = true then -1 else if sl t s = true then 1 else 0
/-- rare ones first, then by text -/
def olt (F : ByteArray → Nat) (s t : ByteArray) : Bool := decide (F s < F t) || (decide (F s = F t) && sl s t)
abbrev Tyt := { s : ByteArray // s.size ≤ maxLen }
instance : Inhabited Tyt := ⟨⟨⟨#[]⟩, by unfold maxLen; decide⟩⟩
abbrev encT (x : Tyt) : Value := .string x.1
def cfT (F : ByteArray → Nat) (x y : Tyt) : Int := orZ (cmpZ (F x.1 : Int) (F y.1 : Int)) (cmpB x.1 y.1)
theorem olt_iff {F : ByteArray → Nat} {s t : ByteArray} : olt F s t = true ↔ F s < F t ∨ (F s = F t ∧ sl s t = true) := by
  simp [olt]
theorem olt_not {F : ByteArray → Nat} {s t : ByteArray} : olt F s t = false ↔ F t < F s ∨ (F s = F t ∧ (s = t ∨ sl t s = true)) := by
  rw [Bool.eq_false_iff, Ne, olt_iff]
  constructor
  · intro h
    by_cases h1 : F s = F t
    · right
      refine ⟨h1, ?_⟩
      rcases sl_total s t with h2 | h2 | h2
      · exact absurd (.inr ⟨h1, h2⟩) h
      · exact .inl h2
      · exact .inr h2
    · left
      have : ¬ F s < F t := fun h2 => h (.inl h2)
      omega
  · rintro (h | ⟨h1, h2⟩) h3
    · rcases h3 with h3 | h3 <;> omega
    · rcases h3 with h3 | ⟨-, h3⟩
      · omega
      · rcases h2 with rfl | h2
        · rw [sl_irrefl] at h3; cases h3
        · have := sl_trans h2 h3
          rw [sl_irrefl] at this; cases this
theorem lt_cfT (F : ByteArray → Nat) (x y : Tyt) : Go.Proofs.ltOf (cfT F) x y = olt F x.1 y.1 := by
  unfold Go.Proofs.ltOf cfT
  rw [Bool.eq_iff_iff, olt_iff, decide_eq_true_iff]
  unfold orZ cmpZ cmpB
  by_cases h1 : F x.1 < F y.1
  · simp [h1]
  · by_cases h2 : F y.1 < F x.1
    · have : ¬ F x.1 = F y.1 := by omega
      simp [h1, h2, this]
    · have h3 : F x.1 = F y.1 := by omega
      by_cases h4 : sl x.1 y.1 = true
      · simp [h3, h4]
      · by_cases h5 : sl y.1 x.1 = true <;> simp [h3, h4, h5]
theorem swoT (F : ByteArray → Nat) : SWO (Go.Proofs.ltOf (cfT F)) := by
  refine ⟨fun x => ?_, fun x y z h1 h2 => ?_, fun x y z h1 h2 => ?_⟩
  · rw [lt_cfT, olt_not]; exact .inr ⟨rfl, .inl rfl⟩
  · rw [lt_cfT, olt_iff] at *
    rcases h1 with h1 | ⟨h1, h3⟩ <;> rcases h2 with h2 | ⟨h2, h4⟩
    · left; omega
    · left; omega
    · left; omega
    · right; exact ⟨by omega, sl_trans h3 h4⟩
  · rw [lt_cfT, olt_not] at *
    rcases h1 with h1 | ⟨h1, h3⟩ <;> rcases h2 with h2 | ⟨h2, h4⟩
    · left; omega
    · left; omega
    · left; omega
    · right
      refine ⟨by omega, ?_⟩
      rcases h3 with h3 | h3
      · rcases h4 with h4 | h4
        · exact .inl (h3.trans h4)
        · rw [h3]; exact .inr h4
      · rcases h4 with h4 | h4
        · rw [← h4]; exact .inr h3
        · exact .inr (sl_trans h4 h3)

/-! ### Contracts -/
set_option maxHeartbeats 400000 in
theorem lib_isNaNT (x : ByteArray) (w : World) : Calls Tryz.prog 118 #[.string x] w fun e w' => e = .returned (.bool false) ∧ w = w' := by
  have h1 : (x.toList != x.toList) = false := by simp
  go_enter Tryz.func118, Tryz.ntmps118
  go_wp2
  go_ret
  exact ⟨rfl, rfl⟩
set_option maxHeartbeats 1000000 in
theorem lib_CompareT (x y : ByteArray) (w : World) : Calls Tryz.prog 95 #[.string x, .string y] w fun e w' => e = .returned (.int .i64 (cmpB x y)) ∧ w = w' := by
  have HC : Hid (cmpB x y = if sl x y = true then -1 else if sl y x = true then 1 else 0) := hid rfl
  have h1 : sl x y = Op.bytesLess x.toList y.toList := rfl
  have h2 : sl y x = Op.bytesLess y.toList x.toList := rfl
  have HQ : Hid (sl x y = false → sl y x = true → (x.toList == y.toList) = false) := hid (fun _ h => by
    have hne : x ≠ y := fun e => by rw [e, sl_irrefl] at h; cases h
    have hl : ¬ x.toList = y.toList := fun e => hne (by apply ByteArray.ext; apply Array.ext'; simpa [ByteArray.toList_eq] using e)
    simpa using hl)
  have HR : Hid (sl x y = false → sl y x = false → (x.toList == y.toList) = true) := hid (fun h h' => by
    rcases sl_total x y with h2 | h2 | h2
    · rw [h] at h2; cases h2
    · rw [h2]; simp
    · rw [h'] at h2; cases h2)
  generalize cmpB x y = c at *
  generalize sl x y = l1 at *
  generalize sl y x = l2 at *
  go_enter Tryz.func95, Tryz.ntmps95
  go_wp2_with fail
  with_reducible refine (lib_isNaNT _ _).mono ?_
  rintro e w1 ⟨rfl, rfl⟩
  go_wp2_with fail
  with_reducible refine (lib_isNaNT _ _).mono ?_
  rintro e w1 ⟨rfl, rfl⟩
  cases l1
  · cases l2
    · have h3 := h1.symm
      have h4 := h2.symm
      have h5 := HR.out rfl rfl
      clear h1 h2
      go_wp2
      go_ret
      exact ⟨ret_int (by rw [HC.out]; simp), rfl⟩
    · have h3 := h1.symm
      have h4 := h2.symm
      have h5 := HQ.out rfl rfl
      clear h1 h2
      go_wp2
      go_ret
      exact ⟨ret_int (by rw [HC.out]; simp), rfl⟩
  · have h3 := h1.symm
    clear h1 h2
    go_wp2
    go_ret
    exact ⟨ret_int (by rw [HC.out]; simp), rfl⟩

/-- returns a value; the world has drawn and grown -/
def GrowsT (w : World) (v : Value) (e : Ending) (w' : World) : Prop := e = .returned v ∧ ∃ q os', w' = grow (w.drewN q) os'
theorem grow_drewT (w : World) (os : Array Obj) : (grow w os).drew = grow w.drew os := rfl
theorem grow_drewNT (w : World) (os : Array Obj) (n : Nat) : (grow w os).drewN n = grow (w.drewN n) os := rfl
theorem drew_NT (w : World) : w.drew = w.drewN 1 := rfl

set_option maxHeartbeats 1000000 in
theorem sig_cmp (bx b nn : Nat) (F : ByteArray → Option Nat) (x y : Tyt) (w : World) (hc : w.cell? ⟨bx, 0, none⟩ = some (.map (some b))) (hm : MapI w b nn F) :
    Calls Tryz.prog 94 #[.string x.1, .string y.1, .pointer (some ⟨bx, 0, none⟩)] w (GrowsT w (.int .i64 (cfT (fun s => (F s).getD 0) x y))) := by
  have l1 := hm.look x.2
  have l2 := hm.look y.2
  have HZ : Hid (cfT (fun s => (F s).getD 0) x y = orZ (cmpZ (((F x.1).getD 0 : Nat) : Int) (((F y.1).getD 0 : Nat) : Int)) (cmpB x.1 y.1)) := hid rfl
  obtain ⟨x, hx⟩ := x
  obtain ⟨y, hy⟩ := y
  simp only at HZ l1 l2
  generalize cfT (fun s => (F s).getD 0) ⟨x, hx⟩ ⟨y, hy⟩ = z at *
  generalize (((F x).getD 0 : Nat) : Int) = n1 at *
  generalize (((F y).getD 0 : Nat) : Int) = n2 at *
  clear hm
  go_enter Tryz.func94, Tryz.ntmps94
  go_wp2_with fail
  with_reducible refine (lib_Compare _ _ _).mono ?_
  rintro e w1 ⟨rfl, rfl⟩
  go_wp2_with fail
  with_reducible refine (lib_CompareT _ _ _).mono ?_
  rintro e w1 ⟨rfl, rfl⟩
  generalize cmpZ n1 n2 = z1 at *
  generalize cmpB x y = z2 at *
  go_wp2_with fail
  with_reducible refine (lib_Or2 z1 z2 _ _ _ (by go_cell) (by go_cell)).mono ?_
  rintro e w1 ⟨rfl, rfl⟩
  go_wp2
  go_ret
  refine ⟨ret_int (by rw [HZ.out]), ?_⟩
  simp only [alloc_eq_grow, grow_grow, grow_drewT, grow_drewNT, drew_NT, World.drewN_drewN]
  exact ⟨0, _, rfl⟩

end Go.Proofs.YtabemneoobbnaaaGreatDoor

namespace Go.Proofs.YtabemneoobbnaaaGreatDoor
open Go.Shelf Go.RowKit Go.Lib Go.Sort

def subT (T : List ByteArray) : List Tyt := T.filterMap fun s => if h : s.size ≤ maxLen then some ⟨s, h⟩ else none
theorem subT_map {T : List ByteArray} (h : ∀ s ∈ T, s.size ≤ maxLen) : (subT T).map (·.1) = T := by
  induction T with
  | nil => rfl
  | cons s T ih =>
    have hs := h s (by simp)
    have ih := ih fun x hx => h x (by simp [hx])
    unfold subT at *
    rw [List.filterMap_cons, dif_pos hs]
    simp [ih]
theorem encT_map (T : List Tyt) : T.map encT = (T.map (·.1)).map Value.string := by simp [encT]
theorem holdsT {w : World} {g : Nat} {cur : Array Value} {e : TypeId} {T : List Tyt} (hb : w.heap[g]? = some (.cells cur e (0, 0))) (ht : cur.toList.take T.length = T.map encT) : Holds encT w g 0 T.toArray := by
  intro j hj
  have hj' : j < T.length := by simpa using hj
  refine ⟨?_, by simp [World.frozen?, hb]⟩
  have h1 : (cur.toList.take T.length)[j]? = (T.map encT)[j]? := by rw [ht]
  rw [List.getElem?_take_of_lt hj'] at h1
  simp only [World.cell?, hb, Nat.zero_add]
  simp only [Option.isSome_none, Bool.false_eq_true, if_false]
  rw [← Array.getElem?_toList, h1]
  simp [hj']
theorem grownT {w : World} {g n : Nat} (d : Array Tyt) (os : Array Obj) : w.grownBy (Go.Proofs.sortWorld encT w g 0 n d os) (some g) := by
  unfold Go.Proofs.sortWorld
  refine ⟨rfl, rfl, rfl, by simp, fun k hk hne => ?_⟩
  rw [heap_grow_old _ _ (by simpa using hk)]
  have : g ≠ k := fun e => hne (by rw [e])
  simp [putRow, mapBlock, Sort.ahead, Array.getElem?_modify, this]
theorem rowT {w : World} {base g cap n k : Nat} {e : TypeId} {cur : Array Value} (d : Array Tyt) (os : Array Obj) (hd : d.size = k) (hbase : base ≤ g) (hb : w.heap[g]? = some (.cells cur e (0, 0))) (h1 : k ≤ cap) (h2 : cap ≤ maxLen) (h3 : cur.size = cap * 1) :
    (Go.Proofs.sortWorld encT w g 0 n d os).ownsRow base e 1 (.slice (some ⟨g, 0, none⟩) k cap) k (d.toList.map encT) := by
  have hg : g < w.heap.size := (Array.getElem?_eq_some_iff.1 hb).1
  have hh : (Go.Proofs.sortWorld encT w g 0 n d os).heap[g]? = some (.cells (putCells encT 0 d cur) e (0, 0)) := by
    unfold Go.Proofs.sortWorld
    rw [heap_grow_old _ _ (by simpa using hg)]
    simp [putRow, mapBlock, Sort.ahead, Array.getElem?_modify, hb, onCells]
  refine ⟨by simp [hd], .inr ⟨g, cap, _, rfl, hbase, hh, h1, h2, by simp [putCells, h3], ?_⟩⟩
  rw [Nat.mul_one]
  apply List.ext_getElem?
  intro j
  by_cases hj : j < k
  · rw [List.getElem?_take_of_lt hj, Array.getElem?_toList]
    simp [putCells, hd, hj, show j < cur.size by omega, show j < d.size by omega]
  · rw [List.getElem?_take_eq_none (by omega), List.getElem?_eq_none (by simp; omega)]

/-- texts in the order of their numbers, which a call hands back -/
def OrdP (w : World) (F : ByteArray → Option Nat) (e : Ending) (w' : World) : Prop :=
  ∃ (a : Option Addr) (c : Nat) (O : List ByteArray), e = .returned (.slice a O.length c) ∧ O.Nodup ∧ (∀ s, s ∈ O ↔ (F s).isSome = true) ∧ O.Pairwise (fun x y => olt (fun s => (F s).getD 0) y x = false) ∧
    w'.ownsRow w.heap.size 9 1 (.slice a O.length c) O.length (O.map Value.string) ∧ Below w.heap.size w w'

theorem lib_KeysR (mb : Option Nat) (W : World) : Calls Tryz.prog 86 #[.map mb] W fun e w' => e = .returned (.func (.func 113) #[] #[.pointer (some ⟨W.heap.size, 0, none⟩)]) ∧ w' = W.alloc (.cells #[.map mb] 89) :=
  callsIn_wide.1 (AnyZ.keys_in Tryz.keysR Fence.wide 5 trivial rfl mb W)

set_option maxHeartbeats 1000000 in
theorem lib_SortedFuncT (bx kb b nn : Nat) (F : ByteArray → Option Nat) (X : List ByteArray) (w : World) (hx : w.cell? ⟨bx, 0, none⟩ = some (.map (some b))) (hk : w.cell? ⟨kb, 0, none⟩ = some (.map (some b))) (hm : MapI w b nn F) (hX : ∀ s, (F s).isSome = true ↔ s ∈ X) (hsz : ∀ s ∈ X, s.size ≤ maxLen) (hn : nn ≤ 268435456) (hxn : X.length ≤ 1073741824) :
    Calls Tryz.prog 93 #[.func (.func 113) #[] #[.pointer (some ⟨kb, 0, none⟩)], .func (.func 94) #[] #[.pointer (some ⟨bx, 0, none⟩)]] w (OrdP w F) := by
  have hxl : bx < w.heap.size := World.block_lt_of_cell? _ _ hx
  have hkl : kb < w.heap.size := World.block_lt_of_cell? _ _ hk
  have hbl : b < w.heap.size := hm.lt
  have hm0 := hm
  obtain ⟨D, hown, hno⟩ := hm
  have hsl := hown.size_le
  have hseq : SeqGives Fence.wide 2 Tryz.prog 113 #[.pointer (some ⟨kb, 0, none⟩)] encStr (fun ss => ss.Perm (strKeys D)) (Go.Maps.size D) w :=
    AnyZ.keys_gives (ρ := Tryz.keysR_ren) { Tryz.keysR with } Fence.wide _ trivial rfl (by omega) kb b nn D _ hkl hk hown
  have hcol := callsIn_wide.1 (AnyZ.collect_in Tryz.collectR Fence.wide 4 trivial trivial rfl (by omega) 113 #[.pointer (some ⟨kb, 0, none⟩)] trivial (enters_of Tryz.func113 (by kernel_rfl) rfl) _ _ (by unfold maxLen; omega) (by omega) w hseq)
  have HCOL : Hid (Calls Tryz.prog 111 #[.func (.func 113) #[] #[.pointer (some ⟨kb, 0, none⟩)]] w fun e w' => ∃ (v : Value) (T : List Tyt), e = .returned v ∧ (T.map (·.1)).Perm (setOfL X) ∧ w'.ownsRow w.heap.size 9 1 v T.length (T.map encT) ∧ Below w.heap.size w w') := hid (hcol.mono fun e w' ⟨v, ss, h1, h2, h3, _, h5⟩ => by
    have hks := keys_sorted' hown X (fun s => by
      have h := hno.has s
      rw [show keyU s = keyL s from rfl] at h
      rw [h]
      exact hX s) h2
    have hp : ss.Perm ((setOfL X).map listOf) := by rw [← hks]; exact (List.mergeSort_perm _ _).symm
    have hp2 : (ss.map bytesOf).Perm (setOfL X) := by
      have := hp.map bytesOf
      rw [List.map_map] at this
      have e1 : (bytesOf ∘ listOf) = id := funext fun x => bytesOf_listOf x
      rw [e1, List.map_id] at this
      exact this
    have hsT : ∀ s ∈ ss.map bytesOf, s.size ≤ maxLen := fun s hs => hsz s ((setOfL_mem_iff X s).1 (hp2.mem_iff.1 hs))
    have e2 := subT_map hsT
    have e3 : ss.length = (subT (ss.map bytesOf)).length := by have := congrArg List.length e2; simpa using this.symm
    have e4 : ss.map encStr = (subT (ss.map bytesOf)).map encT := by
      rw [encT_map, e2, List.map_map]
      apply List.map_congr_left
      intro l _
      simp [encStr, bytesOf]
    refine ⟨v, subT (ss.map bytesOf), h1, by rw [e2]; exact hp2, ?_, h5⟩
    rw [← e3, ← e4]
    exact h3)
  have HN : Hid (setOfL X).Nodup := hid ((setOfL_asc X).imp fun {a b} h e => by subst e; rw [sl_irrefl] at h; cases h)
  have HL : Hid ((setOfL X).length ≤ 1073741824) := hid (Nat.le_trans (setOfL_len X) hxn)
  have HMI := hid hm0
  have HX := hid hx
  have HXX := hid hX
  clear hown hno hsl hseq hcol hx hk hX hm0
  go_enter Tryz.func93, Tryz.ntmps93
  go_wp2_with fail
  with_reducible refine HCOL.out.mono ?_
  rintro e w1 ⟨v, T, rfl, hpT, hrow, hb1⟩
  have HB1 := hid hb1
  have HPT := hid hpT
  have HROW := hid hrow
  clear hb1 hpT hrow
  rcases HROW.out.2 with ⟨rfl, hz⟩ | ⟨gb, cap, cur, rfl, hbase, hgb, r1, r2, r3, r4⟩
  · have hT : T = [] := List.eq_nil_of_length_eq_zero hz
    subst hT
    have hx0 : setOfL X = [] := by have := HPT.out.length_eq; exact List.eq_nil_of_length_eq_zero (by simpa using this.symm)
    have HE : Hid (OrdP w F (.returned (.slice none 0 0)) w1) := hid (by
      refine ⟨none, 0, [], rfl, .nil, fun s => ?_, .nil, World.ownsRow_nil _ _ _ _, HB1.out⟩
      have h := setOfL_mem_iff X s
      rw [hx0] at h
      rw [HXX.out s, ← h])
    have hcon : Calls Tryz.prog 117 #[.slice none 0 0, .func (.func 94) #[] #[.pointer (some ⟨bx, 0, none⟩)]] w1 (fun e w' => e = .returned (.tuple #[]) ∧ w' = w1) := AnyF.slices_SortFunc_none { Tryz.sortStrF with } none 0 _ w1
    go_wp2_with fail
    with_reducible refine hcon.mono ?_
    rintro e w2 ⟨rfl, rfl⟩
    go_wp2
    go_ret
    exact HE.out
  · have hne : gb ≠ bx := by omega
    have hneb : gb ≠ b := by omega
    have hgl : gb < w1.heap.size := (Array.getElem?_eq_some_iff.1 hgb).1
    have hH : Holds encT w1 gb 0 T.toArray := holdsT hgb (by simpa using r4)
    have hts : T.toArray.size = T.length := by simp
    have hcmp : CmpLays1 Tryz.prog 94 #[.pointer (some ⟨bx, 0, none⟩)] encT (cfT fun s => (F s).getD 0) gb 0 T.toArray.size w1 := fun m os dk _ x y => by
      have hg := grownT (w := w1) (g := gb) (n := m) dk os
      exact sig_cmp bx b nn F x y _ ((World.cell?_of_block (hg.block bx (Nat.lt_of_lt_of_le hxl HB1.out.size) (fun e => hne (by injection e with e; exact e.symm)))).trans ((HB1.out.cell (p := ⟨bx, 0, none⟩) hxl).trans HX.out))
        (HMI.out.later ((hg.block b (Nat.lt_of_lt_of_le hbl HB1.out.size) (fun e => hneb (by injection e with e; exact e.symm))).trans (HB1.out.block b hbl)))
    have hcon : Calls Tryz.prog 117 #[.slice (some ⟨gb, 0, none⟩) T.length cap, .func (.func 94) #[] #[.pointer (some ⟨bx, 0, none⟩)]] w1 (fun e w' => e = .returned (.tuple #[]) ∧ ∃ d' n os, PermIn 0 T.length T.toArray d' ∧ SortedIn (Go.Proofs.ltOf (cfT fun s => (F s).getD 0)) 0 T.length d' ∧ w' = Go.Proofs.sortWorld encT w1 gb 0 n d' os) := by
      have h := Any.slices_SortFunc Tryz.sortStrF encT (fun _ => rfl) (cfT fun s => (F s).getD 0) (swoT _) 94 #[.pointer (some ⟨bx, 0, none⟩)] gb 0 cap T.toArray w1 (enters_of Tryz.func94 (by kernel_rfl) rfl) hcmp hH hgl (by have h1 := HPT.out.length_eq; have h2 := HL.out; rw [List.length_map] at h1; rw [hts]; omega)
      rw [hts] at h
      exact h
    clear hcmp
    go_wp2_with fail
    with_reducible refine hcon.mono ?_
    clear hcon
    rintro e w2 ⟨rfl, d, n2, os, hp, hs, hw2⟩
    have hds : d.size = T.length := by rw [hp.1]; simp
    have hrow2 := rowT (w := w1) (base := w.heap.size) (n := n2) d os hds hbase hgb r1 r2 r3
    have hg2 := grownT (w := w1) (g := gb) (n := n2) d os
    rw [← hw2] at hrow2 hg2
    clear hw2
    have hperm : d.toList.Perm T := by
      have h1 := hp.2.2
      rw [Array.extract_eq_self_of_le (by omega), Array.extract_eq_self_of_le (by simp)] at h1
      simpa using h1
    have hpo : (d.toList.map (·.1)).Perm (setOfL X) := (hperm.map _).trans HPT.out
    have hol : (d.toList.map (·.1)).length = T.length := by simp [hds]
    have HF : Hid (OrdP w F (.returned (.slice (some ⟨gb, 0, none⟩) T.length cap)) w2) := hid (by
      refine ⟨some ⟨gb, 0, none⟩, cap, d.toList.map (·.1), by rw [hol], hpo.nodup_iff.2 HN.out, fun s => ?_, ?_, ?_, ?_⟩
      · rw [hpo.mem_iff, setOfL_mem_iff, HXX.out s]
      · rw [List.pairwise_map, List.pairwise_iff_getElem]
        intro i j hi hj hij
        have hi' : i < d.size := by simpa using hi
        have hj' : j < d.size := by simpa using hj
        have h := hs i j (Nat.zero_le _) hij (by omega)
        rw [lt_cfT, getElem!_pos d i hi', getElem!_pos d j hj'] at h
        simpa using h
      · rw [hol, ← encT_map]
        exact hrow2
      · exact HB1.out.grown hg2 HB1.out.size (fun k hk => by cases hk; exact hbase))
    clear hp hs hrow2 hg2 hperm hpo hol
    go_wp2
    go_ret
    exact HF.out

end Go.Proofs.YtabemneoobbnaaaGreatDoor
