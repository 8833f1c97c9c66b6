/- DERIVED: THE SHELF's CONTRACTS AT THIS DUMP, IN PLAIN WORDS (tools/lay-plain.mjs out of 'YtaajpliifdlokaaGreatDoorShEL.lean', which tools/lay-shelf.mjs wrote): THE SAME DECLARATIONS UNDER THE SAME NAMES: 'import', 'namespace', 'open', 'def', 'theorem' AND NOTHING ELSE: no command of the shelf's: FOR A HAND-IN. Each laying: the table of numbers ('.._ren') and one theorem, a field a fact of the dump's own or the kernel's comparison; each contract: ONE APPLICATION. Sets of texts as maps; slices.Sorted(maps.Keys(m)) at such a set. A map with numbers as keys that is known whole: laid entry by entry, asked. No program in sight. Contract of explain.actions: the map of what operations do. Contract of lists.Own: a copy of a table that shares nothing. -/
import Derived.Shelf.SlIter.Nil
import Derived.Shelf.SortM.Plain
import Derived.Shelf.SortM.SortNone
import Derived.Shelf.Strconv.Clone
import Derived.Ground.GgzProg
import Derived.Ground.SlgmProg
import Derived.Test.YtaajpliifdlokaaGreatDoorProg
import Derived.Maps.OwnSet
import Derived.Maps.GroupsBeside
import Derived.Test.YtaajpliifdlokaaGreatDoorLnNraq
import Derived.Test.YtaajpliifdlokaaGreatDoorLnNraa
import Derived.ChangeMaps4
import Derived.MapKept
import Derived.Carry
import Derived.Test.YtaajpliifdlokaaGreatDoorLnNrab
import Derived.Laws.OwnMore
import Derived.Deep.RegionHeld3
import Derived.Test.YtaajpliifdlokaaGreatDoorLnNral
set_option linter.unusedVariables false
set_option linter.unusedSimpArgs false
namespace Go.Proofs
open Go.Shelf
def Tryz.keysB_ren : Go.Shelf.Ren := ⟨fun | 7 => 219 | 10 => 245 | n => n, fun | 23 => 231 | 26 => 9 | 3 => 4 | 28 => 234 | 0 => 0 | 27 => 233 | 33 => 150 | 4 => 4 | n => n, fun | n => n⟩
theorem Tryz.keysB : Go.Proofs.SlLaysZ.n7 Tryz.prog Tryz.keysB_ren := {
  mixed := by kernel_rfl
  f7 := ⟨Tryz.f219.name, by decide, Tryz.func219.trans (congrArg some (by kernel_rfl))⟩
  f10 := ⟨Tryz.f245.name, by decide, Tryz.func245.trans (congrArg some (by kernel_rfl))⟩
  t0 := Tryz.underlying0
  a0 := Tryz.isAgg0
  z0 := Tryz.sizeOf0
  v0 := Tryz.zeroValue0
  t4 := Tryz.underlying4
  a4 := Tryz.isAgg4
  z4 := Tryz.sizeOf4
  v4 := Tryz.zeroValue4
  t23 := Tryz.underlying231
  a23 := Tryz.isAgg231
  z23 := Tryz.sizeOf231
  v23 := Tryz.zeroValue231
  t26 := Tryz.underlying9
  a26 := Tryz.isAgg9
  z26 := Tryz.sizeOf9
  v26 := Tryz.zeroValue9
  t27 := Tryz.underlying233
  a27 := Tryz.isAgg233
  z27 := Tryz.sizeOf233
  v27 := Tryz.zeroValue233
  t28 := Tryz.underlying234
  a28 := Tryz.isAgg234
  z28 := Tryz.sizeOf234
  v28 := Tryz.zeroValue234
  t33 := Tryz.underlying150
  a33 := Tryz.isAgg150
  z33 := Tryz.sizeOf150
  v33 := Tryz.zeroValue150 }
def Tryz.sortedB_ren : Go.Shelf.Ren := ⟨fun | 6 => 218 | 8 => 243 | 9 => 244 | 11 => 260 | 13 => 90 | 12 => 261 | 23 => 144 | 24 => 145 | 14 => 274 | 15 => 275 | 16 => 276 | 17 => 277 | 18 => 278 | 19 => 279 | 20 => 280 | 21 => 281 | 22 => 282 | 25 => 287 | 26 => 200 | 27 => 201 | 28 => 288 | 29 => 289 | 30 => 290 | 31 => 293 | n => n, fun | 26 => 9 | 28 => 234 | 24 => 107 | 0 => 0 | 3 => 3 | 37 => 135 | 48 => 159 | 50 => 157 | 4 => 4 | 40 => 173 | 39 => 172 | 45 => 66 | 5 => 5 | 9 => 9 | 51 => 215 | 55 => 219 | 57 => 248 | 58 => 249 | 33 => 150 | n => n, fun | n => n⟩
theorem Tryz.sortedB : Go.Proofs.SlLaysZ.n6 Tryz.prog Tryz.sortedB_ren := {
  mixed := by kernel_rfl
  f6 := ⟨Tryz.f218.name, by decide, Tryz.func218.trans (congrArg some (by kernel_rfl))⟩
  f8 := ⟨Tryz.f243.name, by decide, Tryz.func243.trans (congrArg some (by kernel_rfl))⟩
  f11 := ⟨Tryz.f260.name, by decide, Tryz.func260.trans (congrArg some (by kernel_rfl))⟩
  t0 := Tryz.underlying0
  a0 := Tryz.isAgg0
  z0 := Tryz.sizeOf0
  v0 := Tryz.zeroValue0
  t24 := Tryz.underlying107
  a24 := Tryz.isAgg107
  z24 := Tryz.sizeOf107
  v24 := Tryz.zeroValue107
  t26 := Tryz.underlying9
  a26 := Tryz.isAgg9
  z26 := Tryz.sizeOf9
  v26 := Tryz.zeroValue9
  t28 := Tryz.underlying234
  a28 := Tryz.isAgg234
  z28 := Tryz.sizeOf234
  v28 := Tryz.zeroValue234
  i26 := by kernel_rfl }
def Tryz.sortB_ren : Go.Shelf.Ren := ⟨fun | 6 => 244 | 8 => 90 | 9 => 261 | 19 => 144 | 20 => 145 | 21 => 274 | 22 => 275 | 23 => 276 | 24 => 277 | 25 => 278 | 26 => 279 | 27 => 280 | 28 => 281 | 29 => 282 | 36 => 287 | 31 => 200 | 32 => 201 | 37 => 288 | 38 => 289 | 39 => 290 | 41 => 293 | n => n, fun | 27 => 107 | 29 => 9 | 3 => 3 | 32 => 135 | 26 => 107 | 0 => 0 | 44 => 159 | 46 => 157 | 4 => 4 | 36 => 173 | 35 => 172 | 41 => 66 | 5 => 5 | 9 => 9 | 53 => 215 | 57 => 219 | 63 => 248 | 64 => 249 | n => n, fun | n => n⟩
theorem Tryz.sortB : Go.Proofs.SlLaysM.n6 Tryz.prog Tryz.sortB_ren := {
 mixed := by kernel_rfl
 f6 := ⟨Tryz.f244.name, by decide, Tryz.func244.trans (congrArg some (by kernel_rfl))⟩
 f8 := Tryz.func90.trans (congrArg some (by kernel_rfl))
 f9 := ⟨Tryz.f261.name, by decide, Tryz.func261.trans (congrArg some (by kernel_rfl))⟩
 f19 := Tryz.func144.trans (congrArg some (by kernel_rfl))
 f20 := Tryz.func145.trans (congrArg some (by kernel_rfl))
 f21 := ⟨Tryz.f274.name, by decide, Tryz.func274.trans (congrArg some (by kernel_rfl))⟩
 f22 := ⟨Tryz.f275.name, by decide, Tryz.func275.trans (congrArg some (by kernel_rfl))⟩
 f23 := ⟨Tryz.f276.name, by decide, Tryz.func276.trans (congrArg some (by kernel_rfl))⟩
 f24 := ⟨Tryz.f277.name, by decide, Tryz.func277.trans (congrArg some (by kernel_rfl))⟩
 f25 := ⟨Tryz.f278.name, by decide, Tryz.func278.trans (congrArg some (by kernel_rfl))⟩
 f26 := ⟨Tryz.f279.name, by decide, Tryz.func279.trans (congrArg some (by kernel_rfl))⟩
 f27 := ⟨Tryz.f280.name, by decide, Tryz.func280.trans (congrArg some (by kernel_rfl))⟩
 f28 := ⟨Tryz.f281.name, by decide, Tryz.func281.trans (congrArg some (by kernel_rfl))⟩
 f29 := ⟨Tryz.f282.name, by decide, Tryz.func282.trans (congrArg some (by kernel_rfl))⟩
 f31 := Tryz.func200.trans (congrArg some (by kernel_rfl))
 f32 := Tryz.func201.trans (congrArg some (by kernel_rfl))
 f36 := ⟨Tryz.f287.name, by decide, Tryz.func287.trans (congrArg some (by kernel_rfl))⟩
 f37 := ⟨Tryz.f288.name, by decide, Tryz.func288.trans (congrArg some (by kernel_rfl))⟩
 f38 := ⟨Tryz.f289.name, by decide, Tryz.func289.trans (congrArg some (by kernel_rfl))⟩
 f39 := ⟨Tryz.f290.name, by decide, Tryz.func290.trans (congrArg some (by kernel_rfl))⟩
 f41 := ⟨Tryz.f293.name, by decide, Tryz.func293.trans (congrArg some (by kernel_rfl))⟩
 t0 := Tryz.underlying0
 a0 := Tryz.isAgg0
 z0 := Tryz.sizeOf0
 v0 := Tryz.zeroValue0
 t3 := Tryz.underlying3
 a3 := Tryz.isAgg3
 z3 := Tryz.sizeOf3
 v3 := Tryz.zeroValue3
 t4 := Tryz.underlying4
 a4 := Tryz.isAgg4
 z4 := Tryz.sizeOf4
 v4 := Tryz.zeroValue4
 t5 := Tryz.underlying5
 a5 := Tryz.isAgg5
 z5 := Tryz.sizeOf5
 v5 := Tryz.zeroValue5
 t9 := Tryz.underlying9
 a9 := Tryz.isAgg9
 z9 := Tryz.sizeOf9
 v9 := Tryz.zeroValue9
 t26 := Tryz.underlying107
 a26 := Tryz.isAgg107
 z26 := Tryz.sizeOf107
 v26 := Tryz.zeroValue107
 t27 := Tryz.underlying107
 a27 := Tryz.isAgg107
 z27 := Tryz.sizeOf107
 v27 := Tryz.zeroValue107
 t29 := Tryz.underlying9
 a29 := Tryz.isAgg9
 z29 := Tryz.sizeOf9
 v29 := Tryz.zeroValue9
 t32 := Tryz.underlying135
 a32 := Tryz.isAgg135
 z32 := Tryz.sizeOf135
 v32 := Tryz.zeroValue135
 t35 := Tryz.underlying172
 a35 := Tryz.isAgg172
 z35 := Tryz.sizeOf172
 v35 := Tryz.zeroValue172
 t36 := Tryz.underlying173
 a36 := Tryz.isAgg173
 z36 := Tryz.sizeOf173
 v36 := Tryz.zeroValue173
 t41 := Tryz.underlying66
 a41 := Tryz.isAgg66
 z41 := Tryz.sizeOf66
 v41 := Tryz.zeroValue66
 t44 := Tryz.underlying159
 a44 := Tryz.isAgg159
 z44 := Tryz.sizeOf159
 v44 := Tryz.zeroValue159
 t46 := Tryz.underlying157
 a46 := Tryz.isAgg157
 z46 := Tryz.sizeOf157
 v46 := Tryz.zeroValue157
 t53 := Tryz.underlying215
 a53 := Tryz.isAgg215
 z53 := Tryz.sizeOf215
 v53 := Tryz.zeroValue215
 t57 := Tryz.underlying219
 a57 := Tryz.isAgg219
 z57 := Tryz.sizeOf219
 v57 := Tryz.zeroValue219
 t63 := Tryz.underlying248
 a63 := Tryz.isAgg248
 z63 := Tryz.sizeOf248
 v63 := Tryz.zeroValue248
 t64 := Tryz.underlying249
 a64 := Tryz.isAgg249
 z64 := Tryz.sizeOf249
 v64 := Tryz.zeroValue249 }
def Tryz.layCloneT_ren : Go.Shelf.Ren := ⟨fun | 316 => 221 | n => n, fun | 9 => 9 | 3 => 3 | 4 => 4 | 37 => 261 | 0 => 0 | 127 => 262 | 5 => 5 | n => n, fun | n => n⟩
theorem Tryz.layCloneT : Go.Proofs.LaysM.n316 Tryz.prog Tryz.layCloneT_ren := {
  mixed := by kernel_rfl
  f316 := Tryz.func221.trans (congrArg some (by kernel_rfl))
  t0 := Tryz.underlying0
  a0 := Tryz.isAgg0
  z0 := Tryz.sizeOf0
  v0 := Tryz.zeroValue0
  t3 := Tryz.underlying3
  a3 := Tryz.isAgg3
  z3 := Tryz.sizeOf3
  v3 := Tryz.zeroValue3
  t4 := Tryz.underlying4
  a4 := Tryz.isAgg4
  z4 := Tryz.sizeOf4
  v4 := Tryz.zeroValue4
  t9 := Tryz.underlying9
  a9 := Tryz.isAgg9
  z9 := Tryz.sizeOf9
  v9 := Tryz.zeroValue9
  t37 := Tryz.underlying261
  a37 := Tryz.isAgg261
  z37 := Tryz.sizeOf261
  v37 := Tryz.zeroValue261
  t127 := Tryz.underlying262
  a127 := Tryz.isAgg262
  z127 := Tryz.sizeOf262
  v127 := Tryz.zeroValue262
  t5 := Tryz.underlying5
  a5 := Tryz.isAgg5
  z5 := Tryz.sizeOf5
  v5 := Tryz.zeroValue5
  i0 := by kernel_rfl
  i3 := by kernel_rfl
  i4 := by kernel_rfl
  i5 := by kernel_rfl
  i9 := by kernel_rfl
  i37 := by kernel_rfl
  i127 := by kernel_rfl }
end Go.Proofs

namespace Go.Proofs.YtaajpliifdlokaaGreatDoor
open Go.RowKit Go.Shelf
def keyB (s : ByteArray) : Lit := .string s.data.toList
theorem keyB_inj {s t : ByteArray} (h : keyB s = keyB t) : s = t := by
  obtain ⟨⟨s⟩⟩ := s
  obtain ⟨⟨t⟩⟩ := t
  simp [keyB] at h
  subst h
  rfl
theorem law_strB : Go.Maps.Keyed Tryz.prog 9 := Go.Maps.string_keyed Tryz.underlying9
theorem key_strB {s : ByteArray} (hs : s.size ≤ maxLen) : keyOf Tryz.prog 9 (.string s) = some (keyB s) := Go.WideMaps.keyOf_string_mk Tryz.underlying9 hs
theorem sortsB (m : Nat) : Go.Proofs.AnyZ.SortsIn Tryz.prog Tryz.sortedB_ren Fence.wide m :=
  ⟨fun blk off cap ss W hH hblk hsz => callsIn_wide.2 (AnyM.slices_Sort_string Tryz.sortB blk off cap ss W hH hblk hsz),
   fun p cap W => callsIn_wide.2 (AnyM.slices_Sort_string_none Tryz.sortB p cap W)⟩
structure SetOk (D : DataW Unit) (X : List ByteArray) : Prop where
  map : Go.Maps.IsMap D
  has : ∀ s, Go.Maps.has D (keyB s) = true ↔ s ∈ X
theorem SetOk.start : SetOk (.map []) [] := ⟨Go.Maps.isMap_empty, fun s => by simp [Go.Maps.has]⟩
theorem SetOk.put {D : DataW Unit} {X : List ByteArray} (h : SetOk D X) (s : ByteArray) (d : DataW Unit) : SetOk (D.put (keyB s) d) (X ++ [s]) := by
  have hk : Go.WideAt.IsKeyLit (keyB s) := by unfold keyB Go.WideAt.IsKeyLit; trivial
  refine ⟨h.map.put _ _, fun t => ?_⟩
  by_cases e : t = s
  · subst e
    rw [Go.Maps.has_put_same h.map hk]
    simp
  · rw [Go.Maps.has_put_other (fun e2 => e (keyB_inj e2)), h.has t]
    simp [e]
def MapS (w : World) (b n : Nat) (X : List ByteArray) : Prop := ∃ D : DataW Unit, w.ownsMap Tryz.prog 9 (plainElem (H := Unit) Tryz.prog 4) b n D ∧ SetOk D X
section
variable {w w' : World} {b n : Nat} {X : List ByteArray}
theorem MapS.later (h : MapS w b n X) (hk : w'.heap[b]? = w.heap[b]?) : MapS w' b n X := by
  obtain ⟨D, ⟨es, clock, hb, Ft, hs, hD⟩, ho⟩ := h
  exact ⟨D, ⟨es, clock, hk.trans hb, Ft, hs, hD⟩, ho⟩
theorem MapS.lt (h : MapS w b n X) : b < w.heap.size := by
  obtain ⟨D, hown, ho⟩ := h
  exact hown.lt
theorem MapS.made (w : World) : MapS (w.alloc (.map #[] 0)) w.heap.size 0 [] := ⟨_, World.ownsMap_made w Tryz.prog 9 _, SetOk.start⟩
theorem MapS.put (h : MapS w b n X) {s : ByteArray} (hs : s.size ≤ maxLen) (hn : n < maxLen) : ∃ w', (Instr.mapUpdate 231 (.map (some b)) (.string s) (.bool true)).run Tryz.prog w = .ok () w' ∧ MapS w' b (n + 1) (X ++ [s]) ∧ w.grownBy w' (some b) := by
  obtain ⟨D, hown, ho⟩ := h
  obtain ⟨w', h1, h2, h3⟩ := hown.update law_strB Tryz.underlying231 hn (key_strB hs) (plainElem_bool Tryz.underlying4 true)
  exact ⟨w', h1, ⟨_, h2, ho.put s _⟩, h3⟩
end
theorem lib_KeysB (mb : Option Nat) (W : World) : Calls Tryz.prog 219 #[.map mb] W fun e w' => e = .returned (.func (.func 245) #[] #[.pointer (some ⟨W.heap.size, 0, none⟩)]) ∧ w' = W.alloc (.cells #[.map mb] 231) :=
  callsIn_wide.1 (AnyZ.keys_in Tryz.keysB Fence.wide 5 trivial rfl mb W)
set_option maxHeartbeats 1000000 in
theorem lib_SortedB (b nn : Nat) (D0 : DataW Unit) (R : Value → Option (DataW Unit × List MemPlace)) (w : World) (hown : w.ownsMap Tryz.prog 9 R b nn D0) (hmax : Go.Maps.size D0 ≤ 268435456) :
    Calls Tryz.prog 218 #[.func (.func 245) #[] #[.pointer (some ⟨w.heap.size, 0, none⟩)]] (w.alloc (.cells #[.map (some b)] 231)) fun e w' => ∃ (v : Value) (ss : List (List UInt8)), e = .returned v ∧ ss.Perm (strKeys D0) ∧
      w'.ownsRow (w.alloc (.cells #[.map (some b)] 231)).heap.size 9 1 v ss.length ((ss.mergeSort (fun x y => decide (x ≤ y))).map encStr) ∧ Below (w.alloc (.cells #[.map (some b)] 231)).heap.size (w.alloc (.cells #[.map (some b)] 231)) w' := by
  have hbl := hown.lt
  have hseq : SeqGives Fence.wide 2 Tryz.prog 245 #[.pointer (some ⟨w.heap.size, 0, none⟩)] encStr (fun ss => ss.Perm (strKeys D0)) (Go.Maps.size D0) (w.alloc (.cells #[.map (some b)] 231)) :=
    AnyZ.keys_gives (ρ := Tryz.keysB_ren) { Tryz.keysB with } Fence.wide _ trivial rfl (by omega) w.heap.size b nn D0 _ (by simp) (by simp) (by
      obtain ⟨es, clock, hb, Ft, hs, hD⟩ := hown
      exact ⟨es, clock, (Below.heap_alloc _ _ b hbl).trans hb, Ft, hs, hD⟩)
  refine (callsIn_wide.1 (AnyZ.sorted_in Tryz.sortedB Fence.wide 5 trivial trivial trivial trivial rfl (by omega) (sortsB _) (enters_of Tryz.func244 (by kernel_rfl) rfl) 245 #[.pointer (some ⟨w.heap.size, 0, none⟩)] trivial (enters_of Tryz.func245 (by kernel_rfl) rfl) _ _ (by unfold maxLen; omega) (by omega) _ hseq)).mono ?_
  rintro e w' ⟨v, ss, h1, h2, h3, -, h4⟩
  exact ⟨v, ss, h1, h2, h3, h4⟩
theorem set_sorted {D : DataW Unit} {X : List ByteArray} (hg : SetOk D X) {w : World} {R : Value → Option (DataW Unit × List MemPlace)} {b nn : Nat} (hown : w.ownsMap Tryz.prog 9 R b nn D) {ss : List (List UInt8)} (hp : ss.Perm (strKeys D)) :
    ss.mergeSort (fun x y => decide (x ≤ y)) = (setOfL X).map listOf := by
  obtain ⟨es, hD, hpw, -⟩ := hown.entries law_strB
  obtain ⟨es', hD', hko⟩ := hown.keysOf
  obtain rfl : es = es' := by rw [hD] at hD'; simpa using hD'
  subst hD
  have hasc := setOfL_asc X
  have hpair : ((setOfL X).map listOf).Pairwise (fun x y => x < y) := by
    refine List.pairwise_map.2 (hasc.imp fun {a b} h => ?_)
    rw [sl_lt, ByteArray.toList_eq, ByteArray.toList_eq] at h
    simpa [listOf] using h
  have hperm : ((setOfL X).map listOf).Perm (strKeys (.map es)) := perm_strKeys hpw (fun p hp => by obtain ⟨v, hv⟩ := hko p hp; obtain ⟨x, _, hx, _⟩ := Maps.keyOf_str Tryz.underlying9 hv; exact ⟨x, hx⟩)
    (hpair.imp fun h => fun e => by subst e; exact List.lt_irrefl _ h) (fun x => by
      have h1 := hg.has ⟨⟨x⟩⟩
      have h2 : keyB ⟨⟨x⟩⟩ = .string x := rfl
      rw [h2] at h1
      rw [h1, ← setOfL_mem_iff, List.mem_map]
      constructor
      · rintro ⟨a, ha, rfl⟩
        exact ha
      · intro h
        exact ⟨⟨⟨x⟩⟩, h, rfl⟩)
  have h3 := mergeSort_of_perm (hp.trans hperm.symm)
  refine h3.trans (List.mergeSort_of_pairwise (hpair.imp fun h => by simp only [leB, decide_eq_true_eq]; exact List.le_of_lt h))
theorem set_Sorted (b nn : Nat) (X : List ByteArray) (w : World) (h : MapS w b nn X) (hn : nn ≤ 268435456) :
    Calls Tryz.prog 218 #[.func (.func 245) #[] #[.pointer (some ⟨w.heap.size, 0, none⟩)]] (w.alloc (.cells #[.map (some b)] 231)) (GivesS (w.alloc (.cells #[.map (some b)] 231)) (setOfL X)) := by
  obtain ⟨D, hown, ho⟩ := h
  refine (lib_SortedB b nn D _ w hown (Nat.le_trans hown.size_le hn)).mono ?_
  rintro e w' ⟨v, ss, rfl, hp, hrow, hb⟩
  have h1 := set_sorted ho hown hp
  have hl : ss.length = (setOfL X).length := by simpa using congrArg List.length h1
  have h2 : ((setOfL X).map listOf).map encStr = (setOfL X).map Value.string := by
    rw [List.map_map]
    rfl
  rw [h1, hl, h2] at hrow
  obtain ⟨a, c, rfl⟩ := own_slice hrow
  exact ⟨a, c, rfl, hrow, hb⟩
end Go.Proofs.YtaajpliifdlokaaGreatDoor

namespace Go.Proofs.YtaajpliifdlokaaGreatDoor
open Go.RowKit Go.ChangeMaps
section
variable {P : Program} {w : World} {t k e : TypeId} {q : IntKind} {b : Nat} {es : Array MapEntry} {clock : Nat} {z : Int}
def findI (q : IntKind) (z : Int) (es : Array MapEntry) : Option (Option (Nat × Value)) := Instr.findNow (.int q) (.int q z) es.toList 0
theorem known_update (ht : P.underlying t = some (.map k e)) (hk : P.underlying k = some (.int q)) (hb : w.heap[b]? = some (.map es clock)) (h1 : findI q z es = some none) (v : Value) :
    (Instr.mapUpdate t (.map (some b)) (.int q z) v).run P w = .ok () (setBlock w b (.map (es.push ⟨.int q z, v, clock⟩) (clock + 1))) := by
  have hkey : MapKept.IsKey (.int q) (.int q z) := rfl
  simp [Instr.mapUpdate, run_underlying ht, MapKept.run_getObj_map hb, MapKept.run_checkKey hk hkey, MapKept.run_findKey hk h1, MapKept.run_setObj_map _ hb, Result.andThen, setBlock]
theorem known_look {i : Nat} {v : Value} (ok : Bool) (ht : P.underlying t = some (.map k e)) (hk : P.underlying k = some (.int q)) (hb : w.heap[b]? = some (.map es clock)) (h1 : findI q z es = some (some (i, v))) :
    (Instr.lookup t (.map (some b)) (.int q z) ok).run P w = .ok (if ok then .tuple #[v, .bool true] else v) w := by
  have hkey : MapKept.IsKey (.int q) (.int q z) := rfl
  simp [Instr.lookup, run_underlying ht, MapKept.run_getObj_map hb, MapKept.run_checkKey hk hkey, MapKept.run_findKey hk h1, Result.andThen]
theorem known_put (ht : P.underlying t = some (.map k e)) (hk : P.underlying k = some (.int q)) (hb : w.heap[b]? = some (.map es clock)) (h1 : findI q z es = some none) (v : Value) :
    ∃ w', (Instr.mapUpdate t (.map (some b)) (.int q z) v).run P w = .ok () w' ∧ w'.heap[b]? = some (.map (es.push ⟨.int q z, v, clock⟩) (clock + 1)) ∧ w'.heap.size = w.heap.size ∧ ∀ B w0, B ≤ b → Below B w0 w → Below B w0 w' := by
  have hlt : b < w.heap.size := (Array.getElem?_eq_some_iff.1 hb).1
  refine ⟨_, known_update ht hk hb h1 v, by simp [setBlock, hlt], by simp [setBlock], fun B w0 hB h => ⟨h.os, h.tape, h.output, by simpa [setBlock] using h.size, fun i hi => ?_⟩⟩
  rw [show (setBlock w b (.map (es.push ⟨.int q z, v, clock⟩) (clock + 1))).heap[i]? = w.heap[i]? from by simp [setBlock, Array.getElem?_setIfInBounds, show ¬ b = i by omega]]
  exact h.block i hi
theorem setBlock_other {i : Nat} (hi : i ≠ b) (o : Obj) : (setBlock w b o).heap[i]? = w.heap[i]? := by simp [setBlock, Array.getElem?_setIfInBounds, Ne.symm hi]
theorem setBlock_size (o : Obj) : (setBlock w b o).heap.size = w.heap.size := by simp [setBlock]
theorem Below.setBlock {B : Nat} {w0 : World} (h : Below B w0 w) (hb : B ≤ b) (o : Obj) : Below B w0 (setBlock w b o) :=
  ⟨h.os, h.tape, h.output, by rw [setBlock_size]; exact h.size, fun i hi => (setBlock_other (by omega) o).trans (h.block i hi)⟩
end
end Go.Proofs.YtaajpliifdlokaaGreatDoor

namespace Go.Proofs.YtaajpliifdlokaaGreatDoor
open Go.RowKit
def actV (c : Bool) (t m : Int) (f : Nat) : Value := .agg #[.bool c, .int .i64 t, .int .i64 m, .func (.func f) #[] #[]]
def actE (k : Int) (v : Value) (n : Nat) : MapEntry := ⟨.int .i64 k, v, n⟩
def actM : Array MapEntry := #[actE 1 (actV true 1024 0 246) 0, actE 2 (actV true 0 0 246) 1, actE 3 (actV false 0 64 247) 2, actE 4 (actV false 0 0 248) 3, actE 5 (actV true 0 0 251) 4]
def Acts (w w' : World) (b : Nat) : Prop := w.heap.size ≤ b ∧ w'.heap[b]? = some (.map actM 5) ∧ Below w.heap.size w w'
set_option maxRecDepth 100000 in
set_option maxHeartbeats 1000000 in
theorem expl_actions (w : World) : Calls Tryz.prog 220 #[] w (fun e w' => ∃ b, e = .returned (.map (some b)) ∧ Acts w w' b) := by
  have hm0 : (w.alloc (.map #[] 0)).heap[w.heap.size]? = some (.map #[] 0) := heap_alloc_new w _
  have hb0 : Below w.heap.size w (w.alloc (.map #[] 0)) := (Below.refl _ _).alloc (Nat.le_refl _) _
  have ht := Tryz.underlying238
  have hk := Tryz.underlying3
  obtain ⟨W1, r1, m1, -, b1⟩ := known_put (z := 1) ht hk hm0 rfl (actV true 1024 0 246)
  have hb1 := b1 _ _ (Nat.le_refl _) hb0
  obtain ⟨W2, r2, m2, -, b2⟩ := known_put (z := 2) ht hk m1 rfl (actV true 0 0 246)
  have hb2 := b2 _ _ (Nat.le_refl _) hb1
  obtain ⟨W3, r3, m3, -, b3⟩ := known_put (z := 3) ht hk m2 rfl (actV false 0 64 247)
  have hb3 := b3 _ _ (Nat.le_refl _) hb2
  obtain ⟨W4, r4, m4, -, b4⟩ := known_put (z := 4) ht hk m3 rfl (actV false 0 0 248)
  have hb4 := b4 _ _ (Nat.le_refl _) hb3
  obtain ⟨W5, r5, m5, -, b5⟩ := known_put (z := 5) ht hk m4 rfl (actV true 0 0 251)
  have HB5 := hid (b5 _ _ (Nat.le_refl _) hb4)
  have HM5 := hid m5
  clear b1 b2 b3 b4 b5 m1 m2 m3 m4 m5 hb0 hb1 hb2 hb3 hb4 ht hk hm0
  unfold actV at r1 r2 r3 r4 r5
  have hmm := @run_makeMap Tryz.prog
  go_enter Tryz.func220, Tryz.ntmps220
  go_wp2
  go_ret
  exact ⟨_, rfl, Nat.le_refl _, HM5.out, HB5.out⟩
end Go.Proofs.YtaajpliifdlokaaGreatDoor

namespace Go.Proofs.YtaajpliifdlokaaGreatDoor
open Go.RowKit
theorem flat_set1 (n : Nat) (f f' : Nat → Nat → Value) (i : Nat) (hi : i < n) (u : Value) (h0 : f' i 0 = f i 0) (h1 : f' i 1 = u) (hf : ∀ k, k ≠ i → f' k = f k) : (flatK 2 n f).set (i * 2 + 1) u = flatK 2 n f' := by
  apply List.ext_getElem?
  intro m
  by_cases hm : m < n * 2
  · have e : m = m / 2 * 2 + m % 2 := by omega
    have hk : m / 2 < n := by omega
    have a1 := flatK_at (k := 2) (f := f') hk (Nat.mod_lt m (by omega))
    have a2 := flatK_at (k := 2) (f := f) hk (Nat.mod_lt m (by omega))
    rw [← e] at a1 a2
    rw [a1, List.getElem?_set]
    by_cases hmi : i * 2 + 1 = m
    · have e2 : m / 2 = i := by omega
      have e3 : m % 2 = 1 := by omega
      rw [if_pos hmi, if_pos (by rw [flatK_len]; omega), e2, e3, h1]
    · rw [if_neg hmi, a2]
      by_cases hki : m / 2 = i
      · have e3 : m % 2 = 0 := by omega
        rw [hki, e3, h0]
      · rw [hf _ hki]
  · rw [List.getElem?_eq_none (by rw [List.length_set, flatK_len]; omega), List.getElem?_eq_none (by rw [flatK_len]; omega)]
structure OwnAt (W : World) (base : Nat) (e : TypeId) (v : Value) (L q : Nat) (xs : List Co) (cw cv : Nat → Value) : Prop where
  row : W.ownsRow base e 2 v L (flatK 2 L (coF xs cw))
  low : base ≤ W.heap.size
  kids : ∀ i, i < q → RdCl W (Own W base v) (cw i) (xs.getD i Co.z).cells
  rest : ∀ i, q ≤ i → cw i = cv i
section
variable {W W' : World} {base : Nat} {e : TypeId} {v : Value} {L q : Nat} {xs : List Co} {cw cv : Nat → Value}
theorem OwnAt.later (h : OwnAt W base e v L q xs cw cv) (hb : Below W.heap.size W W') : OwnAt W' base e v L q xs cw cv :=
  ⟨own_later h.row hb, Nat.le_trans h.low hb.size, fun i hi => ((h.kids i hi).keep fun p hp => hb.cell (p := p) hp.2.1).more fun b hb' => ⟨hb'.1, Nat.lt_of_lt_of_le hb'.2.1 hb.size, hb'.2.2⟩, h.rest⟩
theorem OwnAt.put {g cap : Nat} (h : OwnAt W base e (.slice (some ⟨g, 0, none⟩) L cap) L q xs cw cv) (hq : q < L) {z : Value} {ys : List Co} (hy : ys.getD q Co.z = ⟨(xs.getD q Co.z).name, (ys.getD q Co.z).cells⟩) (hyo : ∀ i, i ≠ q → ys.getD i Co.z = xs.getD i Co.z)
    (hz : RdCl W (fun b => base ≤ b ∧ b < W.heap.size ∧ b ≠ g) z (ys.getD q Co.z).cells) :
    OwnAt (W.setCell ⟨g, q * 2 + 1, none⟩ z) base e (.slice (some ⟨g, 0, none⟩) L cap) L (q + 1) ys (fun i => if i = q then z else cw i) cv := by
  have hc : ∀ p : Addr, p.block ≠ g → (W.setCell ⟨g, q * 2 + 1, none⟩ z).cell? p = W.cell? p := fun p hp => World.cell?_setCell_other _ _ _ _ (by intro e; subst e; exact hp rfl)
  refine ⟨?_, by simpa using h.low, fun i hi => ?_, fun i hi => ?_⟩
  · rw [← flat_set1 L (coF xs cw) _ q hq z ?_ ?_ ?_]
    · exact (h.row.stored (q * 2 + 1) z).1
    · simp only [coF, two]
      rw [hy]
    · simp [coF, two]
    · intro k hk
      simp only [coF, if_neg hk]
      rw [hyo k hk]
  · by_cases hiq : i = q
    · subst hiq
      rw [if_pos rfl]
      refine (hz.keep fun p hp => hc p hp.2.2).more fun b hb => ⟨hb.1, by simpa using hb.2.1, fun e => hb.2.2 ?_⟩
      simp only [Value.ownBlock, Option.some.injEq] at e
      exact e.symm
    · rw [if_neg hiq, hyo i hiq]
      refine ((h.kids i (by omega)).keep fun p hp => hc p fun e => hp.2.2 ?_).more fun b hb => ⟨hb.1, by simpa using hb.2.1, hb.2.2⟩
      rw [e]
      rfl
  · rw [if_neg (by omega)]
    exact h.rest i (by omega)
theorem OwnAt.done (h : OwnAt W base e v L L xs cw cv) (hl : L = xs.length) : CoSt W base e v xs := by
  subst hl
  exact ⟨cw, h.row, h.low, h.kids⟩
end
theorem ycells {g cap L : Nat} {W : World} {base : Nat} {e : TypeId} {f : Nat → Nat → Value} (h : W.ownsRow base e 2 (.slice (some ⟨g, 0, none⟩) L cap) L (flatK 2 L f)) {i : Nat} (hi : i < L) :
    W.cell? ⟨g, i * 2, none⟩ = some (f i 0) ∧ W.cell? ⟨g, i * 2 + 1, none⟩ = some (f i 1) := by
  refine ⟨?_, ?_⟩
  · rw [h.cellAt _ (by omega)]
    exact flatK_at (j := 0) hi (by omega)
  · rw [h.cellAt _ (by omega)]
    exact flatK_at (j := 1) hi (by omega)
set_option maxRecDepth 100000 in
set_option maxHeartbeats 4000000 in
theorem lists_Own (id : Int) (nm : ByteArray) (v : Value) (xs : List Co) (B : Nat) (w : World) (hv : RdCo w (· < B) v xs) (hB : B ≤ w.heap.size) (hl : xs.length ≤ 1048576) (hc : ∀ x ∈ xs, x.cells.length ≤ 1048576) :
  Calls Tryz.prog 212 #[.agg #[.int .i64 id, .string nm, v]] w (NewT w id nm xs) := by
 obtain ⟨cv, hcv, hcl⟩ := hv
 have HCL := hid hcl
 have h1 : ∀ i, i < xs.length → ∀ j, j < 2 → (coF xs cv i j).oneCell' = true := fun i hi j hj => by
  rcases (show j = 0 ∨ j = 1 by omega) with rfl | rfl
  ·rfl
  ·obtain ⟨a, c, e, -⟩ := hcl i hi
   show (cv i).oneCell' = true
   rw [e]
   rfl
 have HK1 := hid (fun W (hW : Below w.heap.size w W) => clone_cols (· < B) v xs.length (coF xs cv) W (hcv.keep fun p (hp : p.block < B) => hW.cell (p := p) (by omega)) (fun b (hb : b < B) => by have := hW.size; omega) h1 (by omega))
 have HK2 := hid (fun q (hq : q < xs.length) W (hW : Below w.heap.size w W) => clone_cells (· < B) (cv q) (xs.getD q Co.z).cells.length (clF (xs.getD q Co.z).cells) W ((hcl q hq).keep fun p (hp : p.block < B) => hW.cell (p := p) (by omega)) (fun b (hb : b < B) => by have := hW.size; omega) (fun i _ j hj => by
  rcases (show j = 0 ∨ j = 1 by omega) with rfl | rfl <;> rfl) (by have := hc _ (getD_mem hq Co.z); omega))
 obtain ⟨va, vc, rfl, hvc, hvm, -⟩ := hcv
 clear hcl h1 hc
 unfold maxLen at hvm
 generalize hxl : xs.length = L at *
 have HXL := hid hxl
 clear hxl
 have HX0 := hid ((BoxN.new w #[.int .i64 id, .string nm, .slice va L vc] 51).alloc (.cells #[.int .i64 0, .string ⟨#[]⟩, .slice none 0 0] 51))
 have hy0 := BoxN.new (w.alloc (.cells #[.int .i64 id, .string nm, .slice va L vc] 51)) #[.int .i64 0, .string ⟨#[]⟩, .slice none 0 0] 51
 rw [World.size_alloc] at hy0
 have HY0 := hid hy0
 have HB0 := hid (((Below.refl w.heap.size w).alloc (Nat.le_refl _) (.cells #[.int .i64 id, .string nm, .slice va L vc] 51)).alloc (by simp) (.cells #[.int .i64 0, .string ⟨#[]⟩, .slice none 0 0] 51))
 have hz0' : ((w.alloc (.cells #[.int .i64 id, .string nm, .slice va L vc] 51)).alloc (.cells #[.int .i64 0, .string ⟨#[]⟩, .slice none 0 0] 51)).heap.size = w.heap.size + 2 := by simp
 have x2 := HX0.out.cell 2 rfl
 clear hy0
 go_enter Tryz.func212, Tryz.ntmps212
 generalize hLA : Code.loop _ = LA
 go_wp2_with fail
 generalize (w.alloc (.cells #[.int .i64 id, .string nm, .slice va L vc] 51)).alloc (.cells #[.int .i64 0, .string ⟨#[]⟩, .slice none 0 0] 51) = W0 at *
 with_reducible refine (HK1.out W0 HB0.out).mono ?_
 rintro e w1 ⟨a1, c1, rfl, hown1, hb1⟩
 have hz1' := hb1.size
 have HB1 := hid (HB0.out.trans (hb1.mono (by omega)))
 have HX1 := hid (HX0.out.below hb1 (by omega))
 have HY1 := hid (HY0.out.below hb1 (by omega))
 have HX2 := hid (HX1.out.set 2 (.slice a1 L c1))
 have HY2 := hid (HY1.out.other (p := ⟨w.heap.size, 2, none⟩) (by show w.heap.size ≠ w.heap.size + 1; omega) (.slice a1 L c1))
 have HB2 := hid (HB1.out.setCell (p := ⟨w.heap.size, 2, none⟩) (Nat.le_refl _) (.slice a1 L c1))
 have HO2 : Hid (OwnAt (w1.setCell ⟨w.heap.size, 2, none⟩ (.slice a1 L c1)) W0.heap.size 55 (.slice a1 L c1) L 0 xs cv cv) := hid ⟨ownsRow_setCell_below hown1 (by show w.heap.size < W0.heap.size; omega) _, by simp; omega, fun i hi => absurd hi (by omega), fun i _ => rfl⟩
 have hz2' : (w1.setCell ⟨w.heap.size, 2, none⟩ (.slice a1 L c1)).heap.size = w1.heap.size := by simp
 clear x2 hb1 hown1 HK1
 have x2 := HX1.out.cell 2 rfl
 have xf2 := HX1.out.frozen 2
 have y2 := HX2.out.cell 2 rfl
 go_wp2_with fail
 generalize w1.setCell ⟨w.heap.size, 2, none⟩ (.slice a1 L c1) = W2 at *
 subst hLA
 clear x2 xf2 y2 HX1 HY1
 go_loopg [12] L (fun N i wr => ∃ (q : Nat) (cw : Nat → Value), i = .int .i64 (q : Int) ∧ q + N = L ∧ Hid (Below w.heap.size w wr) ∧ Hid (BoxN wr w.heap.size 51 #[.int .i64 id, .string nm, .slice a1 L c1]) ∧ Hid (BoxN wr (w.heap.size + 1) 51 #[.int .i64 0, .string ⟨#[]⟩, .slice none 0 0]) ∧ Hid (OwnAt wr W0.heap.size 55 (.slice a1 L c1) L q xs cw cv))
 case atStart => exact ⟨0, cv, rfl, by omega, HB2, HX2, HY2, HO2⟩
 case round =>
  obtain ⟨q, cw, rfl, hq, HB, HX, HY, HO⟩ := hrel
  have hlo := HO.out.low
  by_cases hp : 0 < gk
  ·have hqL : q < L := by omega
   obtain ⟨g, cap, hg, hgb, hglt⟩ := HO.out.row.form (by omega)
   obtain ⟨rfl, -, rfl⟩ := Value.slice.inj hg
   clear hg
   obtain ⟨k0, k1⟩ := ycells HO.out.row hqL
   have hrest := HO.out.rest q (Nat.le_refl _)
   simp only [coF, two] at k0 k1
   rw [hrest] at k1
   have HK2q := hid (HK2.out q hqL)
   obtain ⟨ca, ck, hcq, -, -, -⟩ := HCL.out q hqL
   rw [hcq] at k1 HK2q
   have HGC := hid hcq
   have hx2 := HX.out.cell 2 rfl
   have HOC := hid ((HO.out.later ((Below.refl _ _).alloc (Nat.le_refl _) (.cells #[.string (xs.getD q Co.z).name, .slice ca (xs.getD q Co.z).cells.length ck] 55))))
   have HCB := hid (BoxN.new wr #[.string (xs.getD q Co.z).name, .slice ca (xs.getD q Co.z).cells.length ck] 55)
   have HXC := hid (HX.out.alloc (.cells #[.string (xs.getD q Co.z).name, .slice ca (xs.getD q Co.z).cells.length ck] 55))
   have HYC := hid (HY.out.alloc (.cells #[.string (xs.getD q Co.z).name, .slice ca (xs.getD q Co.z).cells.length ck] 55))
   have HBC := hid (HB.out.alloc (by omega) (.cells #[.string (xs.getD q Co.z).name, .slice ca (xs.getD q Co.z).cells.length ck] 55))
   have hzc : (wr.alloc (.cells #[.string (xs.getD q Co.z).name, .slice ca (xs.getD q Co.z).cells.length ck] 55)).heap.size = wr.heap.size + 1 := by simp
   clear hcq
   have hnn : ∃ nn, nn = (xs.getD q Co.z).cells.length := ⟨_, rfl⟩
   obtain ⟨nn, hnn⟩ := hnn
   rw [← hnn] at k1 HK2q HOC HCB HXC HYC HBC hzc HGC
   have HNN := hid hnn
   clear hnn
   generalize (xs.getD q Co.z).name = xn at *
   go_upto_region 5 with fail
   generalize wr.alloc (.cells #[.string xn, .slice ca nn ck] 55) = W4 at *
   have HG := hid (fun W (hW : Below W4.heap.size W4 W) => (⟨(HXC.out.below hW HXC.out.lt).cell 2 rfl, (HCB.out.below hW HCB.out.lt).cell 1 rfl⟩ : W.cell? ⟨w.heap.size, 2, none⟩ = some (.slice (some ⟨g, 0, none⟩) L c1) ∧ W.cell? ⟨wr.heap.size, 1, none⟩ = some (.slice ca nn ck)))
   have HDR : Hid (Below W4.heap.size W4 W4.drew) := hid (Below.refl W4.heap.size W4).drew
   have HQ4 := hid (fun W (hW : Below W4.heap.size W4 W) => HK2q.out W (HBC.out.trans (hW.mono (by omega))))
   clear k0 k1 hx2 HK2q
   go_region_held3 (fun w' => w'.cell? ⟨w.heap.size, 2, none⟩ = some (.slice (some ⟨g, 0, none⟩) L c1) ∧ w'.cell? ⟨wr.heap.size, 1, none⟩ = some (.slice ca nn ck))
    (first | exact HG.out _ (Below.refl _ _) | exact HG.out _ HDR.out | exact HG.out _ HC5.out | ((repeat rw [World.cell?_setCell_other _ _ _ _ (by intro e; injection e with e; omega)]); exact HG.out _ HC5.out) | go_keep)
    ((go_at_call 238; go_must ((with_reducible refine (HQ4.out _ HDR.out).mono ?_); rintro e w5 ⟨a5, c5, rfl, hown5, hb5⟩; have HC5 : Hid (Below W4.heap.size W4 w5) := hid (HDR.out.trans (hb5.mono (Nat.le_refl _))); have HOWN5 := hid hown5; have HO5 := hid (HOC.out.later HC5.out); have q5 := (ycells HO5.out.row hqL).2; have fq5 := HO5.out.row.frozenAt (q * 2 + 1); clear hb5 hown5)))
   all_goals
    have hz5 := HC5.out.size
    have hgw := HO.out.row.lt g rfl
    have hnew : RdCl w5 (fun b => W0.heap.size ≤ b ∧ b < w5.heap.size ∧ b ≠ g) (.slice a5 nn c5) (xs.getD q Co.z).cells := by
     have h5 := HOWN5.out
     rw [HNN.out] at h5 ⊢
     exact (rdCl_of_own h5).more fun b hb => ⟨by have := hb.1; simp at this; omega, hb.2, by have := hb.1; simp at this; omega⟩
    have HPUT := hid (HO5.out.put (ys := xs) hqL rfl (fun _ _ => rfl) hnew)
    clear hnew q5 fq5
    go_wp2
    go_roundg (gk - 1)
    case rel => exact ⟨q + 1, _, by go_num, by omega, hid ((HBC.out.trans (HC5.out.mono (by omega))).setCell (by show w.heap.size ≤ g; omega) _), hid ((HXC.out.below HC5.out HXC.out.lt).other (by show g ≠ w.heap.size; omega) _), hid ((HYC.out.below HC5.out HYC.out.lt).other (by show g ≠ w.heap.size + 1; omega) _), HPUT⟩
    case measure => omega
  ·obtain rfl : gk = 0 := by omega
   obtain rfl : q = L := by omega
   have x0 := HX.out.cell 0 rfl
   have x1 := HX.out.cell 1 rfl
   have x2 := HX.out.cell 2 rfl
   have y0 := HY.out.cell 0 rfl
   have y1 := HY.out.cell 1 rfl
   have y2 := HY.out.cell 2 rfl
   have f0 := HY.out.frozen 0
   have f1 := HY.out.frozen 1
   have f2 := HY.out.frozen 2
   go_wp2
   refine bodyPost_ret (v := .agg #[.int .i64 id, .string nm, .slice a1 q c1]) (by simp [results, Tryz.results212, go_sem, y0, y1, y2]) rfl ⟨_, rfl, ?_, by have := HB.out; repeat' (first | (with_reducible exact Below.refl _ _) | (with_reducible assumption) | (with_reducible refine below_drewN ?_) | (with_reducible refine Below.alloc ?_ ?_ _) | (with_reducible refine Below.drew ?_) | (with_reducible refine Below.setCell ?_ ?_ _) | (with_reducible refine Below.trans ?_ (Below.mono (by with_reducible assumption) ?_)) | go_size)⟩
   have hdone := HO.out.done HXL.out.symm
   exact (((hdone.setCell (p := ⟨w.heap.size + 1, 0, none⟩) (by show w.heap.size + 1 < W0.heap.size; omega) _).setCell (p := ⟨w.heap.size + 1, 1, none⟩) (by show w.heap.size + 1 < W0.heap.size; omega) _).setCell (p := ⟨w.heap.size + 1, 2, none⟩) (by show w.heap.size + 1 < W0.heap.size; omega) _).lower (by omega)
end Go.Proofs.YtaajpliifdlokaaGreatDoor
