/- The kit's dice: their memory; Mod, Next, Word. Words for tables: valid texts, cells, tables; what the types look like. No program in sight. DERIVED: THE SHELF's CONTRACTS AT THIS DUMP, IN PLAIN WORDS (tools/lay-plain.mjs out of 'YtfcccldofaleoaaGreatDoorShJL.lean', which tools/lay-shelf.mjs wrote): THE SAME DECLARATIONS UNDER THE SAME NAMES: 'import', 'namespace', 'open', 'def', 'theorem' AND NOTHING ELSE: no command of the shelf's: FOR A HAND-IN. Each laying: the table of numbers ('.._ren') and one theorem, a field a fact of the dump's own or the kernel's comparison; each contract: ONE APPLICATION. -/
import Derived.Test.YtfcccldofaleoaaGreatDoorCopOrdac
import Derived.IntWalk
import Derived.Lib.LaidTab
import Derived.Shelf.Strconv.Itoa3
import Derived.Lib.ValidU
import Derived.Test.YtfcccldofaleoaaGreatDoorProg
namespace Go.Proofs.YtfcccldofaleoaaGreatDoor
open Go.RowKit

/-- Go's own table of powers of ten holds what it should -/
def Pow (w : World) : Prop := Lib.TabIs Tryz.prog w "internal/strconv.uint64pow10" .u64 Lib.pow10Tab
theorem pow_named : Tryz.prog.globalNamed "internal/strconv.uint64pow10" = some 3 := by kernel_rfl
theorem Pow.keep {w w' : World} (h : Pow w) (hb : w'.heap[(3 : Nat)]? = w.heap[(3 : Nat)]?) : Pow w' := by
  unfold Pow Lib.TabIs World.var? at *
  rw [pow_named] at *
  simp only [Option.bind_some] at *
  rw [hb]
  exact h
theorem Pow.lt {w : World} (h : Pow w) : 3 < w.heap.size := by
  unfold Pow Lib.TabIs World.var? at h
  rw [pow_named] at h
  simp only [Option.bind_some] at h
  rcases Nat.lt_or_ge 3 w.heap.size with h' | h'
  · exact h'
  · rw [Array.getElem?_eq_none h'] at h; cases h
theorem Pow.below {w w' : World} (h : Pow w) {B : Nat} (hb : Below B w w') (hB : w.heap.size ≤ B) : Pow w' := h.keep (hb.block _ (Nat.lt_of_lt_of_le h.lt hB))

/-- The kit's dice in block 'g'; Go's table of powers of ten lies below it. -/
def KDice (w : World) (g : Nat) : Prop := (3 < g ∧ Pow w) ∧
  ∃ (a : Option Addr) (n c k : Nat), w.heap[g]? = some (.cells #[.slice a n c, .int .i64 (k : Int)] 84 (0, 0)) ∧ k ≤ n ∧ n ≤ 500 ∧
    (0 < n → ∃ b o, a = some ⟨b, o, none⟩ ∧ b < g ∧ ∀ i, i < n → ∃ z : Int, w.cell? ⟨b, o + i, none⟩ = some (.int .i64 z))
section
variable {w w' : World} {g B : Nat}
theorem KDice.lt (h : KDice w g) : g < w.heap.size := by
  obtain ⟨_, a, n, c, k, hh, _⟩ := h
  exact (Array.getElem?_eq_some_iff.1 hh).1
theorem KDice.pow (h : KDice w g) : Pow w := h.1.2
theorem KDice.keep (h : KDice w g) (hb : ∀ k, k ≤ g → w'.heap[k]? = w.heap[k]?) : KDice w' g := by
  obtain ⟨⟨h0, hp⟩, a, n, c, k, hh, h1, h2, h3⟩ := h
  refine ⟨⟨h0, hp.keep (hb _ (by omega))⟩, a, n, c, k, (hb g (Nat.le_refl _)).trans hh, h1, h2, fun hn => ?_⟩
  obtain ⟨b, o, e, hlt, hc⟩ := h3 hn
  exact ⟨b, o, e, hlt, fun i hi => by
    obtain ⟨x, hcx⟩ := hc i hi
    exact ⟨x, (World.cell?_of_block (hb b (by omega))).trans hcx⟩⟩
theorem KDice.below (h : KDice w g) (hb : Below B w w') (hB : g < B) : KDice w' g := h.keep fun k hk => hb.block k (by omega)
theorem KDice.drewN (h : KDice w g) (n : Nat) : KDice (w.drewN n) g := h.keep fun _ _ => rfl
theorem KDice.drew (h : KDice w g) : KDice w.drew g := h.keep fun _ _ => rfl
theorem KDice.alloc (h : KDice w g) (o : Obj) : KDice (w.alloc o) g := h.below ((Below.refl _ _).alloc (Nat.le_refl _) o) h.lt
theorem KDice.store (h : KDice w g) {p : Addr} (hp : g < p.block) (u : Value) : KDice (w.setCell p u) g := h.keep fun k hk => Below.heap_setCell _ _ _ _ (by omega)
theorem KDice.next {a : Option Addr} {n c k : Nat} (h0 : 3 < g ∧ Pow w) (hh : w.heap[g]? = some (.cells #[.slice a n c, .int .i64 (k : Int)] 84 (0, 0))) (h1 : k < n) (h2 : n ≤ 500)
    (h3 : 0 < n → ∃ b o, a = some ⟨b, o, none⟩ ∧ b < g ∧ ∀ i, i < n → ∃ z : Int, w.cell? ⟨b, o + i, none⟩ = some (.int .i64 z)) : KDice (w.setCell ⟨g, 1, none⟩ (.int .i64 ((k : Int) + 1))) g := by
  refine ⟨⟨h0.1, h0.2.keep (Below.heap_setCell _ _ _ _ (by have := h0.1; show _ ≠ g; omega))⟩, a, n, c, k + 1, ?_, h1, h2, fun hn => ?_⟩
  · rw [show (((k + 1 : Nat) : Int)) = (k : Int) + 1 from by omega]
    simp [World.setCell, Array.getElem?_modify, hh]
  · obtain ⟨b, o, e, hlt, hc⟩ := h3 hn
    refine ⟨b, o, e, hlt, fun i hi => ?_⟩
    obtain ⟨x, hcx⟩ := hc i hi
    refine ⟨x, ?_⟩
    rw [World.cell?_setCell_other, hcx]
    intro e2
    injection e2 with e3
    omega
end

theorem tmod_twice (n m : Int) (hm : 1 ≤ m) : -m < Int.tmod n m ∧ Int.tmod n m < m ∧ Int.tmod n m % m = n % m := by
  have h1 := Int.emod_nonneg n (show m ≠ 0 by omega)
  have h2 := Int.emod_lt_of_pos n (show 0 < m by omega)
  have h3 : Int.tmod n m = n % m ∨ Int.tmod n m = n % m - m := by
    rw [Int.tmod_eq_emod]
    split
    · left; omega
    · right; omega
  have hz : Int.tmod n m = n % m - m → 0 < n % m := by
    intro h
    rcases Int.lt_or_le 0 n with hn | hn
    · have := Int.tmod_nonneg m (show 0 ≤ n by omega)
      omega
    · have h4 : m ∣ n → Int.tmod n m = 0 := fun hd => Int.tmod_eq_zero_of_dvd hd
      by_cases hd : m ∣ n
      · have := h4 hd
        have := Int.emod_eq_zero_of_dvd hd
        omega
      · have : n % m ≠ 0 := fun h => hd (Int.dvd_of_emod_eq_zero h)
        omega
  refine ⟨?_, ?_, ?_⟩
  · rcases h3 with h | h
    · omega
    · have := hz h; omega
  · rcases h3 with h | h <;> omega
  · rcases h3 with h | h
    · rw [h, Int.emod_emod_of_dvd _ (Int.dvd_refl _)]
    · rw [h, Int.sub_emod_right, Int.emod_emod_of_dvd _ (Int.dvd_refl _)]

set_option maxHeartbeats 400000 in
theorem kit_Mod (n m : Int) (hm : 1 ≤ m) (hm2 : m ≤ 1099511627776) (w : World) : Calls Tryz.prog 24 #[.int .i64 n, .int .i64 m] w (fun e w' => e = .returned (.int .i64 (n % m)) ∧ w = w') := by
  obtain ⟨h1, h2, h3⟩ := tmod_twice n m hm
  have HM := hid h3
  clear h3
  have hm0 : ¬ m < 1 := by omega
  have hd : decide (m < 1) = false := decide_eq_false hm0
  have hne : ¬ m = 0 := by omega
  generalize hr : Int.tmod n m = r at *
  have hw1 : IntKind.i64.wrap r = r := IntWalk.i64_in _ (by omega)
  have hw2 : IntKind.i64.wrap (r + m) = r + m := IntWalk.i64_in _ (by omega)
  go_enter Tryz.func24, Tryz.ntmps24
  go_wp2_with fail
  go_ret
  exact ⟨ret_int HM.out, rfl⟩
theorem kit_Mod0 (n m : Int) (hm : m < 1) (w : World) : Calls Tryz.prog 24 #[.int .i64 n, .int .i64 m] w (fun e w' => e = .returned (.int .i64 0) ∧ w = w') := by
  have hd : decide (m < 1) = true := decide_eq_true hm
  go_enter Tryz.func24, Tryz.ntmps24
  go_wp2_with fail
  go_ret
  exact ⟨rfl, rfl⟩

/-- A number below 'N' (0 where N is 0) has been rolled. -/
def KPick (w : World) (g : Nat) (N : Int) (e : Ending) (w' : World) : Prop :=
  ∃ m : Nat, e = .returned (.int .i64 (m : Int)) ∧ (m : Int) < max N 1 ∧ KDice w' g ∧ Roll w.heap.size g w w' ∧ w'.heap.size = w.heap.size

theorem kit_ModN (z N : Int) (h1 : 0 ≤ N) (h2 : N ≤ 1099511627776) : ∃ m : Nat, (m : Int) < max N 1 ∧ ∀ w, Calls Tryz.prog 24 #[.int .i64 z, .int .i64 N] w (fun e w' => e = .returned (.int .i64 (m : Int)) ∧ w = w') := by
  by_cases h : 1 ≤ N
  · have hlo : 0 ≤ z % N := Int.emod_nonneg _ (by omega)
    have hhi : z % N < N := Int.emod_lt_of_pos _ (by omega)
    refine ⟨(z % N).toNat, by omega, fun w => ?_⟩
    rw [show (((z % N).toNat : Nat) : Int) = z % N by omega]
    exact kit_Mod z N h h2 w
  · exact ⟨0, by omega, fun w => kit_Mod0 z N (by omega) w⟩

set_option maxHeartbeats 1000000 in
theorem kit_Next (g : Nat) (N : Int) (w : World) (hd : KDice w g) (h1 : 0 ≤ N) (h2 : N ≤ 1099511627776) :
    Calls Tryz.prog 29 #[.pointer (some ⟨g, 0, none⟩), .int .i64 N] w (KPick w g N) := by
  have HD := hid hd
  obtain ⟨h0, a, n, c, k, hh, hk, hn, hs⟩ := hd
  have H0 := hid h0
  clear h0
  have HH := hid hh
  have HS := hid hs
  have c0 : w.cell? ⟨g, 0, none⟩ = some (.slice a n c) := by rw [cell_of_row w g 0 _ _ _ hh]; rfl
  have c1 : w.cell? ⟨g, 1, none⟩ = some (.int .i64 (k : Int)) := by rw [cell_of_row w g 1 _ _ _ hh]; rfl
  have f1 : w.frozen? ⟨g, 1, none⟩ = false := by simp [World.frozen?, hh]
  clear hh hs
  by_cases hlt : k < n
  · obtain ⟨b, o, rfl, hbg, hc⟩ := HS.out (by omega)
    obtain ⟨z, hcx⟩ := hc k hlt
    obtain ⟨r, hrN, hmod⟩ := kit_ModN z N h1 h2
    have HMD := hid hmod
    have HNX := hid (fun q : Nat => KDice.next (w := w.drewN q) ⟨H0.out.1, H0.out.2.keep rfl⟩ HH.out hlt hn HS.out)
    have hne : b ≠ g := by omega
    have HCX := hid hcx
    have HRN := hid hrN
    clear hc hcx hmod hrN
    go_enter Tryz.func29, Tryz.ntmps29
    go_wp2
    go_quiet (fail)
    go_wp2
    have hDN := HNX.out nq
    have hRO : Roll w.heap.size g w ((w.drewN nq).setCell ⟨g, 1, none⟩ (.int .i64 ((k : Int) + 1))) := ((Roll.refl w.heap.size g w).drewN nq).setCell (p := ⟨g, 1, none⟩) rfl _
    have hSZ : ((w.drewN nq).setCell ⟨g, 1, none⟩ (.int .i64 ((k : Int) + 1))).heap.size = w.heap.size := by simp
    have e0 : ((w.drewN nq).setCell ⟨g, 1, none⟩ (.int .i64 ((k : Int) + 1))).cell? ⟨g, 0, none⟩ = some (.slice (some ⟨b, o, none⟩) n c) := by
      rw [World.cell?_setCell_other _ _ _ _ (by intro h; injection h with _ h2; omega)]; exact c0
    have e1 : ((w.drewN nq).setCell ⟨g, 1, none⟩ (.int .i64 ((k : Int) + 1))).cell? ⟨g, 1, none⟩ = some (.int .i64 ((k : Int) + 1)) := World.cell?_setCell_same _ _ _ c1
    have e2 : ((w.drewN nq).setCell ⟨g, 1, none⟩ (.int .i64 ((k : Int) + 1))).cell? ⟨b, o + k, none⟩ = some (.int .i64 z) := by
      rw [World.cell?_setCell_other _ _ _ _ (by intro h; injection h with h2; omega)]; exact HCX.out
    have HDN := hid hDN
    have HRO := hid hRO
    have HSZ := hid hSZ
    clear hDN hRO hSZ c0 c1 f1 HNX
    generalize (w.drewN nq).setCell ⟨g, 1, none⟩ (.int .i64 ((k : Int) + 1)) = W at *
    go_quiet ((go_at_call 24; exact Calls.quiet_of_same ((HMD.out _).mono (fun _ _ h => ⟨h.1, h.2.symm⟩))))
    go_wp2
    go_ret
    exact ⟨r, rfl, HRN.out, HDN.out.drewN _, HRO.out.drewN _, HSZ.out⟩
  · go_enter Tryz.func29, Tryz.ntmps29
    go_wp2
    go_quiet (fail)
    go_wp2
    go_ret
    exact ⟨0, rfl, by simp; omega, HD.out, (Roll.refl _ _ _).drewN _, rfl⟩

/-- One of the texts has been rolled. -/
def KWord (w : World) (g : Nat) (l : List ByteArray) (e : Ending) (w' : World) : Prop :=
  ∃ s : ByteArray, e = .returned (.string s) ∧ s ∈ l ∧ KDice w' g ∧ Roll w.heap.size g w w' ∧ w'.heap.size = w.heap.size
set_option maxHeartbeats 1000000 in
theorem kit_Word (g b n : Nat) (l : List ByteArray) (w : World) (hd : KDice w g) (hb : BoxN w b 9 (l.map Value.string).toArray) (hne : b ≠ g) (hn : n = l.length) (h1 : 1 ≤ n) (h2 : n ≤ 100) :
    Calls Tryz.prog 37 #[.pointer (some ⟨g, 0, none⟩), .slice (some ⟨b, 0, none⟩) n n] w (KWord w g l) := by
  have HB := hid hb
  have HD := hid hd
  have HL := hid hn
  have hbl := hb.lt
  clear hb hd hn
  go_enter Tryz.func37, Tryz.ntmps37
  go_wp2_with fail
  with_reducible refine (kit_Next g _ _ HD.out (by omega) (by omega)).mono ?_
  rintro e w1 ⟨m, rfl, hm, hd1, hr1, hs1⟩
  have hmn : m < n := by omega
  have hml : m < l.length := by rw [← HL.out]; exact hmn
  have c1 : w1.cell? ⟨b, m, none⟩ = some (.string (l.getD m ⟨#[]⟩)) := (HB.out.roll hr1 hbl hne).cell m (by simp [List.getD, hml])
  have HM := hid (show l.getD m ⟨#[]⟩ ∈ l by rw [List.getD, List.getElem?_eq_getElem hml]; exact List.getElem_mem hml)
  have HD1 := hid hd1
  have HR1 := hid hr1
  have HS1 := hid hs1
  clear hd1 hr1 hs1 hml
  generalize l.getD m ⟨#[]⟩ = s at *
  go_wp2
  go_ret
  exact ⟨s, rfl, HM.out, HD1.out, HR1.out, HS1.out⟩

end Go.Proofs.YtfcccldofaleoaaGreatDoor

namespace Go.Proofs.YtfcccldofaleoaaGreatDoor
open Go.RowKit

/-- a valid short text -/
def TextOk (n : Nat) (s : ByteArray) : Prop := s.size ≤ n ∧ Lib.validD s.data.toList = true
def CellOk (c : Cl) : Prop := (c.null = true → c.text = ⟨#[]⟩) ∧ TextOk 8 c.text
theorem cellOk_null : CellOk ⟨true, ⟨#[]⟩⟩ := by unfold CellOk TextOk; decide +kernel
theorem cellOk_text {s : ByteArray} (h : TextOk 8 s) : CellOk ⟨false, s⟩ := ⟨(fun h => by cases h), h⟩
theorem TextOk.more {m n : Nat} {s : ByteArray} (h : TextOk m s) (hn : m ≤ n) : TextOk n s := ⟨Nat.le_trans h.1 hn, h.2⟩

theorem info_cell : (Tryz.prog.info? 58).map (fun i => (i.zero, i.size, i.bytes)) = some (some (.agg #[.bool false, .string ⟨#[]⟩]), 2, 24) := by kernel_rfl
theorem info_col : (Tryz.prog.info? 30).map (fun i => (i.zero, i.size, i.bytes)) = some (some (.agg #[.string ⟨#[]⟩, .slice none 0 0]), 2, 40) := by kernel_rfl
theorem info_tab : (Tryz.prog.info? 24).map (fun i => (i.zero, i.size, i.bytes)) = some (some (.agg #[.int .i64 0, .string ⟨#[]⟩, .slice none 0 0]), 3, 48) := by kernel_rfl
/-- a valid table -/
def TabV (t : Ta) : Prop := 0 ≤ t.id ∧ t.id ≤ 1073741824 ∧ TextOk 1024 t.name ∧ t.cols.length ≤ 64 ∧ ∃ n, n ≤ 4096 ∧ ∀ x ∈ t.cols, TextOk 1024 x.name ∧ x.cells.length = n ∧ ∀ c ∈ x.cells, CellOk c
/-- an element of a list -/
theorem getD_mem {α : Type} {l : List α} {i : Nat} (h : i < l.length) (d : α) : l.getD i d ∈ l := by simp [List.getD, h]
def ListV (ts : List Ta) : Prop := ts.length ≤ 1024 ∧ (∀ t ∈ ts, TabV t) ∧ ts.Pairwise (fun a b => a.id < b.id)
theorem ids_up {ts : List Ta} (h : ts.Pairwise (fun a b => a.id < b.id)) {i j : Nat} (hij : i < j) (hj : j < ts.length) : (ts.getD i Ta.z).id < (ts.getD j Ta.z).id := by
  have h1 := List.pairwise_iff_getElem.1 h i j (by omega) hj hij
  simpa [List.getD, hj, show i < ts.length by omega] using h1

/-- how many rows columns have -/
def rowsC (xs : List Co) : Nat := (xs.getD 0 Co.z).cells.length

end Go.Proofs.YtfcccldofaleoaaGreatDoor

namespace Go.Proofs
open Go.Shelf
def Tryz.layItoaM_ren : Go.Shelf.Ren := ⟨fun | 171 => 68 | 243 => 100 | 246 => 128 | 283 => 155 | 284 => 156 | 285 => 157 | 286 => 158 | 129 => 114 | 317 => 173 | 318 => 174 | 319 => 175 | 320 => 176 | 337 => 187 | 338 => 188 | n => n, fun | 3 => 3 | 9 => 9 | 2 => 2 | 4 => 4 | 171 => 185 | 0 => 0 | 53 => 156 | 37 => 63 | 5 => 5 | 173 => 187 | 212 => 206 | 51 => 133 | 20 => 20 | 213 => 207 | 46 => 119 | 232 => 218 | 233 => 219 | n => n, fun | 17 => 3 | 18 => 4 | 19 => 5 | n => n⟩
theorem Tryz.layItoaM : Go.Proofs.LaysM.n171 Tryz.prog Tryz.layItoaM_ren := {
  mixed := by kernel_rfl
  f129 := Tryz.func114.trans (congrArg some (by kernel_rfl))
  f171 := Tryz.func68.trans (congrArg some (by kernel_rfl))
  f243 := Tryz.func100.trans (congrArg some (by kernel_rfl))
  f246 := Tryz.func128.trans (congrArg some (by kernel_rfl))
  f283 := Tryz.func155.trans (congrArg some (by kernel_rfl))
  f284 := Tryz.func156.trans (congrArg some (by kernel_rfl))
  f285 := Tryz.func157.trans (congrArg some (by kernel_rfl))
  f286 := Tryz.func158.trans (congrArg some (by kernel_rfl))
  f317 := Tryz.func173.trans (congrArg some (by kernel_rfl))
  f318 := Tryz.func174.trans (congrArg some (by kernel_rfl))
  f319 := Tryz.func175.trans (congrArg some (by kernel_rfl))
  f320 := Tryz.func176.trans (congrArg some (by kernel_rfl))
  f337 := Tryz.func187.trans (congrArg some (by kernel_rfl))
  f338 := Tryz.func188.trans (congrArg some (by kernel_rfl))
  t0 := Tryz.underlying0
  a0 := Tryz.isAgg0
  z0 := Tryz.sizeOf0
  v0 := Tryz.zeroValue0
  t2 := Tryz.underlying2
  a2 := Tryz.isAgg2
  z2 := Tryz.sizeOf2
  v2 := Tryz.zeroValue2
  t3 := Tryz.underlying3
  a3 := Tryz.isAgg3
  z3 := Tryz.sizeOf3
  v3 := Tryz.zeroValue3
  t4 := Tryz.underlying4
  a4 := Tryz.isAgg4
  z4 := Tryz.sizeOf4
  v4 := Tryz.zeroValue4
  t5 := Tryz.underlying5
  a5 := Tryz.isAgg5
  z5 := Tryz.sizeOf5
  v5 := Tryz.zeroValue5
  t9 := Tryz.underlying9
  a9 := Tryz.isAgg9
  z9 := Tryz.sizeOf9
  v9 := Tryz.zeroValue9
  t20 := Tryz.underlying20
  a20 := Tryz.isAgg20
  z20 := Tryz.sizeOf20
  v20 := Tryz.zeroValue20
  t37 := Tryz.underlying63
  a37 := Tryz.isAgg63
  z37 := Tryz.sizeOf63
  v37 := Tryz.zeroValue63
  t46 := Tryz.underlying119
  a46 := Tryz.isAgg119
  z46 := Tryz.sizeOf119
  v46 := Tryz.zeroValue119
  t51 := Tryz.underlying133
  a51 := Tryz.isAgg133
  z51 := Tryz.sizeOf133
  v51 := Tryz.zeroValue133
  t53 := Tryz.underlying156
  a53 := Tryz.isAgg156
  z53 := Tryz.sizeOf156
  v53 := Tryz.zeroValue156
  t171 := Tryz.underlying185
  a171 := Tryz.isAgg185
  z171 := Tryz.sizeOf185
  v171 := Tryz.zeroValue185
  t173 := Tryz.underlying187
  a173 := Tryz.isAgg187
  z173 := Tryz.sizeOf187
  v173 := Tryz.zeroValue187
  t212 := Tryz.underlying206
  a212 := Tryz.isAgg206
  z212 := Tryz.sizeOf206
  v212 := Tryz.zeroValue206
  t213 := Tryz.underlying207
  a213 := Tryz.isAgg207
  z213 := Tryz.sizeOf207
  t232 := Tryz.underlying218
  a232 := Tryz.isAgg218
  z232 := Tryz.sizeOf218
  v232 := Tryz.zeroValue218
  t233 := Tryz.underlying219
  a233 := Tryz.isAgg219
  z233 := Tryz.sizeOf219
  v233 := Tryz.zeroValue219
  g17 := by kernel_rfl
  g18 := by kernel_rfl
  g19 := by kernel_rfl
  i0 := by kernel_rfl
  i2 := by kernel_rfl
  i3 := by kernel_rfl
  i4 := by kernel_rfl
  i5 := by kernel_rfl
  i9 := by kernel_rfl
  i20 := by kernel_rfl
  i37 := by kernel_rfl
  i46 := by kernel_rfl
  i51 := by kernel_rfl
  i53 := by kernel_rfl
  i171 := by kernel_rfl
  i173 := by kernel_rfl
  i212 := by kernel_rfl
  i232 := by kernel_rfl
  i233 := by kernel_rfl
  m17 := by kernel_rfl
  m18 := by kernel_rfl
  m19 := by kernel_rfl }
end Go.Proofs
