/- Contract of signature.Pairs. -/
import Derived.Shelf.SlSortCmp.NoneTotal
import Derived.Test.YtabemneoobbnaaaGreatDoorKm
import Derived.Test.YtabemneoobbnaaaGreatDoorKp
import Derived.Test.YtabemneoobbnaaaGreatDoorKq
namespace Go.Proofs.YtabemneoobbnaaaGreatDoor
open Go.Shelf Go.RowKit Go.Lib

theorem flatP (d : Array Rp) {j : Nat} (hj : j < d.size * 4) : (Go.Sort.flatK encP 4 d)[j]! = rpF d.toList (j / 4) (j % 4) := by
  rw [Go.Sort.get_flatK _ _ _ _ hj]
  have h1 : j / 4 < d.size := by omega
  have e1 : d.toList.getD (j / 4) ((0, 0), (0, 0)) = d[j / 4]! := by
    rw [getElem!_pos d _ h1]
    simp [List.getD, h1]
  unfold rpF
  rw [e1]
  rcases (show j % 4 = 0 ∨ j % 4 = 1 ∨ j % 4 = 2 ∨ j % 4 = 3 by omega) with e | e | e | e <;> rw [e] <;> rfl
theorem flatP_list (d : Array Rp) : (Go.Sort.flatK encP 4 d).toList = flatK 4 d.size (rpF d.toList) := by
  apply List.ext_getElem?
  intro j
  by_cases hj : j < d.size * 4
  · have h2 := flatK_at (f := rpF d.toList) (k := 4) (i := j / 4) (j := j % 4) (show j / 4 < d.size by omega) (by omega)
    rw [show j / 4 * 4 + j % 4 = j by omega] at h2
    rw [h2, Array.getElem?_toList, ← flatP d hj, getElem!_pos _ _ (by rw [Go.Sort.size_flatK]; exact hj), Array.getElem?_eq_getElem]
  · rw [List.getElem?_eq_none (by simp; omega), List.getElem?_eq_none (by rw [flatK_len]; omega)]
theorem holdsP {w : World} {g : Nat} {cur : Array Value} {e : TypeId} {L : List Rp} (hb : w.heap[g]? = some (.cells cur e (0, 0))) (ht : cur.toList.take (L.length * 4) = flatK 4 L.length (rpF L)) : Go.Sort.HoldsK encP 4 w g 0 L.toArray := by
  intro j hj
  rw [Go.Sort.size_flatK] at hj
  rw [Nat.zero_add, flatP _ hj]
  have hj' : j < L.length * 4 := by simpa using hj
  have h3 := flatK_at (f := rpF L) (k := 4) (i := j / 4) (j := j % 4) (show j / 4 < L.length by omega) (by omega)
  rw [show j / 4 * 4 + j % 4 = j by omega, ← ht, List.getElem?_take_of_lt hj', Array.getElem?_toList] at h3
  refine ⟨?_, ?_⟩
  · simp only [World.cell?, hb, id]
    simp [h3]
  · simp [World.frozen?, hb]
theorem grownP {w : World} {blk m : Nat} (d : Array Rp) (os : Array Obj) : w.grownBy (Go.Proofs.sortWorldK encP 4 w blk 0 m d os) (some blk) := by
  refine ⟨rfl, rfl, rfl, by simp [Go.Proofs.sortWorldK, Go.Sort.putRowK], fun k hk hne => ?_⟩
  unfold Go.Proofs.sortWorldK Go.Sort.putRowK
  rw [Go.Sort.heap_grow_old _ _ (by simpa using hk)]
  have : blk ≠ k := fun e => hne (by rw [e])
  simp [Go.Sort.putRow, Go.Sort.mapBlock, Go.Sort.ahead, Array.getElem?_modify, this]
theorem put_takeP (F c : Array Value) (h : F.size ≤ c.size) : (Go.Sort.putCells id 0 F c).toList.take F.size = F.toList := by
  apply List.ext_getElem?
  intro j
  by_cases hj : j < F.size
  · rw [List.getElem?_take_of_lt hj, Array.getElem?_toList, Array.getElem?_toList]
    have hc : j < c.size := by omega
    simp [Go.Sort.putCells, hj, hc]
  · rw [List.getElem?_eq_none (by simp; omega), List.getElem?_eq_none (by simp; omega)]
theorem rowP {w : World} {base g cap n k : Nat} {e : TypeId} {cur : Array Value} (d : Array Rp) (os : Array Obj) (hd : d.size = k) (hbase : base ≤ g) (hb : w.heap[g]? = some (.cells cur e (0, 0))) (h1 : k ≤ cap) (h2 : cap ≤ maxLen) (h3 : cur.size = cap * 4) :
    (Go.Proofs.sortWorldK encP 4 w g 0 n d os).ownsRow base e 4 (.slice (some ⟨g, 0, none⟩) k cap) k (flatK 4 k (rpF d.toList)) := by
  have hg : g < w.heap.size := (Array.getElem?_eq_some_iff.1 hb).1
  have hh : (Go.Proofs.sortWorldK encP 4 w g 0 n d os).heap[g]? = some (.cells (Go.Sort.putCells id 0 (Go.Sort.flatK encP 4 d) cur) e (0, 0)) := by
    unfold Go.Proofs.sortWorldK Go.Sort.putRowK
    rw [Go.Sort.heap_grow_old _ _ (by simpa using hg)]
    simp [Go.Sort.putRow, Go.Sort.mapBlock, Go.Sort.ahead, Array.getElem?_modify, hb, Go.Sort.onCells]
  refine ⟨flatK_len _ _ _, .inr ⟨g, cap, _, rfl, hbase, hh, h1, h2, by simp [Go.Sort.putCells, h3], ?_⟩⟩
  have h4 := put_takeP (Go.Sort.flatK encP 4 d) cur (by rw [Go.Sort.size_flatK, hd, h3]; exact Nat.mul_le_mul_right _ h1)
  rw [Go.Sort.size_flatK, hd] at h4
  rw [h4, flatP_list, hd]

def PairsP (w : World) (L0 : List Rp) (e : Ending) (w' : World) : Prop :=
  ∃ (a : Option Addr) (c : Nat) (L : List Rp), e = .returned (.tuple #[.slice a L.length c, .int .i64 0]) ∧ L.Perm L0 ∧ InK 4 w' (News w w') (.slice a L.length c) L.length (rpF L) ∧ Below w.heap.size w w'

set_option maxRecDepth 100000 in
set_option maxHeartbeats 4000000 in
theorem sig_Pairs (v : Value) (ts : List Ta) (B need : Nat) (w : World) (h : ListV ts) (hv : RdTa w (· < B) v ts) (hB : B ≤ w.heap.size) (hT : Tabs w) (hn1 : 1 ≤ need) (hn2 : need ≤ 1048576) :
    Calls Tryz.prog 30 #[v, .int .i64 (need : Int)] w (PairsP w (outL (cvsL ts) need (prN (cvsL ts).length))) := by
  have hV := colsV_of h
  have hz2 : ((w.alloc (.cells #[.int .i64 (need : Int)] 3)).alloc (.cells #[.slice none 0 0] 67)).heap.size = w.heap.size + 2 := by simp
  have hBW : Below w.heap.size w ((w.alloc (.cells #[.int .i64 (need : Int)] 3)).alloc (.cells #[.slice none 0 0] 67)) := ((Below.refl _ w).alloc (Nat.le_refl _) _).alloc (by simp) _
  have HBW := hid hBW
  have hnb := (BoxN.new w #[.int .i64 (need : Int)] 3).alloc (.cells #[.slice none 0 0] 67)
  have hob := BoxN.new (w.alloc (.cells #[.int .i64 (need : Int)] 3)) #[.slice none 0 0] 67
  rw [World.size_alloc] at hob
  have n0 : ((w.alloc (.cells #[.int .i64 (need : Int)] 3)).alloc (.cells #[.slice none 0 0] 67)).cell? ⟨w.heap.size, 0, none⟩ = some (.int .i64 (need : Int)) := hnb.cell 0 rfl
  have HCM : Hid (Calls Tryz.prog 58 #[v, .int .i64 (need : Int), .func (.func 59) #[] #[.pointer (some ⟨w.heap.size, 0, none⟩), .pointer (some ⟨w.heap.size + 1, 0, none⟩)]] ((w.alloc (.cells #[.int .i64 (need : Int)] 3)).alloc (.cells #[.slice none 0 0] 67))
      (fun e w' => e = .returned (.int .i64 0) ∧ ∃ Z', (JP (w.heap.size + 1) w.heap.size (w.heap.size + 1) need (cvsL ts) (prN (cvsL ts).length) Z' w' ∧ ¬ Z' w.heap.size) ∧ StepZ (fun b => b = w.heap.size + 1) Z' ((w.alloc (.cells #[.int .i64 (need : Int)] 3)).alloc (.cells #[.slice none 0 0] 67)) w')) := hid
    (sig_compareP v ts w.heap.size need ⟨w.heap.size, 0, none⟩ ⟨w.heap.size + 1, 0, none⟩ _ (fun b => b = w.heap.size + 1) _ h ((hv.keep fun p (hp : p.block < B) => hBW.cell (p := p) (by omega)).more fun b hb => Nat.lt_of_lt_of_le hb hB) (by omega) (hT.below hBW) hn1 hn2
      (pairs_ok (w.heap.size + 1) w.heap.size (w.heap.size + 1) need (cvsL ts) _ hV hn1 hn2 (by omega) (by omega))
      ⟨⟨n0, ⟨none, 0, hob, World.ownsRow_nil _ _ _ _, fun b hb => by simp [Value.ownBlock] at hb⟩, rfl, fun b hb => by omega⟩, by omega⟩)
  have HLN : Hid ((outL (cvsL ts) need (prN (cvsL ts).length)).length ≤ 4294967296) := hid (by
    have h1 := outL_len (cvsL ts) need (prN (cvsL ts).length)
    have h2 := prN_len (cvsL ts).length
    have h3 : (cvsL ts).length * (cvsL ts).length ≤ 65536 * 65536 := Nat.mul_le_mul hV.many hV.many
    omega)
  generalize prN (cvsL ts).length = pl at *
  obtain ⟨a, c, rfl⟩ : ∃ a c, v = .slice a ts.length c := by
    obtain ⟨tv, ⟨a, c, e, -⟩, -⟩ := hv
    exact ⟨a, c, e⟩
  generalize ts.length = L at *
  clear h hv hT hV hBW hnb hob
  go_enter Tryz.func30, Tryz.ntmps30
  go_wp2_with fail
  with_reducible refine HCM.out.mono ?_
  clear HCM n0
  generalize (w.alloc (.cells #[.int .i64 (need : Int)] 3)).alloc (.cells #[.slice none 0 0] 67) = W2 at *
  rintro e w3 ⟨rfl, Z', ⟨hj, -⟩, hs⟩
  have HJ := hid hj
  have HS := hid hs
  have hz3 := hs.below.size
  have HB3 : Hid (Below w.heap.size w w3) := hid ⟨hs.below.os.trans HBW.out.os, hs.below.tape.trans HBW.out.tape, hs.below.output.trans HBW.out.output, by omega, fun k hk => (hs.block k (by omega) (by omega)).trans (HBW.out.block k hk)⟩
  obtain ⟨oa, oc, hbx, hrow, hrz⟩ := hj.row
  have HBX := hid hbx
  have HROW := hid hrow
  have HRZ := hid hrz
  clear hj hs hbx hrow hrz
  generalize outL (cvsL ts) need pl = L0 at *
  generalize hl0 : L0.length = l0 at *
  have HL0 := hid hl0
  clear hl0
  have o0 : w3.cell? ⟨w.heap.size + 1, 0, none⟩ = some (.slice oa l0 oc) := HBX.out.cell 0 rfl
  rcases HROW.out.2 with ⟨e0, h0⟩ | ⟨gb, cap, cur, e1, hbase, hgb, r1, r2, r3, r4⟩
  · obtain ⟨rfl, rfl, rfl⟩ := Value.slice.inj e0
    have hL0 : L0 = [] := List.eq_nil_of_length_eq_zero HL0.out
    subst hL0
    have hcon : Calls Tryz.prog 60 #[.slice none 0 0, .func (.func 61) #[] #[]] w3 (fun e w' => e = .returned (.tuple #[]) ∧ w' = w3) := AnyF.slices_SortFunc_none Tryz.sortPairs none 0 _ w3
    go_wp2_with fail
    with_reducible refine hcon.mono ?_
    rintro e w4 ⟨rfl, rfl⟩
    go_wp2
    go_ret2
    exact ⟨none, 0, [], rfl, .refl _, InK.nil, HB3.out⟩
  · obtain ⟨rfl, -, rfl⟩ := Value.slice.inj e1
    have hgl : gb < w3.heap.size := (Array.getElem?_eq_some_iff.1 hgb).1
    have hH : Go.Sort.HoldsK encP 4 w3 gb 0 L0.toArray := holdsP hgb (by rw [HL0.out]; exact r4)
    have hts : L0.toArray.size = l0 := by simpa using HL0.out
    have hgo : gb ≠ w.heap.size + 1 := (HRZ.out gb rfl).2
    have hcmp : Go.Proofs.CmpLays Tryz.prog 61 #[] encP 4 cfP gb 0 L0.toArray.size w3 := fun m os dk _ x y => pairs_cmp x y _
    have hcon : Calls Tryz.prog 60 #[.slice (some ⟨gb, 0, none⟩) l0 oc, .func (.func 61) #[] #[]] w3 (fun e w' => e = .returned (.tuple #[]) ∧ ∃ d' n os, Go.Sort.PermIn 0 l0 L0.toArray d' ∧ Go.Sort.SortedIn (Go.Proofs.ltOf cfP) 0 l0 d' ∧ w' = Go.Proofs.sortWorldK encP 4 w3 gb 0 n d' os) := by
      have h := AnyQ.slices_SortFunc Tryz.sortPairs 4 Tryz.isAgg72 Tryz.sizeOf72 encP (fun _ => rfl) (fun x v hv => by simp [encP] at hv; rcases hv with rfl | rfl | rfl | rfl <;> rfl) cfP swoP 61 #[] gb 0 oc L0.toArray w3 (enters_of Tryz.func61 (by kernel_rfl) rfl) hcmp hH hgl (by rw [hts]; have := HLN.out; omega)
      rw [hts] at h
      exact h
    clear hcmp
    go_wp2_with fail
    with_reducible refine hcon.mono ?_
    clear hcon
    rintro e w4 ⟨rfl, d, n2, os, hp, -, hw4⟩
    have hds : d.size = l0 := by rw [hp.1]; exact hts
    have hrow4 := rowP (w := w3) (base := w.heap.size + 1) (n := n2) d os hds hbase hgb r1 r2 r3
    have hg4 := grownP (w := w3) (blk := gb) (m := n2) d os
    rw [← hw4] at hrow4 hg4
    clear hw4
    have hperm : d.toList.Perm L0 := by
      have h1 := hp.2.2
      rw [Array.extract_eq_self_of_le (by omega), Array.extract_eq_self_of_le (by omega)] at h1
      simpa using h1
    have o1 : w4.cell? ⟨w.heap.size + 1, 0, none⟩ = some (.slice (some ⟨gb, 0, none⟩) l0 oc) := (World.cell?_of_block (hg4.block _ HBX.out.lt (fun e => hgo (by injection e with e; exact e.symm)))).trans o0
    have HF : Hid (PairsP w L0 (.returned (.tuple #[.slice (some ⟨gb, 0, none⟩) l0 oc, .int .i64 0])) w4) := hid (by
      have hdl : d.toList.length = l0 := by simpa using hds
      refine ⟨some ⟨gb, 0, none⟩, oc, d.toList, by rw [hdl], hperm, ?_, HB3.out.grown hg4 HB3.out.size (fun k hk => by have := Option.some.inj hk; omega)⟩
      rw [hdl]
      exact (inK_of_owns hrow4).more fun b hb => ⟨by have := (hrow4.lt b hb).1; omega, (hrow4.lt b hb).2⟩)
    clear hp hrow4 hg4 hperm o0 hH
    go_wp2
    go_ret2
    exact HF.out

end Go.Proofs.YtabemneoobbnaaaGreatDoor
