/- Contracts of the dice: New, Pick, Words. -/
import Derived.Test.YtabemneoobbnaaaGreatDoorRows
import Derived.Test.YtabemneoobbnaaaGreatDoorDi
namespace Go.Proofs.YtabemneoobbnaaaGreatDoor
open Go.RowKit

set_option maxHeartbeats 1000000 in
theorem dice_Pick (g : Nat) (N : Int) (w : World) (hd : DiceAt 87 w g) (h1 : 1 ≤ N) (h2 : N ≤ 1099511627776) :
    Calls Tryz.prog 33 #[.pointer (some ⟨g, 0, none⟩), .int .i64 N] w (Picks 87 w g N) := by
  have HD := hid hd
  obtain ⟨a, n, c, k, hh, hk, hn, hs⟩ := hd
  have HH := hid hh
  have HS := hid hs
  have c0 : w.cell? ⟨g, 0, none⟩ = some (.slice a n c) := by rw [cell_of_row w g 0 _ _ _ hh]; rfl
  have c1 : w.cell? ⟨g, 1, none⟩ = some (.int .i64 (k : Int)) := by rw [cell_of_row w g 1 _ _ _ hh]; rfl
  have f1 : w.frozen? ⟨g, 1, none⟩ = false := by simp [World.frozen?, hh]
  clear hh hs
  by_cases hlt : k < n
  · obtain ⟨b, o, rfl, hbg, hc⟩ := HS.out (by omega)
    obtain ⟨x, hx, hcx⟩ := hc k hlt
    obtain ⟨r, hr⟩ : ∃ r : Nat, (x : Int) % N = (r : Int) := ⟨((x : Int) % N).toNat, by have := Int.emod_nonneg (x : Int) (show N ≠ 0 by omega); omega⟩
    have hrN : (r : Int) < N := by rw [← hr]; exact Int.emod_lt_of_pos _ (by omega)
    have HR := hid hr
    clear hr
    have HNX := hid (fun q : Nat => DiceAt.next (w := w.drewN q) HH.out hlt hn HS.out)
    have hne : b ≠ g := by omega
    have HCX := hid hcx
    clear hc hcx
    go_enter Tryz.func33, Tryz.ntmps33
    go_wp2
    go_quiet (fail)
    go_wp2
    have hDN := HNX.out nq
    have hRO : Roll w.heap.size g w ((w.drewN nq).setCell ⟨g, 1, none⟩ (.int .i64 ((k : Int) + 1))) := ((Roll.refl w.heap.size g w).drewN nq).setCell (p := ⟨g, 1, none⟩) rfl _
    have hSZ : ((w.drewN nq).setCell ⟨g, 1, none⟩ (.int .i64 ((k : Int) + 1))).heap.size = w.heap.size := by simp
    have e0 : ((w.drewN nq).setCell ⟨g, 1, none⟩ (.int .i64 ((k : Int) + 1))).cell? ⟨g, 0, none⟩ = some (.slice (some ⟨b, o, none⟩) n c) := by
      rw [World.cell?_setCell_other _ _ _ _ (by intro h; injection h with _ h2; omega)]; exact c0
    have e1 : ((w.drewN nq).setCell ⟨g, 1, none⟩ (.int .i64 ((k : Int) + 1))).cell? ⟨g, 1, none⟩ = some (.int .i64 ((k : Int) + 1)) := World.cell?_setCell_same _ _ _ c1
    have e2 : ((w.drewN nq).setCell ⟨g, 1, none⟩ (.int .i64 ((k : Int) + 1))).cell? ⟨b, o + k, none⟩ = some (.int .u8 (x : Int)) := by
      rw [World.cell?_setCell_other _ _ _ _ (by intro h; injection h with h2; omega)]; exact HCX.out
    have HDN := hid hDN
    have HRO := hid hRO
    have HSZ := hid hSZ
    clear hDN hRO hSZ c0 c1 f1 HNX
    generalize (w.drewN nq).setCell ⟨g, 1, none⟩ (.int .i64 ((k : Int) + 1)) = W at *
    go_quiet (fail)
    go_wp2
    go_ret
    exact ⟨r, ret_int HR.out, hrN, HDN.out.drewN _, HRO.out.drewN _, HSZ.out⟩
  · go_enter Tryz.func33, Tryz.ntmps33
    go_wp2
    go_quiet (fail)
    go_wp2
    go_ret
    exact ⟨0, rfl, by simp; omega, HD.out, (Roll.refl _ _ _).drewN _, rfl⟩

/-- A slice of bytes that came in. -/
def RdU (w : World) (B : Nat) (a : Option Addr) (n c : Nat) : Prop :=
  n ≤ c ∧ c ≤ maxLen ∧ (0 < n → ∃ b o, a = some ⟨b, o, none⟩ ∧ b < B ∧ ∀ i, i < n → ∃ x : Nat, x < 256 ∧ w.cell? ⟨b, o + i, none⟩ = some (.int .u8 (x : Int)))

def NewDice (w : World) (e : Ending) (w' : World) : Prop := e = .returned (.pointer (some ⟨w.heap.size, 0, none⟩)) ∧ DiceAt 87 w' w.heap.size ∧ Below w.heap.size w w'

theorem newDice {w : World} {a : Option Addr} {n c m : Nat} (hr : 0 < n → ∃ b o, a = some ⟨b, o, none⟩ ∧ b < w.heap.size ∧ ∀ i, i < n → ∃ x : Nat, x < 256 ∧ w.cell? ⟨b, o + i, none⟩ = some (.int .u8 (x : Int))) (hm : m ≤ n) (h3 : m ≤ 300) :
    NewDice w (.returned (.pointer (some ⟨w.heap.size, 0, none⟩))) (w.alloc (.cells #[.slice a m c, .int .i64 0] 87)) := by
  refine ⟨rfl, ⟨a, m, c, 0, heap_alloc_new _ _, by omega, h3, fun hp => ?_⟩, (Below.refl _ _).alloc (Nat.le_refl _) _⟩
  obtain ⟨b, o, e, hb, hc⟩ := hr (by omega)
  refine ⟨b, o, e, hb, fun i hi => ?_⟩
  obtain ⟨x, hx, hcx⟩ := hc i (by omega)
  exact ⟨x, hx, by rw [World.cell?_alloc_lt _ _ ⟨b, o + i, none⟩ hb]; exact hcx⟩

set_option maxHeartbeats 400000 in
theorem mill_New (a : Option Addr) (n c : Nat) (w : World) (h : RdU w w.heap.size a n c) :
    Calls Tryz.prog 9 #[.slice a n c] w (NewDice w) := by
  obtain ⟨hc, hm, hr⟩ := h
  unfold maxLen at hm
  have HR := hid hr
  clear hr
  by_cases hlt : (300 : Int) < n
  · obtain ⟨b, o, rfl, hb, hcell⟩ := HR.out (by omega)
    have hc3 : 300 ≤ c := by omega
    have HN := hid (newDice (m := 300) (c := c) HR.out (by omega) (by omega))
    clear hcell
    go_enter Tryz.func9, Tryz.ntmps9
    go_wp2
    go_ret
    exact HN.out
  · have HN := hid (newDice (m := n) (c := c) HR.out (Nat.le_refl _) (by omega))
    go_enter Tryz.func9, Tryz.ntmps9
    go_wp2
    go_ret
    exact HN.out

/-- the words of columns -/
def wordsL : List ByteArray := [⟨#[97, 110, 110]⟩, ⟨#[98, 111, 98]⟩, ⟨#[99, 121]⟩, ⟨#[66, 101, 114, 110]⟩, ⟨#[85, 108, 109]⟩, ⟨#[78, 101, 119, 32, 89, 111, 114, 107]⟩, ⟨#[121, 111, 114, 107, 32, 110, 101, 119]⟩, ⟨#[97, 45, 49]⟩, ⟨#[98, 45, 50, 50]⟩, ⟨#[120]⟩, ⟨#[122, 195, 188, 114, 105, 99, 104]⟩, ⟨#[65, 110, 110]⟩, ⟨#[98, 111]⟩, ⟨#[99, 97, 116]⟩, ⟨#[98, 97, 116]⟩, ⟨#[114, 97, 116]⟩]
def wordsC : Array Value := (wordsL.map Value.string).toArray

set_option maxHeartbeats 400000 in
theorem mill_Words (w : World) :
    Calls Tryz.prog 11 #[] w fun e w' => e = .returned (.slice (some ⟨w.heap.size, 0, none⟩) 16 16) ∧ w' = w.alloc (.cells wordsC 9) := by
  go_enter Tryz.func11, Tryz.ntmps11
  go_wp2
  go_ret
  exact ⟨rfl, rfl⟩
theorem words_size : ∀ x ∈ wordsL, x.size ≤ 8 := by decide
theorem words_cell (w : World) (i : Nat) (h : i < 16) : (w.alloc (.cells wordsC 9)).cell? ⟨w.heap.size, i, none⟩ = some (.string (wordsL.getD i ⟨#[]⟩)) := by
  rw [World.cell?_alloc_at _ _ _ _ rfl]
  have hl : i < wordsL.length := h
  simp [wordsC, List.getD, hl]

end Go.Proofs.YtabemneoobbnaaaGreatDoor
