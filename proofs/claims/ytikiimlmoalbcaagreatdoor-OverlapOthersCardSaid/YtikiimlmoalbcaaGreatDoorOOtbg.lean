/- Contracts of bounded.Least$1 and Least$2. Contract of bounded.Least$2; slices.IndexFunc and slices.DeleteFunc where what is struck is the end. Hits that are only read; slices.DeleteFunc where what is struck is the end. What holds at the end of bounded.Top and bounded.Least. -/
import Derived.Deep.Cut
import Derived.Deep.CutRange
import Derived.Test.YtikiimlmoalbcaaGreatDoorOOtbf
import Derived.Lib.LazyBuf
import Derived.Lib.SliceRun
import Derived.Deep.Upon
set_option linter.unusedVariables false
set_option linter.unusedSimpArgs false
namespace Go.Proofs.YtikiimlmoalbcaaGreatDoor
open Go.RowKit
def lstB (den : Nat → Nat → Nat) (cs : List Cv) (vs : List ByteArray) (p0 q0 r i : Nat) : Bool := decide (0 < bestC cs vs r i) && (decide (lowC cs vs r i ≠ bestC cs vs r i) && decide (p0 * den (bestC cs vs r i) (sizeC cs i) ≤ bestC cs vs r i * q0))
def GoodL (den : Nat → Nat → Nat) (cs : List Cv) (vs : List ByteArray) (p0 q0 r : Nat) (cols : List Nat) : Prop := cols = upF (lstB den cs vs p0 q0 r) cs.length
end Go.Proofs.YtikiimlmoalbcaaGreatDoor

namespace Go.Proofs.YtikiimlmoalbcaaGreatDoor
open Go.RowKit
theorem hit_at {w : World} {S : Nat → Prop} {v : Value} {ds : List Mq} (h : InK 6 w S v ds.length (encF encQ default ds)) {p : Nat} (hp : p < ds.length) : ∃ b o c, v = .slice (some ⟨b, o, none⟩) ds.length c ∧ S b ∧ ∀ j, j < 6 → w.cell? ⟨b, o + p * 6 + j, none⟩ = some ((encM (ds.getD p default).1).getD j (.bool false)) := by
 obtain ⟨a, c, rfl, -, -, hr⟩ := h
 obtain ⟨b, o, rfl, hb, hc⟩ := hr (by omega)
 exact ⟨b, o, c, rfl, hb, fun j hj => by rw [hc p hp j hj, encQ_at ds hp]⟩
end Go.Proofs.YtikiimlmoalbcaaGreatDoor

namespace Go.Proofs.YtikiimlmoalbcaaGreatDoor
open Go.RowKit
structure HtsRd (B : Nat) (W : World) (v : Value) (den : Nat → Nat → Nat) (cs : List Cv) (f : Nat → Nat) (H : List Nat) (ds : List Mq) : Prop where
  mem : InK 6 W (fun k => B ≤ k ∧ k < W.heap.size) v ds.length (encF encQ default ds)
  nu : ∀ x ∈ ds, Fr.Rd32 W (.slice x.1.nu.1 (Fr.dig x.1.p).length x.1.nu.2) (Fr.dig x.1.p)
  de : ∀ x ∈ ds, Fr.Rd32 W (.slice x.1.de.1 (Fr.dig x.1.q).length x.1.de.2) (Fr.dig x.1.q)
  far : ∀ x ∈ ds, ∀ R, R < B → Fr.Off R (.slice x.1.nu.1 (Fr.dig x.1.p).length x.1.nu.2) ∧ Fr.Off R (.slice x.1.de.1 (Fr.dig x.1.q).length x.1.de.2)
  sml : ∀ x ∈ ds, Fr.Sml x.1.p x.1.q
  of : HitsOf den cs f ds
  cols : ds.map (colQ cs) = H
section
variable {B B' : Nat} {W W' : World} {v : Value} {den : Nat → Nat → Nat} {cs : List Cv} {f : Nat → Nat} {H : List Nat} {ds : List Mq}
theorem HtsRd.later (h : HtsRd B W v den cs f H ds) (hb : Below W.heap.size W W') : HtsRd B W' v den cs f H ds :=
 ⟨(InK.keep h.mem fun p hp => hb.cell (p := p) hp.2).more fun k hk => ⟨hk.1, Nat.lt_of_lt_of_le hk.2 hb.size⟩, fun x hx => (h.nu x hx).kept hb, fun x hx => (h.de x hx).kept hb, h.far, h.sml, h.of, h.cols⟩
theorem HtsRd.set (h : HtsRd B W v den cs f H ds) {x : Addr} (hx : x.block < B) (u : Value) : HtsRd B (W.setCell x u) v den cs f H ds :=
 ⟨(InK.keep h.mem fun p hp => World.cell?_of_block (Below.heap_setCell _ _ _ _ (by have := hp.1; omega))).more fun k hk => ⟨hk.1, by simpa using hk.2⟩, fun y hy => (h.nu y hy).setCell (h.far y hy _ hx).1, fun y hy => (h.de y hy).setCell (h.far y hy _ hx).2, h.far, h.sml, h.of, h.cols⟩
theorem HtsRd.base (h : HtsRd B W v den cs f H ds) (hB : B' ≤ B) : HtsRd B' W v den cs f H ds := ⟨h.mem.more fun k hk => ⟨Nat.le_trans hB hk.1, hk.2⟩, h.nu, h.de, fun x hx R hR => h.far x hx R (Nat.lt_of_lt_of_le hR hB), h.sml, h.of, h.cols⟩
theorem HtsRd.rd (h : HtsRd B W v den cs f H ds) : ∀ x ∈ ds, Fr.RdF W x.1.fr false x.1.p x.1.q := fun x hx => ⟨_, _, _, _, rfl, h.nu x hx, h.de x hx⟩
theorem HtsRd.len (h : HtsRd B W v den cs f H ds) : ds.length = H.length := by rw [← h.cols, List.length_map]
theorem HtsRd.nil0 (B : Nat) (W : World) (den : Nat → Nat → Nat) (cs : List Cv) (f : Nat → Nat) : HtsRd B W (.slice none 0 0) den cs f [] [] :=
 ⟨InK.nil, fun _ h => absurd h (by simp), fun _ h => absurd h (by simp), fun _ h => absurd h (by simp), fun _ h => absurd h (by simp), fun _ h => absurd h (by simp), rfl⟩
theorem HtsOf.rd (h : HtsOf B W v den cs f H ds) : HtsRd B W v den cs f H ds :=
 ⟨h.row.read, fun x hx => (h.row.good x hx).nu, fun x hx => (h.row.good x hx).de, h.row.far, fun x hx => (h.row.good x hx).sml, h.of, h.cols⟩
theorem encQ_take (ds : List Mq) {m i : Nat} (hi : i < m) (j : Nat) : encF encQ default (ds.take m) i j = encF encQ default ds i j := by
 simp [encF, List.getD, List.getElem?_take, hi]
theorem HtsRd.take (h : HtsRd B W v den cs f H ds) {a : Option Addr} {c n : Nat} (hv : v = .slice a ds.length c) (hn : n ≤ ds.length) : HtsRd B W (.slice a n c) den cs f (H.take n) (ds.take n) := by
 have hl : (ds.take n).length = n := by rw [List.length_take]; omega
 refine ⟨?_, fun x hx => h.nu x (List.mem_of_mem_take hx), fun x hx => h.de x (List.mem_of_mem_take hx), fun x hx => h.far x (List.mem_of_mem_take hx), fun x hx => h.sml x (List.mem_of_mem_take hx), fun x hx => h.of x (List.mem_of_mem_take hx), by rw [List.map_take, h.cols]⟩
 obtain ⟨a', c', e, h1, h2, h3⟩ := h.mem
 rw [hv] at e
 obtain ⟨rfl, -, rfl⟩ := Value.slice.inj e
 rw [hl]
 refine ⟨a, c, rfl, by omega, h2, fun h0 => ?_⟩
 obtain ⟨b, o, e, hb, hc⟩ := h3 (by omega)
 exact ⟨b, o, e, hb, fun i hi j hj => by rw [hc i (by omega) j hj, encQ_take ds hi]⟩
end
def DelP (B : Nat) (w : World) (v0 : Value) (den : Nat → Nat → Nat) (cs : List Cv) (f : Nat → Nat) (H : List Nat) (ds : List Mq) (m : Nat) (e : Ending) (w' : World) : Prop :=
  ∃ v, e = .returned v ∧ HtsRd B w' v den cs f (H.take m) (ds.take m) ∧ Below B w w' ∧ ∀ k, k < w.heap.size → v0.ownBlock ≠ some k → w'.heap[k]? = w.heap[k]?
end Go.Proofs.YtikiimlmoalbcaaGreatDoor

namespace Go.Proofs.YtikiimlmoalbcaaGreatDoor
open Go.RowKit
theorem Bar2.alloc {w W : World} {x y : Nat} (h : Bar2 w x y W) (_ : w.heap.size ≤ W.heap.size) (o : Obj) : Bar2 w x y (W.alloc o) := h.trans (Bar2.of _ _ ((Below.refl W.heap.size W).alloc (Nat.le_refl _) o))
theorem Bar2.drew {w W : World} {x y : Nat} (h : Bar2 w x y W) : Bar2 w x y W.drew := h.trans (Bar2.of _ _ ((Below.refl W.heap.size W).drew))
theorem Bar2.setCell {w W : World} {x y : Nat} (h : Bar2 w x y W) {p : Addr} (hp : w.heap.size ≤ p.block) (v : Value) : Bar2 w x y (W.setCell p v) :=
 ⟨h.os, h.tape, h.output, by simpa using h.size, fun k hk h1 h2 => (Below.heap_setCell _ _ _ _ (by omega)).trans (h.block k hk h1 h2)⟩
def CertP (cs : List Cv) (q : List ByteArray) (Good : List ByteArray → Nat → List Nat → Prop) (B : Nat) (w' : World) (lv cv : Value) : Prop :=
  ∃ (pl : List Nat) (r : Nat) (cols : List Nat), (∀ j, j < pl.length → pl.getD j 0 < (setOfL (allOf cs)).length) ∧ ReadOk cs q (vsOf cs pl) ∧ r ≤ pl.length ∧ InN w' (fun k => B ≤ k ∧ k < w'.heap.size) lv (sortN (pl.take r)) ∧ ColsAt cs B w' cv cols ∧ (Good (vsOf cs pl) r cols ∨ (r = pl.length ∧ cols = []))
def TopP (w : World) (den : Nat → Nat → Nat) (cs : List Cv) (q : List ByteArray) (k : Nat) (e : Ending) (w' : World) : Prop :=
  ∃ (va : Option Addr) (vc : Nat) (H : List Nat) (ds : List Mq) (la ca : Option Addr) (ln lc cn cc : Nat), e = .returned (.tuple #[.slice va ds.length vc, .agg #[.slice la ln lc, .slice ca cn cc]]) ∧ HtsRd w.heap.size w' (.slice va ds.length vc) den cs (comC cs q) H ds ∧ (∀ S, HitsOk den cs q S → H = S.take k) ∧
    ((k = 0 ∧ ln = 0 ∧ lc = 0 ∧ cn = 0 ∧ cc = 0) ∨ CertP cs q (fun vs r cols => GoodT den cs vs k r cols) w.heap.size w' (.slice la ln lc) (.slice ca cn cc)) ∧ Below w.heap.size w w'
def LeastP (w : World) (den : Nat → Nat → Nat) (cs : List Cv) (q : List ByteArray) (p0 q0 : Nat) (e : Ending) (w' : World) : Prop :=
  ∃ (va : Option Addr) (vc : Nat) (H : List Nat) (ds : List Mq) (la ca : Option Addr) (ln lc cn cc : Nat), e = .returned (.tuple #[.slice va ds.length vc, .agg #[.slice la ln lc, .slice ca cn cc]]) ∧ HtsRd w.heap.size w' (.slice va ds.length vc) den cs (comC cs q) H ds ∧ (∀ S, HitsOk den cs q S → H = S.filter (geU den cs q p0 q0)) ∧
    CertP cs q (fun vs r cols => GoodL den cs vs p0 q0 r cols) w.heap.size w' (.slice la ln lc) (.slice ca cn cc) ∧ Below w.heap.size w w'
section
variable {den : Nat → Nat → Nat} {cs : List Cv} {q vs : List ByteArray} {H : List Nat} {r k p0 q0 : Nat} {cols : List Nat}
theorem known_no {c : Nat} (h : knownB cs vs r cols c = false) : c ∉ cols ∧ bestC cs vs r c ≠ lowC cs vs r c := by
 unfold knownB at h
 rw [Bool.or_eq_false_iff] at h
 exact ⟨of_decide_eq_false h.1, of_decide_eq_false h.2⟩
theorem known_all (hv : ReadOk cs q vs) (hq : q.Nodup) (c : Nat) : knownB cs vs vs.length cols c = true := by
 unfold knownB
 have h := low_all hv hq c
 rw [Bool.or_eq_true]
 exact .inr (decide_eq_true (h.2.trans h.1.symm))
theorem top_fin (hs : Sco q.length den) (hv : ReadOk cs q vs) (hq : q.Nodup) (hH : H.Pairwise (befH den (sizeC cs) (comC cs q))) (hm : ∀ c, c ∈ H ↔ c < cs.length ∧ 0 < comC cs q c ∧ knownB cs vs r cols c = true) (hr : r ≤ vs.length) (hk : 0 < k) (hg : GoodT den cs vs k r cols ∨ (r = vs.length ∧ cols = [])) (S : List Nat) (hS : HitsOk den cs q S) : H.take k = S.take k := by
 rw [known_filter hS (knownB cs vs r cols) hH hm]
 rcases hg with ⟨SS, h1, h2, h3, h4⟩ | ⟨h1, -⟩
 ·refine top_early hs hv hq hS hr h1 h2 hk h3 _ fun c hc => ?_
  rw [← h4]
  exact (known_no hc).1
 ·rw [List.filter_eq_self.2 fun c _ => by rw [h1]; exact known_all hv hq c]
end
end Go.Proofs.YtikiimlmoalbcaaGreatDoor
