/- Proved: called with any arguments of its types, LineageGrows returns true, and its arguments read as before. Go's own tables hold what the program's text lays, which the card ties; no other conditions. -/
import Derived.Test.YtfmlpaplnkohpaaGreatDoorLnBbs
import Derived.Test.YtfmlpaplnkohpaaGreatDoorLnBad
import Derived.ArgAppend
import Derived.Test.YtfmlpaplnkohpaaGreatDoorLnBag
import Derived.Deep.Cut
import Derived.Deep.RegionHeld3
import Derived.Deep.RegionLawGrows
import Derived.Deep.RegionHeldLaw
import Derived.Deep.AppendLies
import Derived.Test.YtfmlpaplnkohpaaGreatDoorLnBbj
import Derived.Test.YtfmlpaplnkohpaaGreatDoorLnBbr
import Derived.Test.YtfmlpaplnkohpaaGreatDoorLnBbt
import Derived.Test.YtfmlpaplnkohpaaGreatDoorLnBbq
set_option linter.unusedVariables false
set_option linter.unusedSimpArgs false
namespace Go.Proofs.YtfmlpaplnkohpaaGreatDoor
open Go.RowKit
def strangeN : ByteArray := ⟨#[115, 116, 114, 97, 110, 103, 101]⟩
theorem ren_strange : ∀ s ∈ kcolNames, ∀ i, i < 3 → s ++ dgL.getD i ⟨#[]⟩ ≠ strangeN := by decide +kernel
theorem strangeN_ok : TextOk 1024 strangeN ∧ TextOk 1024 ⟨#[]⟩ ∧ CellOk ⟨false, ⟨#[49]⟩⟩ := by unfold CellOk TextOk; decide +kernel
def strangeT : Ta := ⟨40, ⟨#[]⟩, [⟨strangeN, [⟨false, ⟨#[49]⟩⟩]⟩]⟩
theorem do_names {ys : List Co} {o : Po} (hc : canL ys.length o = true) : ∀ s ∈ namesL (doL ys o), s ∈ namesL ys := by
  intro s hs
  unfold doL at hs
  split at hs
  · rename_i h3
    have hc2 : o.cols.all (thereL ys.length) = true := by
      unfold canL at hc
      rw [if_neg (by omega), if_neg (by omega), if_pos h3] at hc
      simp only [Bool.and_eq_true] at hc
      exact hc.1
    obtain ⟨c, hcm, rfl⟩ := List.mem_map.1 hs
    obtain ⟨k, hk, rfl⟩ := List.mem_map.1 hcm
    have h4 := List.all_eq_true.1 hc2 k hk
    simp only [thereL, Bool.and_eq_true, decide_eq_true_eq] at h4
    exact List.mem_map_of_mem (getD_mem (by omega) _)
  · obtain ⟨c, hcm, rfl⟩ := List.mem_map.1 hs
    obtain ⟨x, hx, rfl⟩ := List.mem_map.1 hcm
    exact List.mem_map.2 ⟨x, hx, rfl⟩
theorem do_some {ys : List Co} {o : Po} (hf : Few3 ys.length o) (h0 : ys ≠ []) : doL ys o ≠ [] := by
  have hl : 0 < ys.length := List.length_pos_iff.2 h0
  unfold doL
  split
  · rename_i h3
    have h4 := hf.2 h3 hl
    intro e
    have e1 : (projL ys o.cols).length = 0 := by rw [e]; rfl
    rw [projL, List.length_map] at e1
    omega
  · intro e
    have e1 : (selL ys (rowsL ys o (rowsC ys))).length = 0 := by rw [e]; rfl
    rw [selL, List.length_map] at e1
    omega
theorem do_none {ys : List Co} {o : Po} (hc : canL ys.length o = true) (h0 : ys = []) : doL ys o = [] := by
  apply List.eq_nil_iff_forall_not_mem.2
  intro c hm
  have h := do_names hc c.name (List.mem_map_of_mem hm)
  rw [h0] at h
  cases h
theorem fam_names {k t : Ta} (h : FamQ k t) : ∀ s ∈ namesL t.cols, s ∈ namesL (renL k.cols) :=
  h.2 (fun ys => ∀ s ∈ namesL ys, s ∈ namesL (renL k.cols)) (fun _ hs => hs) fun ys o hy hc _ s hs => hy s (do_names hc s hs)
theorem fam_some {k t : Ta} (h : FamQ k t) : t.cols = [] ↔ renL k.cols = [] := by
  constructor
  · intro h0
    apply Classical.byContradiction
    intro hn
    exact h.2 (fun ys => ys ≠ []) hn (fun ys o hy _ hf => do_some hf hy) h0
  · intro h0
    exact h.2 (fun ys => ys = []) h0 fun ys o hy hc _ => do_none hc hy
theorem fam_strange {k t : Ta} (hk : KTabOk k) (h : FamQ k t) : strangeN ∉ namesL t.cols := by
  intro hm
  obtain ⟨c, hc, e⟩ := List.mem_map.1 (fam_names h _ hm)
  obtain ⟨i, hi, rfl⟩ := List.mem_map.1 hc
  have hi' : i < k.cols.length := List.mem_range.1 hi
  obtain ⟨-, h3, n, -, hx⟩ := hk
  exact ren_strange _ (hx _ (getD_mem hi' Co.z)).1 i (by omega) e
theorem strange_new {k : Ta} {ts : List Ta} (hk : KTabOk k) (hq : ∀ t ∈ ts, FamQ k t) (h0 : renL k.cols ≠ []) : linksL (ts ++ [strangeT]) = linksL ts := by
  refine links_grow (fun b hb => ?_) fun a ha => ⟨_, List.mem_singleton.2 rfl, fam_strange hk (hq a ha)⟩
  have hne : b.cols ≠ [] := fun e => h0 ((fam_some (hq b hb)).1 e)
  obtain ⟨c, r, e⟩ := List.exists_cons_of_ne_nil hne
  refine ⟨c, by rw [e]; simp, fun hm => ?_⟩
  have e1 : c.name = strangeN := by simpa [strangeT, namesL] using hm
  exact fam_strange hk (hq b hb) (by rw [e, ← e1]; simp [namesL])
theorem strange_list {ts : List Ta} (h4 : ts.length ≤ 4) (hi : ∀ i, i < ts.length → (ts.getD i Ta.z).id = (i : Int) + 1) (h : ListV ts) : ListV (ts ++ [strangeT]) := by
  refine ⟨by simp; omega, fun t ht => ?_, List.pairwise_append.2 ⟨h.2.2, by simp, fun a ha b hb => ?_⟩⟩
  · rcases List.mem_append.1 ht with h1 | h1
    · exact h.2.1 t h1
    · rw [List.mem_singleton.1 h1]
      refine ⟨by decide, by decide, strangeN_ok.2.1, by decide, 1, by omega, fun x hx => ?_⟩
      rw [List.mem_singleton.1 hx]
      refine ⟨strangeN_ok.1, rfl, fun c hc => ?_⟩
      rw [List.mem_singleton.1 hc]
      exact strangeN_ok.2.2
  · rw [List.mem_singleton.1 hb]
    obtain ⟨i, hil, rfl⟩ := List.getElem_of_mem ha
    have h1 := hi i hil
    simp [List.getD, hil] at h1
    show ts[i].id < 40
    omega
theorem strange_few {k : Ta} {ts : List Ta} (hk : KTabOk k) (hq : ∀ t ∈ ts, FamQ k t) : ∀ t ∈ ts ++ [strangeT], Few t.cols := by
  intro t ht
  rcases List.mem_append.1 ht with h1 | h1
  · exact fam_few hk (hq t h1)
  · rw [List.mem_singleton.1 h1]
    refine ⟨1, by omega, fun x hx => ?_⟩
    rw [List.mem_singleton.1 hx]
    refine ⟨strangeN_ok.1, rfl, fun c hc => ?_⟩
    rw [List.mem_singleton.1 hc]
    exact strangeN_ok.2.2
theorem strange_anc {ts : List Ta} (h4 : ts.length ≤ 4) (hi : ∀ i, i < ts.length → (ts.getD i Ta.z).id = (i : Int) + 1) (K : Nat) : (ancL (linksL ts) K [40]).drop 1 = [] := by
  have h1 : toL (linksL ts) 40 = none := to_far fun c hc => by
    obtain ⟨i, hil, rfl⟩ := List.getElem_of_mem hc
    have h1 := hi i hil
    simp [List.getD, hil] at h1
    omega
  cases K with
  | zero => rfl
  | succ K =>
    have h2 : ([40] : List Int).getLastD 0 = 40 := rfl
    rw [anc_step, h2, h1]
    rfl
theorem right_more {ts us : List Ta} {x : Lk} (h : RightL ts x) : RightL (ts ++ us) x := by
  obtain ⟨a, ha, b, hb, r⟩ := h
  exact ⟨a, List.mem_append_left _ ha, b, List.mem_append_left _ hb, r⟩
end Go.Proofs.YtfmlpaplnkohpaaGreatDoor

namespace Go.Proofs.YtfmlpaplnkohpaaGreatDoor
open Go.RowKit
theorem step_append_growsg {P : Program} {ops : Array Oper} {o : Oper} {a : Act} {w : World} {K : Act → World → Prop} {Q : Exit → Act → World → Prop} {E : Prop}
    (hw : Region.wanted o (yielded ops a.tmps) = true) (s x : Operand) (t : TypeId) (hop : o.op = Op.call { callee := Callee.builtin Builtin.append, args := #[s, x], argTypes := #[t, t] })
    (e : TypeId) (i : TypeInfo) (z : Value) (size bytes : Nat) (h1 : P.underlying t = some (.slice e)) (h2 : P.info? e = some i) (h3 : i.zero = some z) (h4 : i.size = size) (h5 : i.bytes = bytes) (h6 : z.cells.size = size) (h7 : 0 < size)
    (b : Addr) (n cap : Nat) (olds : List Value) (hs : a.eval s = .slice (some b) n cap) (hlo : olds.length = n * size) (holds : ∀ j u, olds[j]? = some u → w.cell? (b.add j) = some u)
    (ad : Addr) (m c : Nat) (news : List Value) (hx : a.eval x = .slice (some ad) m c) (hn : news.length = m * size) (hc : ∀ j u, news[j]? = some u → w.cell? (ad.add j) = some u)
    (hfull : cap < n + m) (b1 : n + m ≤ maxLen) (b2 : (n + m) * bytes ≤ 140737488355328)
    (hK : ∀ v' w', w'.ownsRow w.heap.size e size v' (n + m) (olds ++ news) → w.grownBy w' none → K (a.put o.dst v') w') :
    if Region.wanted o (yielded ops a.tmps) = true then Oper.wp P o a w K Q else E := by
  rw [if_pos hw]
  obtain ⟨v', w', hrun, r1, r2⟩ := run_append_arg_grows (P := P) w t o.type e i z size bytes h1 h2 h3 h4 h5 h6 h7 b n cap olds hlo holds ad m c news hn hc hfull b1 b2
  unfold Oper.wp
  simp [execOp, hop, resolve, invoke, builtin, hs, hx, hrun, Result.andThen]
  exact hK v' w' r1 r2
theorem ta_push {ts : List Ta} {tv : Nat → Value} {x : Ta} {u : Value} {q : Nat} (hq : ts.length = q) (hu : tv q = u) : flatK 3 q (taF ts tv) ++ [.int .i64 x.id, .string x.name, u] = flatK 3 (q + 1) (taF (ts ++ [x]) tv) := by
  subst hq
  refine flat_push (fun i hi j hj => ?_) ?_
  · simp [taF, List.getD, List.getElem?_append_left hi]
  · simp [taF, List.getD, List.range_succ, three, hu]
theorem rdTa_pushed {W' : World} {base : Nat} {e : TypeId} {v' : Value} {n : Nat} {ts : List Ta} {tv : Nat → Value} {x : Ta} {u : Value} {S : Nat → Prop} (hn : n = ts.length)
    (hown : W'.ownsRow base e 3 v' (n + 1) (flatK 3 n (taF ts tv) ++ [.int .i64 x.id, .string x.name, u])) (hS : ∀ b, v'.ownBlock = some b → S b) (hk : ∀ i, i < ts.length → RdCo W' S (tv i) (ts.getD i Ta.z).cols) (hu : RdCo W' S u x.cols) :
    RdTa W' S v' (ts ++ [x]) := by
  subst hn
  have e1 : flatK 3 ts.length (taF ts tv) = flatK 3 ts.length (taF ts (fun i => if i = ts.length then u else tv i)) := flatK_congr fun i hi j hj => by
    have : i ≠ ts.length := by omega
    simp [taF, this]
  rw [e1, ta_push (q := ts.length) rfl (by simp)] at hown
  refine ⟨fun i => if i = ts.length then u else tv i, ?_, fun i hi => ?_⟩
  · have h := inK_of_owns hown
    rw [List.length_append, List.length_singleton]
    exact h.more hS
  · rw [List.length_append, List.length_singleton] at hi
    by_cases e2 : i = ts.length
    · subst e2
      simp only [if_true]
      have e3 : (ts ++ [x]).getD ts.length Ta.z = x := by simp [List.getD]
      rw [e3]
      exact hu
    · simp only [if_neg e2]
      have e3 : (ts ++ [x]).getD i Ta.z = ts.getD i Ta.z := by simp [List.getD, List.getElem?_append_left (show i < ts.length by omega)]
      rw [e3]
      exact hk i (by omega)
theorem rdTa_cells {w : World} {S : Nat → Prop} {v : Value} {ts : List Ta} (h : RdTa w S v ts) (hp : 0 < ts.length) : ∃ b o c tv, v = .slice (some ⟨b, o, none⟩) ts.length c ∧ S b ∧ ts.length ≤ c ∧ c ≤ maxLen ∧ (∀ i, i < ts.length → RdCo w S (tv i) (ts.getD i Ta.z).cols) ∧
    ∀ (j : Nat) (u : Value), (flatK 3 ts.length (taF ts tv))[j]? = some u → w.cell? ⟨b, o + j, none⟩ = some u := by
  obtain ⟨tv, ⟨a, c, rfl, h1, h2, hr⟩, hk⟩ := h
  obtain ⟨b, o, rfl, hb, hc⟩ := hr hp
  refine ⟨b, o, c, tv, rfl, hb, h1, h2, hk, fun j u hj => ?_⟩
  have hlt : j < ts.length * 3 := by
    have := (List.getElem?_eq_some_iff.1 hj).1
    rwa [flatK_len] at this
  have hd : j / 3 < ts.length := by omega
  have e : j = j / 3 * 3 + j % 3 := by omega
  have h3 := hc (j / 3) hd (j % 3) (by omega)
  have h4 := flatK_at (k := 3) (f := taF ts tv) hd (show j % 3 < 3 by omega)
  rw [← e] at h4
  rw [h4] at hj
  rw [Nat.add_assoc, ← e] at h3
  rw [h3]
  exact hj
theorem strange_read {W : World} {n : Nat} {S : Nat → Prop} (h0 : BoxN W n 42 #[.bool false, .string ⟨#[49]⟩]) (h1 : BoxN W (n + 1) 39 #[.string strangeN, .slice (some ⟨n, 0, none⟩) 1 1]) (hS : S n) (hS1 : S (n + 1)) :
    RdCo W S (.slice (some ⟨n + 1, 0, none⟩) 1 1) strangeT.cols := by
  refine ⟨fun _ => .slice (some ⟨n, 0, none⟩) 1 1, ⟨some ⟨n + 1, 0, none⟩, 1, rfl, Nat.le_refl _, by unfold maxLen; omega, fun _ => ⟨n + 1, 0, rfl, hS1, fun i hi j hj => ?_⟩⟩, fun i hi => ⟨some ⟨n, 0, none⟩, 1, ?_, ?_, by unfold maxLen; omega, fun _ => ⟨n, 0, rfl, hS, fun i' hi' j hj => ?_⟩⟩⟩
  · have hi0 : i = 0 := Nat.lt_one_iff.1 hi
    subst hi0
    rcases (show j = 0 ∨ j = 1 by omega) with rfl | rfl
    · exact h1.cell 0 rfl
    · exact h1.cell 1 rfl
  · have hi0 : i = 0 := Nat.lt_one_iff.1 hi
    subst hi0
    rfl
  · have hi0 : i = 0 := Nat.lt_one_iff.1 hi
    subst hi0
    exact Nat.le_refl _
  · have hi0 : i = 0 := Nat.lt_one_iff.1 hi
    subst hi0
    have hi1 : i' = 0 := Nat.lt_one_iff.1 hi'
    subst hi1
    rcases (show j = 0 ∨ j = 1 by omega) with rfl | rfl
    · exact h0.cell 0 rfl
    · exact h0.cell 1 rfl
end Go.Proofs.YtfmlpaplnkohpaaGreatDoor

namespace Go.Proofs.YtfmlpaplnkohpaaGreatDoor
open Go.RowKit
set_option maxRecDepth 100000 in
set_option maxHeartbeats 8000000 in
theorem law39_grows (a : Option Addr) (n c : Nat) (w : World) (hA : RdI w w.heap.size a n c) (hT : Tabs w) (hP : Pow w) :
    Calls Tryz.prog 10 #[.slice a n c] w (Ret w (.bool true)) := by
  have HA := hid hA
  have HT := hid hT
  have HP := hid hP
  have hnm : n ≤ maxLen := Nat.le_trans hA.1 hA.2.1
  have HAW := hid (fun W (hW : Below w.heap.size w W) => law39_awake W (hT.below hW))
  clear hA hT hP
  by_cases hg : n ≤ 500
  · have HLI := hid (kit_Light a n c w hnm)
    rw [decide_eq_true hg] at HLI
    go_enter Tryz.func10, Tryz.ntmps10
    go_wp2_with fail
    with_reducible refine HLI.out.mono ?_
    rintro e w0 ⟨rfl, rfl⟩
    clear HLI
    go_wp2_with fail
    with_reducible refine (kit_Roll a n c _ HA.out hg HP.out).mono ?_
    rintro e w1 ⟨rfl, hd1, hb1⟩
    have hz1 := hd1.lt
    have HB1 := hid hb1
    have HFA := hid (law39_family w.heap.size w1 hd1 ⟨w, HT.out, Nat.le_refl _, hb1⟩)
    clear hd1 hb1
    go_wp2_with fail
    with_reducible refine HFA.out.mono ?_
    rintro e w2 ⟨k, ts, v, rfl, hok, hl3, hl4, hids, hfq, hv, -, hr2⟩
    have hlist := fam_list hl4 hids hfq
    have hfew : ∀ t ∈ ts, Few t.cols := fun t ht => fam_few hok (hfq t ht)
    have HB2 := hid (HB1.out.trans (hr2.below (B' := w.heap.size) (Nat.le_refl _) (by omega)))
    have hv2 := hv.more (S' := (· < w2.heap.size)) fun b hb => hb.2
    have HV := hid (fun W (hW : Below w2.heap.size w2 W) => hv2.keep (w' := W) fun p (hp : p.block < w2.heap.size) => hW.cell (p := p) hp)
    have HLI2 := hid (lin_Links ts v w2.heap.size w2 hlist hfew hv2 (Nat.le_refl _) (HT.out.below HB2.out))
    have HLIST := hid (strange_list hl4 hids hlist)
    have HFEW := hid (strange_few hok hfq)
    have HRT := hid (fun x hx => right_more (us := [strangeT]) (links_right hlist hfew x hx))
    have HLD := hid (links_dst hlist.2.2)
    have HLL : Hid ((linksL ts).length ≤ ts.length) := hid (List.length_filterMap_le _ _)
    have HANC := hid (strange_anc hl4 hids (ts.length + 2))
    have HNEW := hid (fun h0 => strange_new hok hfq h0)
    have HSOME := hid (fam_some (hfq _ (getD_mem (show 0 < ts.length by omega) Ta.z)))
    obtain ⟨b, o, vc, tv, rfl, hb, hvc1, hvc2, hkid, hcel⟩ := rdTa_cells hv2 (by omega)
    have hvm : ts.length ≤ maxLen := Nat.le_trans hvc1 hvc2
    have HCEL := hid hcel
    have HKID := hid hkid
    obtain ⟨b', o', c', x0, y0, e3, -, -, -, -, k2⟩ := ta_at hv2 (q := 0) (by omega)
    obtain ⟨e4, -, -⟩ := Value.slice.inj e3
    obtain ⟨rfl, rfl⟩ : b = b' ∧ o = o' := by simpa using e4
    have k2' : w2.cell? ⟨b, o + 2, none⟩ = some (.slice x0 (ts.getD 0 Ta.z).cols.length y0) := by simpa using k2
    clear hv hv2 hr2 hids hfq hok hfew hlist HFA hcel hkid e3 k2 e4
    obtain ⟨cl0, hcl0⟩ : ∃ cl0, cl0 = (ts.getD 0 Ta.z).cols.length := ⟨_, rfl⟩
    rw [← hcl0] at k2'
    have HCL0 := hid hcl0
    clear hcl0
    obtain ⟨N, hN⟩ : ∃ N, N = ts.length := ⟨_, rfl⟩
    rw [← hN] at HV HLI2 HLL HANC HCEL HKID hl3 hl4 hvc1 hvm
    rw [← hN]
    have HN := hid hN.symm
    clear hN
    have hN0 : (0 : Int) < (N : Int) := by omega
    by_cases h0 : cl0 = 0
    · subst h0
      go_wp2_with fail
      with_reducible refine (HAW.out w2 HB2.out).mono ?_
      rintro e w8 ⟨rfl, hb8⟩
      have HF := hid (HB2.out.trans (hb8.mono HB2.out.size))
      go_wp2
      go_ret
      exact ⟨rfl, HF.out⟩
    · have h0i : ¬ ((cl0 : Int) = 0) := by omega
      have h0d : decide ((cl0 : Int) = 0) = false := decide_eq_false h0i
      have HNEWS : Hid (linksL (ts ++ [strangeT]) = linksL ts) := hid (HNEW.out fun e => h0 (by rw [HCL0.out, HSOME.out.2 e]; rfl))
      clear HNEW HSOME HCL0
      go_wp2_with fail
      with_reducible refine HLI2.out.mono ?_
      rintro e w3 ⟨u, rfl, hu, hb3⟩
      have HB3 := hid hb3
      have HB03 := hid (HB2.out.trans (hb3.mono HB2.out.size))
      have hu3 := hu.more (S' := (· < w3.heap.size)) fun b hb => hb.2
      have HU := hid (fun W (hW : Below w3.heap.size w3 W) => hu3.keep (w' := W) fun p (hp : p.block < w3.heap.size) => hW.cell (p := p) hp)
      obtain ⟨ua, uc, rfl, -, -⟩ := rdLk_len hu
      obtain ⟨M, hM⟩ : ∃ M, M = (linksL ts).length := ⟨_, rfl⟩
      rw [← hM] at HU HLL
      rw [← hM]
      have HM := hid hM.symm
      clear hM hu hu3 hb3 HLI2 k2'
      obtain ⟨X, hX⟩ : ∃ X, X = ((w3.alloc (.cells #[.bool false, .string ⟨#[49]⟩] 42)).alloc (.cells #[.string strangeN, .slice (some ⟨w3.heap.size, 0, none⟩) 1 1] 39)).alloc (.cells #[.int .i64 40, .string ⟨#[]⟩, .slice (some ⟨w3.heap.size + 1, 0, none⟩) 1 1] 29) := ⟨_, rfl⟩
      have hx0 := ((BoxN.new w3 #[.bool false, .string ⟨#[49]⟩] 42).alloc (.cells #[.string strangeN, .slice (some ⟨w3.heap.size, 0, none⟩) 1 1] 39)).alloc (.cells #[.int .i64 40, .string ⟨#[]⟩, .slice (some ⟨w3.heap.size + 1, 0, none⟩) 1 1] 29)
      have hx1 := (BoxN.new (w3.alloc (.cells #[.bool false, .string ⟨#[49]⟩] 42)) #[.string strangeN, .slice (some ⟨w3.heap.size, 0, none⟩) 1 1] 39).alloc (.cells #[.int .i64 40, .string ⟨#[]⟩, .slice (some ⟨w3.heap.size + 1, 0, none⟩) 1 1] 29)
      have hx2 := BoxN.new ((w3.alloc (.cells #[.bool false, .string ⟨#[49]⟩] 42)).alloc (.cells #[.string strangeN, .slice (some ⟨w3.heap.size, 0, none⟩) 1 1] 39)) #[.int .i64 40, .string ⟨#[]⟩, .slice (some ⟨w3.heap.size + 1, 0, none⟩) 1 1] 29
      have hsx := (((Below.refl w3.heap.size w3).alloc (Nat.le_refl _) (.cells #[.bool false, .string ⟨#[49]⟩] 42)).alloc (by simp) (.cells #[.string strangeN, .slice (some ⟨w3.heap.size, 0, none⟩) 1 1] 39)).alloc (by simp; omega) (.cells #[.int .i64 40, .string ⟨#[]⟩, .slice (some ⟨w3.heap.size + 1, 0, none⟩) 1 1] 29)
      rw [← hX] at hx0 hx1 hx2 hsx
      simp only [World.size_alloc] at hx1 hx2
      have HX0 := hid hx0
      have HX1 := hid hx1
      have HX2 := hid hx2
      have HSX := hid hsx
      have HB2X := hid (HB3.out.trans (hsx.mono HB3.out.size))
      have hz2 := HB3.out.size
      have hzx := hsx.size
      have hzl := hx2.lt
      have HOLD := hid (fun W (hW : Below X.heap.size X W) => fun (b' : Addr) (e : some (⟨b, o, none⟩ : Addr) = some b') (j : Nat) (u : Value) (hj : (flatK 3 N (taF ts tv))[j]? = some u) => (by
        obtain rfl := Option.some.inj e
        have h1 := HCEL.out j u hj
        have h2 : (⟨b, o, none⟩ : Addr).add j = ⟨b, o + j, none⟩ := by unfold Addr.add; split <;> simp_all
        rw [h2]
        exact ((HB2X.out.trans (hW.mono HB2X.out.size)).cell (p := ⟨b, o + j, none⟩) hb).trans h1 : W.cell? (b'.add j) = some u))
      have HBOX := hid (fun W (hW : Below X.heap.size X W) => (⟨(HX2.out.below hW HX2.out.lt).cell 0 rfl, (HX2.out.below hW HX2.out.lt).cell 1 rfl, (HX2.out.below hW HX2.out.lt).cell 2 rfl⟩ : W.cell? ⟨w3.heap.size + 1 + 1, 0, none⟩ = some (.int .i64 40) ∧ W.cell? ⟨w3.heap.size + 1 + 1, 1, none⟩ = some (.string ⟨#[]⟩) ∧ W.cell? ⟨w3.heap.size + 1 + 1, 2, none⟩ = some (.slice (some ⟨w3.heap.size + 1, 0, none⟩) 1 1)))
      have HROW := hid (fun (W : World) (v' : Value) (base : Nat) (hW : Below X.heap.size X W) (hown : W.ownsRow base 29 3 v' (N + 1) (flatK 3 N (taF ts tv) ++ [.int .i64 40, .string ⟨#[]⟩, .slice (some ⟨w3.heap.size + 1, 0, none⟩) 1 1])) => (rdTa_pushed (x := strangeT) HN.out.symm hown (fun b h => (hown.lt b h).2) (fun i hi => (((HKID.out i (by rw [← HN.out]; exact hi)).keep fun p (hp : p.block < w2.heap.size) => (HB2X.out.trans (hW.mono HB2X.out.size)).cell (p := p) hp).more fun b (hb : b < w2.heap.size) => by have := HB2X.out.size; have := hW.size; show b < W.heap.size; omega)) (strange_read (HX0.out.below hW HX0.out.lt) (HX1.out.below hW HX1.out.lt) (by have := HX0.out.lt; have := hW.size; show w3.heap.size < W.heap.size; omega) (by have := HX1.out.lt; have := hW.size; show w3.heap.size + 1 < W.heap.size; omega)) : RdTa W (· < W.heap.size) v' (ts ++ [strangeT])))
      have HLI3 := hid (fun (W : World) (v' : Value) (hW : Below X.heap.size X W) (hr : RdTa W (· < W.heap.size) v' (ts ++ [strangeT])) => lin_Links (ts ++ [strangeT]) v' W.heap.size W HLIST.out HFEW.out hr (Nat.le_refl _) (HT.out.below (HB2.out.trans ((HB2X.out.trans (hW.mono HB2X.out.size)).mono HB2.out.size))))
      unfold LinksP at HLI3
      rw [HNEWS.out] at HLI3
      clear hx0 hx1 hx2 hsx
      obtain ⟨i0, hi, hz0, hz1, hz2'⟩ := info_parts info_taF
      have hNm : (N : Int) ≤ (vc : Int) := by omega
      go_upto_region 8 with fail
      rw [show (⟨#[115, 116, 114, 97, 110, 103, 101]⟩ : ByteArray) = strangeN from rfl, ← hX]
      clear hX
      have hS0 := HBOX.out _ ((Below.refl X.heap.size X).drew)
      go_region_held_law (fun W => W.cell? ⟨w3.heap.size + 1 + 1, 0, none⟩ = some (.int .i64 40) ∧ W.cell? ⟨w3.heap.size + 1 + 1, 1, none⟩ = some (.string ⟨#[]⟩) ∧ W.cell? ⟨w3.heap.size + 1 + 1, 2, none⟩ = some (.slice (some ⟨w3.heap.size + 1, 0, none⟩) 1 1))
        (first | exact hS0 | exact hS1 | exact hS2 | exact HBOX.out _ (((Below.refl X.heap.size X).drew).alloc (Nat.le_refl _) _) | go_keep)
        (first
          | ((refine step_append_grows rfl (.tmp 39) (.tmp 41) 55 rfl 29 i0 (.agg #[.int .i64 0, .string ⟨#[]⟩, .slice none 0 0]) 3 48 Tryz.underlying55 hi hz0 hz1 hz2' rfl (by decide) (some ⟨b, o, none⟩) N N (flatK 3 N (taF ts tv)) rfl (fun h => by cases h) (flatK_len _ _ _) (HOLD.out _ (((Below.refl X.heap.size X).drew).alloc (Nat.le_refl _) _)) ⟨X.heap.size, 0, none⟩ 1 1 [.int .i64 40, .string ⟨#[]⟩, .slice (some ⟨w3.heap.size + 1, 0, none⟩) 1 1] rfl rfl (World.news_of_block (BoxN.new X.drew _ _)) (by intro u hu; simp at hu; rcases hu with rfl | rfl | rfl <;> rfl) (by omega) (by unfold maxLen; omega) (by omega) ?_); intro v7 w7 hown7 hg7; have HBA7 := hid ((((Below.refl X.heap.size X).drew).alloc (Nat.le_refl _) _).grown hg7 (by simp [World.alloc]) (fun k e => by cases e)); have HR7 := hid (HROW.out w7 v7 _ HBA7.out hown7); have hS1 := HBOX.out w7 HBA7.out; clear hown7 hg7)
          | (go_at_call 28; go_must (((with_reducible refine (HLI3.out w7 v7 HBA7.out HR7.out).mono ?_); rintro e w8 ⟨u8, rfl, hu8, hb8⟩; have HBA8 := hid (HBA7.out.trans (hb8.mono HBA7.out.size)); have HU8 := hid hu8; have hS2 := HBOX.out w8 HBA8.out; clear hb8 hu8))))
      have HU9 := hid (fun W (hW : Below w8.heap.size w8 W) => rdLk_next (HU8.out.more fun b hb => hb.2) hW)
      have HU9' := hid (fun W (hW : Below w8.heap.size w8 W) => ((HU.out W (HSX.out.trans ((HBA8.out.trans (hW.mono HBA8.out.size)).mono HSX.out.size))).more fun b (hb : b < w3.heap.size) => (by have := HSX.out.size; have := HBA8.out.size; have := hW.size; omega : b < W.heap.size) : RdLk W (· < W.heap.size) (.slice ua M uc) (linksL ts)))
      obtain ⟨u8a, u8c, rfl, -, -⟩ := rdLk_len HU8.out
      rw [HM.out] at HU8 HU9 ⊢
      have HSAME := hid (fun W (hW : Below w8.heap.size w8 W) => ref39_Same (linksL ts) (.slice ua M uc) (.slice u8a M u8c) W.heap.size W (HU9'.out W hW) (HU9.out W hW) (Nat.le_refl _))
      have HANCC := hid (fun W (hW : Below w8.heap.size w8 W) => lin_Ancestors (.slice u8a M u8c) (linksL ts) W.heap.size 40 (N + 2) W (by have h1 := HLL.out; have h2 := HM.out; omega) (by have h1 := HLL.out; have h2 := HM.out; omega) (HU9.out W hW) (Nat.le_refl _))
      unfold AncP at HANCC
      rw [HANC.out] at HANCC
      have HCHK := hid (fun W (v' : Value) (hW : Below w8.heap.size w8 W) (hr : RdTa W (· < W.heap.size) v' (ts ++ [strangeT])) => lin_Check (ts ++ [strangeT]) (linksL ts) v' (.slice ua M uc) W.heap.size W HLIST.out HRT.out HLD.out (by have h1 := HLL.out; have h2 := HM.out; omega) hr (HU9'.out W hW) (Nat.le_refl _) (HT.out.below (HB2.out.trans ((HB2X.out.trans ((HBA8.out.trans (hW.mono HBA8.out.size)).mono HB2X.out.size)).mono HB2.out.size))))
      have HAW8 := hid (fun W (hW : Below w8.heap.size w8 W) => HAW.out W (HB2.out.trans ((HB2X.out.trans ((HBA8.out.trans (hW.mono HBA8.out.size)).mono HB2X.out.size)).mono HB2.out.size)))
      have HBOX8 := hid (fun W (hW : Below w8.heap.size w8 W) => HBOX.out W (HBA8.out.trans (hW.mono HBA8.out.size)))
      have HOLD8 := hid (fun W (hW : Below w8.heap.size w8 W) => HOLD.out W (HBA8.out.trans (hW.mono HBA8.out.size)) ⟨b, o, none⟩ rfl)
      have HROW8 := hid (fun W v' base (hW : Below w8.heap.size w8 W) => HROW.out W v' base (HBA8.out.trans (hW.mono HBA8.out.size)))
      clear hS0 hS1 hS2
      go_upto_region 9 with fail
      have hS0 := HBOX8.out _ ((Below.refl w8.heap.size w8).drew)
      go_region_held_law (fun W => W.cell? ⟨w3.heap.size + 1 + 1, 0, none⟩ = some (.int .i64 40) ∧ W.cell? ⟨w3.heap.size + 1 + 1, 1, none⟩ = some (.string ⟨#[]⟩) ∧ W.cell? ⟨w3.heap.size + 1 + 1, 2, none⟩ = some (.slice (some ⟨w3.heap.size + 1, 0, none⟩) 1 1))
        (first | exact hS0 | exact hS9 | exact hS10 | exact hS11 | exact hS12 | exact hS13 | exact HBOX8.out _ (HBA10.out.alloc HBA10.out.size _) | go_keep)
        (first
          | (go_at_call 35; go_must (((with_reducible refine (HSAME.out _ (Below.refl w8.heap.size w8).drew).mono ?_); rintro e w9 ⟨rfl, hb9⟩; have HBA9 := hid ((Below.refl w8.heap.size w8).drew.trans hb9); have hS9 := HBOX8.out w9 HBA9.out; clear hb9)))
          | (go_at_call 31; go_must (((with_reducible refine (HANCC.out w9 HBA9.out).mono ?_); rintro e w10 ⟨v10, rfl, ⟨a10, c10, rfl, -⟩, hb10⟩; have HBA10 := hid (HBA9.out.trans (hb10.mono HBA9.out.size)); have hS10 := HBOX8.out w10 HBA10.out; clear hb10)))
          | (go_at_call 29; go_must (((with_reducible refine (HCHK.out w11 v11 HBA11.out HR11.out).mono ?_); rintro e w12 ⟨rfl, hb12⟩; have HBA12 := hid (HBA11.out.trans (hb12.mono HBA11.out.size)); have hS12 := HBOX8.out w12 HBA12.out; clear hb12)))
          | (go_at_call 26; go_must (((with_reducible refine (HAW8.out w12 HBA12.out).mono ?_); rintro e w13 ⟨rfl, hb13⟩; have HBA13 := hid (HBA12.out.trans (hb13.mono HBA12.out.size)); have hS13 := HBOX8.out w13 HBA13.out; clear hb13)))
          | ((refine step_append_growsg (by rfl) (.tmp 69) (.tmp 71) 55 rfl 29 i0 (.agg #[.int .i64 0, .string ⟨#[]⟩, .slice none 0 0]) 3 48 Tryz.underlying55 hi hz0 hz1 hz2' rfl (by decide) ⟨b, o, none⟩ N N (flatK 3 N (taF ts tv)) rfl (flatK_len _ _ _) (HOLD8.out _ (HBA10.out.alloc HBA10.out.size _)) ⟨w10.heap.size, 0, none⟩ 1 1 [.int .i64 40, .string ⟨#[]⟩, .slice (some ⟨w3.heap.size + 1, 0, none⟩) 1 1] rfl rfl (World.news_of_block (BoxN.new w10 _ _)) (by omega) (by unfold maxLen; omega) (by omega) ?_); intro v11 w11 hown11 hg11; have HBA11 := hid ((HBA10.out.alloc HBA10.out.size _).grown hg11 (Nat.le_trans HBA10.out.size (by rw [World.size_alloc]; omega)) (fun k e => by cases e)); have HR11 := hid (HROW8.out w11 v11 _ HBA11.out hown11); have hS11 := HBOX8.out w11 HBA11.out; clear hown11 hg11))
      go_wp2
      go_ret
      exact ⟨rfl, HB2.out.trans ((HB2X.out.trans ((HBA8.out.trans (HBA13.out.mono HBA8.out.size)).mono HB2X.out.size)).mono HB2.out.size)⟩
  · have HLI := hid (kit_Light a n c w hnm)
    rw [decide_eq_false hg] at HLI
    go_enter Tryz.func10, Tryz.ntmps10
    go_wp2_with fail
    with_reducible refine HLI.out.mono ?_
    rintro e w0 ⟨rfl, rfl⟩
    go_wp2_with fail
    with_reducible refine (HAW.out w (Below.refl _ _)).mono ?_
    rintro e w4 ⟨rfl, hb4⟩
    go_wp2
    go_ret
    exact ⟨rfl, hb4⟩
end Go.Proofs.YtfmlpaplnkohpaaGreatDoor

namespace Go.Proofs.YtfmlpaplnkohpaaGreatDoor
open Go.ChangeShapes Go.WideShapes Go.ChangeAt Go.RowKit Go.Lib
set_option linter.unusedVariables false
theorem door_met (os : Os) (args : Array Value) : laidMetH Tryz.prog Rows.lineageGrowsRow.laid ((laidWorld os).forCall (fun _ _ => 0) ⟨#[], args, []⟩).memory :=
  laidMetH_of_parts3 (fuel := 8) (laidMet_of_run' 8 (by kernel_rfl) (by kernel_rfl)) (by kernel_rfl) (by kernel_rfl)
set_option maxRecDepth 100000 in
theorem lifted (os : Os) (started : os.Started) (H : Type) (enc : TypeId × Value → H) :
    ReturnsInHanded {} Tryz.checked os 10 .any (fun w args => (Rows.lineageGrowsSpec.pre enc Tryz.prog Tryz.f10 [] false w args ∧ laidMetH Tryz.prog Rows.lineageGrowsRow.laid w) ∧ sizedMet enc Tryz.prog Tryz.f10 (OpenSpec.ofChange Rows.lineageGrowsSpec) false w args)
      (Rows.lineageGrowsSpec.post enc Tryz.prog Tryz.f10 false true false false) := by
  refine returnsInHanded_of_change_and (C := Tryz.checked) (X := fun w _ => laidMetH Tryz.prog Rows.lineageGrowsRow.laid w) (fun _ _ _ hh h => h.of_heap hh) kOwn started (by kernel_rfl) Tryz.func10
    (ChangeSpec.witness_shaped (enc := enc) (C := Tryz.checked) (os := os) (X := fun w _ => laidMetH Tryz.prog Rows.lineageGrowsRow.laid w) false (laidWorld os) #[.slice none 0 0] 8 rfl (World.shaped_of_RefB (by kernel_rfl) (by kernel_rfl)) (by kernel_rfl) (by kernel_rfl) (by kernel_rfl) (door_met os _)) ?_
  intro W base args ds gs before hval0 hW _ _ hL _
  have hval : ∀ (j : Nat) t v, Tryz.f10.params[j]? = some t → args[j]? = some v → Value.okWide Tryz.prog W .any base t v := hval0
  have hW' := hW
  obtain ⟨p, q, hA0, hV, rfl, _, _⟩ := hW
  have hA : DataW.TrodAll enc Tryz.prog W 0 (fun _ => true) true Tryz.f10.params.toList args.toList ds p := hA0
  rw [Tryz.params10] at hA hval
  obtain ⟨v0, vs0, d0, ds0, p0, q0, hargs, rfl, rfl, h0, r0⟩ := trodAll_cons hA
  obtain ⟨rfl, rfl, rfl⟩ := trodAll_nil r0
  obtain rfl : args = #[v0] := by cases args; simp_all
  obtain ⟨rfl, rfl⟩ := trodVars_none hV
  have h0k := h0
  obtain ⟨fuel0, hf0⟩ := h0
  clear hA0 hval0
  simp only [List.append_nil] at hW'
  have hlt0 : ∀ x ∈ p0, x.block < W.heap.size := fun x hx => by
    have := hW'.lt x (by first | exact hx | simpa using hx | simp [hx])
    simpa using this
  have TABS : Tabs W := by
    have hm : laidMetH Tryz.prog Rows.lineageGrowsRow.laid W := hL
    rw [MakeChecks.laidMetH_plain _ _ _ (by kernel_rfl)] at hm
    exact tabs_of hm (by simp [Rows.lineageGrowsRow]) (by simp [Rows.lineageGrowsRow])
  have POW : Pow W := by
    have hm : laidMetH Tryz.prog Rows.lineageGrowsRow.laid W := hL
    rw [MakeChecks.laidMetH_plain _ _ _ (by kernel_rfl)] at hm
    exact pow_of hm (by simp [Rows.lineageGrowsRow])
  obtain ⟨A0, L0, C0, rfl⟩ := okWide_slice Tryz.underlying22 (hval 0 22 v0 rfl rfl)
  have R0 : RdI W W.heap.size A0 L0 C0 := by
    rcases open_ints Tryz.underlying22 Tryz.underlying3 kCellsI hf0 with ⟨hcs, hx⟩ | ⟨a, len', cap', zs, hcs, _, hl, hm, hz, hx, hcell, hwz⟩
    · simp [Value.cells] at hcs
      obtain ⟨rfl, rfl, rfl⟩ := hcs
      exact ⟨Nat.le_refl _, by simp [maxLen], fun h => absurd h (by omega)⟩
    · simp [Value.cells] at hcs
      obtain ⟨rfl, rfl, rfl⟩ := hcs
      exact rdI_of hl hm (by simpa using hz) hcell hwz
  refine (law39_grows A0 L0 C0 W R0 TABS POW).mono fun e W' ⟨he, hg⟩ => ?_
  subst he
  have hback0 : DataW.Trod enc Tryz.prog W' 0 (fun b => decide (b < W.heap.size)) true 22 (.slice A0 L0 C0) d0 p0 :=
    Below.trod kLaid (by kernel_rfl) (of_decide_eq_true (by kernel_rfl)) h0k hg hlt0
  exact ⟨_, rfl, _, _, _, [], _, [], hW', (trodAll_cons_mk (shut_bool Tryz.underlying4 _) trodAll_mk0), (trodAll_cons_mk hback0 trodAll_mk0), rfl, hg.frame _, fun h => by cases h⟩
theorem said : Rows.LineageGrowsSaid :=
  OpenClaim.holds_of_wide 10 Tryz.f10 rfl rfl rfl rfl rfl rfl rfl ⟨rfl, rfl, rfl, rfl, rfl⟩ rfl rfl rfl rfl rfl (by kernel_rfl) Tryz.func10 (by kernel_rfl)
    (of_decide_eq_true (by kernel_rfl)) (by unfold Func.isWrapper; first | (rw [if_pos (by decide +kernel)]; kernel_rfl) | (rw [if_neg (by decide +kernel)]; exact ⟨rfl, rfl⟩))
    (fun os started H enc _ => lifted os started H enc)
theorem proved : Rows.LineageGrowsCardSaid :=
  Claim7.holds_tied_plain_at .later [] Rows.lineageGrowsCard.laidKinds true (true, Rows.lineageGrowsCard.stood.harness.2) false
    said (fun _ h => by cases h) (by kernel_rfl) (fun _ h => by cases h) lineageGrows_row_tie rfl ⟨rfl, rfl⟩ (by kernel_rfl) rfl
    (fun f fn hf hfn => by
      obtain rfl : f = 10 := Option.some.inj ((show Tryz.prog.funcNamed "tablefinder/tablefinderlaw39.LineageGrows" = some 10 by kernel_rfl).symm.trans hf) |>.symm
      obtain rfl : fn = Tryz.f10 := (Option.some.inj (Tryz.func10.symm.trans hfn)).symm
      exact ⟨by kernel_rfl, fun j t ht => by
        rw [Tryz.params10] at ht
        have h3 : t = 22 := by
          rcases j with _ | j
          · simpa using ht.symm
          · simp at ht
        rcases h3 with rfl
        · exact (show Tryz.prog.wantsStandIn 22 = false by kernel_rfl)⟩)
    (by kernel_rfl)
#print axioms proved
end Go.Proofs.YtfmlpaplnkohpaaGreatDoor
