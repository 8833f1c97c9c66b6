/- Contract of ref18.put. DERIVED: THE SHELF's CONTRACTS AT THIS DUMP, IN PLAIN WORDS (tools/lay-plain.mjs out of 'YtikiimlmoalbcaaGreatDoorShTL.lean', which tools/lay-shelf.mjs wrote): THE SAME DECLARATIONS UNDER THE SAME NAMES: 'import', 'namespace', 'open', 'def', 'theorem' AND NOTHING ELSE: no command of the shelf's: FOR A HAND-IN. Each laying: the table of numbers ('.._ren') and one theorem, a field a fact of the dump's own or the kernel's comparison; each contract: ONE APPLICATION. -/
import Derived.ArgAppend
import Derived.Test.YtikiimlmoalbcaaGreatDoorOOtal
import Derived.Shelf.SortM.Plain
import Derived.Shelf.SortM.SortNone
import Derived.Shelf.SlicesG.CompactS
import Derived.Ground.SlgnProg
import Derived.Ground.SlgmProg
import Derived.Test.YtikiimlmoalbcaaGreatDoorProg
set_option linter.unusedVariables false
set_option linter.unusedSimpArgs false
namespace Go.Proofs.YtikiimlmoalbcaaGreatDoor
open Go.RowKit
theorem flatK_appP (k : Nat) (f g : Nat → Nat → Value) (n : Nat) : ∀ m, flatK k n f ++ flatK k m g = flatK k (n + m) (fun i j => if i < n then f i j else g (i - n) j)
  | 0 => by
    rw [show flatK k 0 g = [] from rfl, List.append_nil, Nat.add_zero]
    exact flatK_congr fun i hi j _ => by rw [if_pos hi]
  | m + 1 => by
    rw [flatK_succ, ← List.append_assoc, flatK_appP k f g n m, ← Nat.add_assoc, flatK_succ]
    congr 1
    apply List.map_congr_left
    intro j _
    rw [if_neg (by omega), show n + m - n = m by omega]
theorem src_of_inKP {k : Nat} {w : World} {b o n : Nat} {f : Nat → Nat → Value} (hk : 0 < k) (h : ∀ i, i < n → ∀ j, j < k → w.cell? ⟨b, o + i * k + j, none⟩ = some (f i j)) :
    ∀ j u, (flatK k n f)[j]? = some u → w.cell? ((⟨b, o, none⟩ : Addr).add j) = some u := by
  intro j u hu
  have hj : j < n * k := by have := (List.getElem?_eq_some_iff.1 hu).1; rwa [flatK_len] at this
  have h1 : j / k < n := (Nat.div_lt_iff_lt_mul hk).2 hj
  have h2 := h (j / k) h1 (j % k) (Nat.mod_lt _ hk)
  rw [show o + j / k * k + j % k = o + j by rw [Nat.add_assoc, Nat.div_add_mod']] at h2
  rw [Addr.add_lit, h2]
  have h3 : (flatK k n f)[j]? = some (f (j / k) (j % k)) := by
    clear h h2 hu h1
    induction n with
    | zero => omega
    | succ n ih =>
      rw [flatK_succ]
      rcases Nat.lt_or_ge j (n * k) with h | h
      · rw [List.getElem?_append_left (by rw [flatK_len]; exact h)]
        exact ih h
      · rw [List.getElem?_append_right (by rw [flatK_len]; exact h), flatK_len]
        have e1 : j / k = n := by
          rw [Nat.succ_mul] at hj
          exact Nat.div_eq_of_lt_le h (by rw [Nat.succ_mul]; exact hj)
        have e2 : j % k = j - n * k := by
          have := Nat.div_add_mod' j k
          rw [e1] at this
          omega
        have e3 : j - n * k < k := by rw [Nat.succ_mul] at hj; omega
        rw [e1, e2]
        simp [e3]
  rw [h3] at hu
  exact hu
theorem step_append_grows {P : Program} {w : World} {ops : Array Oper} {o : Oper} {a : Act} {K : Act → World → Prop} {Q : Exit → Act → World → Prop} {E : Prop} (hgd : o.guard = none) (s x : Operand) (t : TypeId)
    (ho : o.op = .call { callee := .builtin .append, args := #[s, x], argTypes := #[t, t] }) (e : TypeId) (i : TypeInfo) (z : Value) (size bytes : Nat) (h1 : P.underlying t = some (.slice e)) (h2 : P.info? e = some i) (h3 : i.zero = some z) (h4 : i.size = size) (h5 : i.bytes = bytes) (h6 : z.cells.size = size) (h7 : 0 < size)
    (ao : Option Addr) (n cap : Nat) (olds : List Value) (hs : a.eval s = .slice ao n cap) (hnone : ao = none → n = 0 ∧ cap = 0) (hlo : olds.length = n * size) (holds : ∀ b, ao = some b → ∀ j u, olds[j]? = some u → w.cell? (b.add j) = some u)
    (ad : Addr) (m c : Nat) (news : List Value) (hx : a.eval x = .slice (some ad) m c) (hn : news.length = m * size) (hc : ∀ j u, news[j]? = some u → w.cell? (ad.add j) = some u) (h1c : ∀ u ∈ news, u.oneCell' = true)
    (hfull : cap < n + m) (b1 : n + m ≤ maxLen) (b2 : (n + m) * bytes ≤ 140737488355328)
    (h : ∀ v' w', w'.ownsRow w.heap.size e size v' (n + m) (olds ++ news) → w.grownBy w' none → K (a.put o.dst v') w') :
    if Region.wanted o (yielded ops a.tmps) = true then Oper.wp P o a w K Q else E := by
  have hw : Region.wanted o (yielded ops a.tmps) = true := by simp [Region.wanted, hgd]
  rw [if_pos hw]
  have key : ∃ v' w', (Builtin.append_ #[t, t] o.type #[.slice ao n cap, .slice (some ad) m c]).run P w = .ok v' w' ∧ w'.ownsRow w.heap.size e size v' (n + m) (olds ++ news) ∧ w.grownBy w' none := by
    cases ao with
    | some b => exact run_append_arg_grows (P := P) w t o.type e i z size bytes h1 h2 h3 h4 h5 h6 h7 b n cap olds hlo (holds b rfl) ad m c news hn hc hfull b1 b2
    | none =>
      obtain ⟨rfl, rfl⟩ := hnone rfl
      obtain rfl : olds = [] := List.eq_nil_of_length_eq_zero (by simpa using hlo)
      obtain ⟨v', w', hrun, r1, r2, _⟩ := run_append_own (P := P) w w.heap.size t o.type e i z size bytes h1 h2 h3 h4 h5 h6 h7 (.slice none 0 0) 0 [] (World.ownsRow_nil w _ e size) ad m c news hn hc h1c b1 b2 (Nat.le_refl _)
      exact ⟨v', w', hrun, r1, r2⟩
  obtain ⟨v', w', hrun, r1, r2⟩ := key
  unfold Oper.wp execOp
  simp only [ho, resolve, invoke, builtin, Sem.run_bind, Sem.run_pure, Result.andThen_ok, List.map_toArray, List.map_cons, List.map_nil, hs, hx, hrun]
  exact h v' w' r1 r2
def putL (cs : List Cv) (k : Nat) (c : Cv) : List Cv := cs.take k ++ c :: cs.drop k
theorem putL_len {cs : List Cv} {k : Nat} (hk : k ≤ cs.length) (c : Cv) : (putL cs k c).length = cs.length + 1 := by
  unfold putL
  rw [List.length_append, List.length_cons, List.length_take, List.length_drop]
  omega
theorem putL_at {cs : List Cv} {k : Nat} (hk : k ≤ cs.length) (c : Cv) (i : Nat) : (putL cs k c).getD i Cv.z = if i < k then cs.getD i Cv.z else if i = k then c else cs.getD (i - 1) Cv.z := by
  unfold putL
  have hl : (cs.take k).length = k := by rw [List.length_take]; omega
  by_cases h : i < k
  · rw [if_pos h]
    have hic : i < cs.length := by omega
    simp [List.getD, List.getElem?_append_left, hl, h, List.getElem?_take, hic]
  · rw [if_neg h]
    obtain ⟨d, rfl⟩ : ∃ d, i = k + d := ⟨i - k, by omega⟩
    cases d with
    | zero =>
      rw [if_pos (by omega)]
      simp [List.getD, List.getElem?_append_right, hl]
    | succ d =>
      rw [if_neg (by omega)]
      simp [List.getD, List.getElem?_append_right, hl, show k + (d + 1) - k = d + 1 by omega, show k + (d + 1) - 1 = k + d by omega]
theorem own_new3 {W V : World} {base : Nat} {e : TypeId} {x y z : Value} (h : V.heap[W.heap.size]? = some (.cells #[x, y, z] e)) (hb : base ≤ W.heap.size) : V.ownsRow base e 3 (.slice (some ⟨W.heap.size, 0, none⟩) 1 1) 1 [x, y, z] :=
  ⟨rfl, .inr ⟨W.heap.size, 1, #[x, y, z], rfl, hb, h, Nat.le_refl _, by unfold maxLen; omega, rfl, rfl⟩⟩
theorem own_src {w : World} {base g n cap size : Nat} {e : TypeId} {xs : List Value} (h : w.ownsRow base e size (.slice (some ⟨g, 0, none⟩) n cap) n xs) : ∀ j u, xs[j]? = some u → w.cell? ((⟨g, 0, none⟩ : Addr).add j) = some u := by
  intro j u hj
  obtain ⟨hl, h⟩ := h
  rcases h with ⟨e1, -⟩ | ⟨g', cap', cur, e1, h2, h3, h4, h5, h6, h7⟩
  · cases e1
  · obtain ⟨e2, -, rfl⟩ := Value.slice.inj e1
    obtain rfl : g = g' := congrArg Addr.block (Option.some.inj e2)
    rw [Addr.add_lit, Nat.zero_add]
    rw [← h7, List.getElem?_take] at hj
    split at hj
    · unfold World.cell?
      simp only [h3]
      simpa using hj
    · cases hj
theorem one_cvP {cs : List Cv} {vv : Nat → Value} {w : World} {S : Nat → Prop} (h : ∀ i, i < cs.length → InS w S (vv i) (cs.getD i Cv.z).2) (m K : Nat) (hm : K + m ≤ cs.length) : ∀ u ∈ flatK 3 m (fun i => cvF cs vv (K + i)), u.oneCell' = true := by
  intro u hu
  unfold flatK at hu
  rw [List.mem_flatMap] at hu
  obtain ⟨i, hi, hu⟩ := hu
  rw [List.mem_range] at hi
  rw [List.mem_map] at hu
  obtain ⟨j, hj, rfl⟩ := hu
  rw [List.mem_range] at hj
  obtain ⟨a, c, e, -⟩ := h (K + i) (by omega)
  unfold cvF
  rcases j with _ | _ | _ | j
  · rfl
  · rfl
  · show (vv (K + i)).oneCell' = true
    rw [e]
    rfl
  · omega
def putV (vv : Nat → Value) (K : Nat) (u : Value) (i : Nat) : Value := if i < K then vv i else if i = K then u else vv (i - 1)
theorem put_row {cs : List Cv} {vv : Nat → Value} {c : Cv} {u : Value} {K : Nat} (hK : K ≤ cs.length) :
    flatK 3 K (cvF cs vv) ++ ([.int .i64 c.1.1, .int .i64 (c.1.2 : Int), u] ++ flatK 3 (cs.length - K) (fun i => cvF cs vv (K + i))) = flatK 3 (cs.length + 1) (cvF (putL cs K c) (putV vv K u)) := by
  have e1 : ([.int .i64 c.1.1, .int .i64 (c.1.2 : Int), u] : List Value) = flatK 3 1 (fun _ => three (.int .i64 c.1.1) (.int .i64 (c.1.2 : Int)) u) := rfl
  rw [e1, flatK_appP, flatK_appP, show K + (1 + (cs.length - K)) = cs.length + 1 by omega]
  refine flatK_congr fun i hi j hj => ?_
  unfold cvF putV
  rw [putL_at hK]
  by_cases h : i < K
  · rw [if_pos h, if_pos h, if_pos h]
  · rw [if_neg h, if_neg h, if_neg h]
    by_cases h2 : i = K
    · subst h2
      rw [if_pos (by omega), if_pos rfl, if_pos rfl]
    · rw [if_neg (by omega), if_neg h2, if_neg h2, show K + (i - K - 1) = i - 1 by omega]
theorem put_done {cs : List Cv} {vv : Nat → Value} {c : Cv} {u v' : Value} {K N base : Nat} {w w' : World} {e : TypeId} (hK : K ≤ cs.length) (hN : N = cs.length + 1) (hkids : ∀ i, i < cs.length → InS w (· < w.heap.size) (vv i) (cs.getD i Cv.z).2) (hu : InS w (· < w.heap.size) u c.2) (hb : Below w.heap.size w w')
    (hown : w'.ownsRow base e 3 v' N (flatK 3 K (cvF cs vv) ++ ([.int .i64 c.1.1, .int .i64 (c.1.2 : Int), u] ++ flatK 3 (cs.length - K) (fun i => cvF cs vv (K + i))))) : RdCv w' (· < w'.heap.size) v' (putL cs K c) := by
  subst hN
  rw [put_row hK] at hown
  have hlt := hown.lt
  refine ⟨putV vv K u, ?_, fun i hi => ?_⟩
  · rw [putL_len hK]
    exact (inK_of_owns hown).more fun b hb => (hlt b hb).2
  · rw [putL_len hK] at hi
    rw [putL_at hK]
    have key : ∀ {x : Value} {xs : List ByteArray}, InS w (· < w.heap.size) x xs → InS w' (· < w'.heap.size) x xs := fun h => (InK.keep h fun p hp => hb.cell (p := p) hp).more fun b h2 => Nat.lt_of_lt_of_le h2 hb.size
    unfold putV
    by_cases h : i < K
    · rw [if_pos h, if_pos h]
      exact key (hkids i (by omega))
    · rw [if_neg h, if_neg h]
      by_cases h2 : i = K
      · rw [if_pos h2, if_pos h2]
        exact key hu
      · rw [if_neg h2, if_neg h2]
        exact key (hkids (i - 1) (by omega))
set_option maxRecDepth 100000 in
set_option maxHeartbeats 4000000 in
theorem ref18_put (cs : List Cv) (v u : Value) (c : Cv) (K : Nat) (w : World) (hv : RdCv w (· < w.heap.size) v cs) (hu : InS w (· < w.heap.size) u c.2) (hn : cs.length ≤ 65536) (ha0 : v = .slice none 0 0 ∨ ∃ b c, v = .slice (some ⟨b, 0, none⟩) cs.length c) (hK : K ≤ cs.length) (hlt : ∀ i, i < K → rlt (refZ (cs.getD i Cv.z)) (refZ c) = true) (hge : K < cs.length → rlt (refZ (cs.getD K Cv.z)) (refZ c) = false ∧ refZ (cs.getD K Cv.z) ≠ refZ c) :
  Calls Tryz.prog 73 #[v, .agg #[.int .i64 c.1.1, .int .i64 (c.1.2 : Int), u]] w (fun e w' => ∃ v', e = .returned (.tuple #[v', .bool true]) ∧ RdCv w' (· < w'.heap.size) v' (putL cs K c) ∧ Below w.heap.size w w') := by
 obtain ⟨i0, hi, hz0, hz1, hz2⟩ := info_parts info_cv
 obtain ⟨vv, ⟨a, cap, rfl, hcap, hmx, hrd⟩, hkids⟩ := hv
 have ha : (a = none ∧ cap = 0 ∧ cs.length = 0) ∨ ∃ b, a = some ⟨b, 0, none⟩ := by
  rcases ha0 with e | ⟨b, c, e⟩
  ·obtain ⟨e1, e2, e3⟩ := Value.slice.inj e
   exact .inl ⟨e1, e3, e2⟩
  ·exact .inr ⟨b, (Value.slice.inj e).1⟩
 clear ha0
 obtain ⟨ua, uc, rfl, huc, hum, hur⟩ := id hu
 have HU := hid hu
 have HKIDS := hid hkids
 have HRD := hid hrd
 have HCE : Hid (∀ i W, i < cs.length → Below w.heap.size w W → ∃ b o, a = some ⟨b, o, none⟩ ∧ b < w.heap.size ∧ W.cell? ⟨b, o + i * 3, none⟩ = some (.int .i64 (refZ (cs.getD i Cv.z)).1) ∧ W.cell? ⟨b, o + i * 3 + 1, none⟩ = some (.int .i64 (refZ (cs.getD i Cv.z)).2)) := hid (fun i W hi hW => by
  obtain ⟨b, o, e, hb, hc⟩ := hrd (by omega)
  exact ⟨b, o, e, hb, (hW.cell (p := ⟨b, o + i * 3, none⟩) hb).trans (hc i hi 0 (by omega)), (hW.cell (p := ⟨b, o + i * 3 + 1, none⟩) hb).trans (hc i hi 1 (by omega))⟩)
 have HLT := hid hlt
 have HGE := hid hge
 clear hlt hge hkids hrd hu hur
 have hrc1 : c.1.1 = (refZ c).1 := rfl
 have hrc2 : (c.1.2 : Int) = (refZ c).2 := rfl
 rw [hrc1, hrc2]
 have HRC := hid (show refZ c = (c.1.1, (c.1.2 : Int)) from rfl)
 clear hrc1 hrc2
 generalize hrr : refZ c = rr at *
 obtain ⟨r1, r2⟩ := rr
 obtain ⟨n, hnn⟩ : ∃ n, n = cs.length := ⟨_, rfl⟩
 have HN := hid hnn
 rw [← hnn] at hn hK hcap HCE HGE ha ⊢
 clear hnn hrr
 obtain ⟨ul, hul⟩ : ∃ ul, ul = c.2.length := ⟨_, rfl⟩
 have HUL := hid hul
 rw [← hul]
 clear hul
 unfold maxLen at hmx
 have HXc := hid (BoxN.new w #[.int .i64 r1, .int .i64 r2, .slice ua ul uc] 116)
 have HBc := hid ((Below.refl w.heap.size w).alloc (Nat.le_refl _) (.cells #[.int .i64 r1, .int .i64 r2, .slice ua ul uc] 116))
 go_enter Tryz.func73, Tryz.ntmps73
 go_wp2_with fail
 generalize w.alloc (.cells #[.int .i64 r1, .int .i64 r2, .slice ua ul uc] 116) = W0 at *
 go_loopg [6, 7, 8, 9, 10, 11, 12, 13, 14, 15, 16, 17, 18, 19, 20, 21, 22] (K + 1) (fun N i u7 u8 u9 u10 u11 u12 u13 u14 u15 u16 u17 u18 u19 u20 u21 u22 wr => ∃ q : Nat, q + N = K + 1 ∧ i = .int .i64 (q : Int) ∧ Hid (Below W0.heap.size W0 wr) ∧ q ≤ K)
 case atStart => exact ⟨0, by omega, rfl, hid (Below.refl _ _), by omega⟩
 case round =>
  obtain ⟨q, hq, rfl, HB, hqK⟩ := hrel
  have HBW := hid (HBc.out.trans (HB.out.mono HBc.out.size))
  have hxb := HXc.out.below HB.out HXc.out.lt
  have f0 := fun p : LaterOf wr => p.cell (hxb.cell 0 rfl)
  have f1 := fun p : LaterOf wr => p.cell (hxb.cell 1 rfl)
  clear hxb
  by_cases hqk : q < K
  ·have hqn : (q : Int) < (n : Int) := by omega
   have hqd : decide (q < n) = true := decide_eq_true (by omega)
   obtain ⟨b, o, rfl, hb, y0, y1⟩ := HCE.out q wr (by omega) HBW.out
   have hltq := HLT.out q hqk
   generalize refZ (cs.getD q Cv.z) = pr at *
   obtain ⟨pa, pb⟩ := pr
   simp only at y0 y1
   have f2 := fun p : LaterOf wr => p.cell y0
   have f3 := fun p : LaterOf wr => p.cell y1
   have HC2 := hid (fun p : LaterOf wr => (show Calls Tryz.prog 94 #[.agg #[.int .i64 pa, .int .i64 pb], .agg #[.int .i64 r1, .int .i64 r2]] p.W fun e w'' => e = .returned (.bool true) ∧ ∃ q : LaterOf wr, w'' = q.W from later_call p (by have h := ref03_LessQ pa pb r1 r2 p.W; rw [hltq] at h; exact h)))
   go_wp2_with fail
   refine wp_region_later (by kernel_rfl) (by kernel_rfl) ?_
   repeat (first | go_big_quiet_step ((go_at_call 94; exact HC2.out _)) | quiet_step ((go_at_call 94; exact HC2.out _)))
   refine wpQuiet_nil ?_
   intro _ hw'
   obtain ⟨p5, hw''⟩ := hw'
   subst hw''
   have hb5 := p5.hb
   generalize p5.W = w5 at *
   have HB9 := hid (HB.out.trans (hb5.mono HB.out.size))
   clear f0 f1 f2 f3 HC2 hb5
   go_wp2_with fail
   go_roundg (gk - 1)
   case rel => exact ⟨q + 1, by omega, by go_num, HB9, by omega⟩
   case measure => omega
  ·obtain rfl : K = q := by omega
   rcases ha with ⟨rfl, rfl, h0⟩ | ⟨b, rfl⟩
   ·obtain rfl : n = 0 := by have := HN.out; omega
    obtain rfl : K = 0 := by omega
    have hqd : decide ((0 : Int) < 0) = false := by simp
    go_wp2_with fail
    refine wp_region_later (by kernel_rfl) (by kernel_rfl) ?_
    repeat (first | go_big_quiet_step (fail) | quiet_step (fail))
    refine wpQuiet_nil ?_
    intro _ hw'
    obtain ⟨p5, hw''⟩ := hw'
    subst hw''
    have hb5 := p5.hb
    have x0 := f0 p5
    have x1 := f1 p5
    generalize p5.W = w5 at *
    have HB9 := hid (HB.out.trans (hb5.mono HB.out.size))
    have HBX := hid (HBW.out.trans (hb5.mono HBW.out.size))
    clear f0 f1 hb5
    go_upto_region 4 with fail
    go_region
    go_wp2_with fail
    have HXB5 := hid ((HXc.out.below HB9.out HXc.out.lt))
    have v0 := HXB5.out.cell 0 rfl
    have v1 := HXB5.out.cell 1 rfl
    have v2 := HXB5.out.cell 2 rfl
    have HOLD : Hid (∀ W, Below w.heap.size w W → ∀ b', (none : Option Addr) = some b' → ∀ j u, (flatK 3 0 (cvF cs vv))[j]? = some u → W.cell? (b'.add j) = some u) := hid (fun W hW b' e j u hj => (by cases e))
    have HSRC : Hid (∀ W, Below w.heap.size w W → 0 < 0 - 0 → ∃ ad, (none : Option Addr) = some ad ∧ ∀ j u, (flatK 3 (0 - 0) (fun i => cvF cs vv (0 + i)))[j]? = some u → W.cell? (ad.add j) = some u) := hid (fun W hW h0 => absurd h0 (by omega))
    have HONE := hid (one_cvP HKIDS.out 0 0 (by have := HN.out; omega))
    have hB6 : Below w.heap.size w (w5.alloc (.cells #[.int .i64 r1, .int .i64 r2, .slice ua ul uc] 116)).drew.drew := (HBX.out.alloc HBX.out.size _).drew.drew
    have hO6 : (w5.alloc (.cells #[.int .i64 r1, .int .i64 r2, .slice ua ul uc] 116)).drew.drew.ownsRow w.heap.size 116 3 (.slice (some ⟨w5.heap.size, 0, none⟩) 1 1) 1 [.int .i64 r1, .int .i64 r2, .slice ua ul uc] := (own_new3 (W := w5) (heap_alloc_new w5 _) HBX.out.size).drew.drew
    have HB6 := hid hB6
    have HO6 := hid hO6
    clear hB6 hO6
    have HON : Hid (∀ u ∈ ([.int .i64 r1, .int .i64 r2, .slice ua ul uc] : List Value), u.oneCell' = true) := hid (fun u hu => by simp at hu; rcases hu with rfl | rfl | rfl <;> rfl)
    go_region_law (first
     | ((refine step_append_form _ rfl (.tmp 42) (.tmp 45) 111 111 rfl w.heap.size 116 116 i0 (.agg #[.int .i64 0, .int .i64 0, .slice none 0 0]) 3 40 Tryz.underlying111 Tryz.underlying111 hi hz0 hz1 hz2 rfl (by decide) (.slice (some ⟨w5.heap.size, 0, none⟩) 1 1) 1 [.int .i64 r1, .int .i64 r2, .slice ua ul uc] rfl HO6.out _ 0 _ (flatK 3 0 (fun i => cvF cs vv (0 + i))) rfl (flatK_len _ _ _) (fun h0 => absurd h0 (Nat.lt_irrefl 0)) HONE.out (by omega) (by unfold maxLen; omega) (by omega) HB6.out.size ?_); intro p7 cap7 w7 hown7 hg7 hat7 hlt7; have HB7 : Hid (Below w.heap.size w w7) := hid (Below.grown HB6.out hg7 HB6.out.size (fun k hk => by have h1 := HBX.out.size; have h2 : w5.heap.size = k := (Option.some.inj hk); omega)); have HOWN7 := hid hown7; clear hown7 hg7 hat7)
     | ((refine step_append_grows rfl (.tmp 40) (.tmp 46) 111 rfl 116 i0 (.agg #[.int .i64 0, .int .i64 0, .slice none 0 0]) 3 40 Tryz.underlying111 hi hz0 hz1 hz2 rfl (by decide) _ 0 _ (flatK 3 0 (cvF cs vv)) rfl (by exact fun _ => ⟨rfl, rfl⟩) (flatK_len _ _ _) (HOLD.out _ HB7.out) ⟨p7, 0, none⟩ (1 + 0) cap7 _ rfl HOWN7.out.1 (own_src HOWN7.out) (fun u hu => (List.mem_append.1 hu).elim (HON.out u) (HONE.out u)) (by omega) (by unfold maxLen; omega) (by omega) ?_); intro v8 w8 hown8 hg8; have HOWN8 := hid hown8; have HB8 : Hid (Below w.heap.size w w8) := hid (Below.grown HB7.out hg8 (Below.size HB7.out) (fun k hk => by cases hk)); clear hown8 hg8))
    all_goals
     have hr1 : r1 = c.1.1 := congrArg Prod.fst HRC.out
     have hr2 : r2 = (c.1.2 : Int) := congrArg Prod.snd HRC.out
     have hfin := HOWN8.out
     rw [hr1, hr2, HUL.out] at hfin
     have HFIN := hid (put_done (K := 0) (cs := cs) (vv := vv) (c := c) (u := .slice ua c.2.length uc) (w := w) (N := 0 + (1 + 0)) (by have := HN.out; omega) (by have := HN.out; omega) HKIDS.out HU.out HB8.out (by rw [show cs.length - 0 = 0 by have := HN.out; omega]; exact hfin))
     clear hfin hr1 hr2 v0 v1 v2
     go_wp2
     all_goals refine bodyPost_ret (v := .tuple #[v8, .bool true]) (by simp [results, Tryz.results73, go_sem]) rfl ?_
     all_goals exact ⟨v8, rfl, HFIN.out, HB8.out⟩
   ·have HOLDC : Hid (∀ W, Below w.heap.size w W → ∀ m, m ≤ n → ∀ j u, (flatK 3 m (cvF cs vv))[j]? = some u → W.cell? ((⟨b, 0, none⟩ : Addr).add j) = some u) := hid (fun W hW m hm j u hj => src_of_inKP (k := 3) (n := m) (by omega) (fun i hi j hj => (by
      have := HN.out
      obtain ⟨b', o', e, hb, hc⟩ := HRD.out (by omega)
      obtain rfl : b = b' := congrArg Addr.block (Option.some.inj e)
      obtain rfl : 0 = o' := congrArg Addr.off (Option.some.inj e)
      exact (hW.cell (p := ⟨b, 0 + i * 3 + j, none⟩) hb).trans (hc i (by omega) j hj))) j u hj)
    have HSRCC : Hid (∀ W, Below w.heap.size w W → ∀ j u, (flatK 3 (n - K) (fun i => cvF cs vv (K + i)))[j]? = some u → W.cell? ((⟨b, K * 3, none⟩ : Addr).add j) = some u) := hid (fun W hW j u hj => src_of_inKP (k := 3) (n := n - K) (by omega) (fun i hi j hj => (by
      have := HN.out
      obtain ⟨b', o', e, hb, hc⟩ := HRD.out (by omega)
      obtain rfl : b = b' := congrArg Addr.block (Option.some.inj e)
      obtain rfl : 0 = o' := congrArg Addr.off (Option.some.inj e)
      rw [show K * 3 + i * 3 + j = 0 + (K + i) * 3 + j by omega]
      exact (hW.cell (p := ⟨b, 0 + (K + i) * 3 + j, none⟩) hb).trans (hc (K + i) (by omega) j hj))) j u hj)
    rcases Nat.lt_or_ge K n with hKn | hKn
    ·have hqn : (K : Int) < (n : Int) := by omega
     have hqd : decide (K < n) = true := decide_eq_true hKn
     obtain ⟨b', o', e, hb, y0, y1⟩ := HCE.out K wr (by omega) HBW.out
     obtain rfl : b = b' := congrArg Addr.block (Option.some.inj e)
     obtain rfl : 0 = o' := congrArg Addr.off (Option.some.inj e)
     obtain ⟨hltq, hne⟩ := HGE.out hKn
     clear e
     generalize refZ (cs.getD K Cv.z) = pr at *
     obtain ⟨pa, pb⟩ := pr
     simp only at y0 y1
     rw [Nat.zero_add] at y0 y1
     have f2 := fun p : LaterOf wr => p.cell y0
     have f3 := fun p : LaterOf wr => p.cell y1
     have HC2 := hid (fun p : LaterOf wr => (show Calls Tryz.prog 94 #[.agg #[.int .i64 pa, .int .i64 pb], .agg #[.int .i64 r1, .int .i64 r2]] p.W fun e w'' => e = .returned (.bool false) ∧ ∃ q : LaterOf wr, w'' = q.W from later_call p (by have h := ref03_LessQ pa pb r1 r2 p.W; rw [hltq] at h; exact h)))
     have HNE : Hid (¬ (pa = r1 ∧ pb = r2)) := hid (fun h => hne (by rw [h.1, h.2]))
     clear hne y0 y1
     go_wp2_with fail
     refine wp_region_later (by kernel_rfl) (by kernel_rfl) ?_
     repeat (first | go_big_quiet_step ((go_at_call 94; exact HC2.out _)) | quiet_step ((go_at_call 94; exact HC2.out _)))
     refine wpQuiet_nil ?_
     intro _ hw'
     obtain ⟨p5, hw''⟩ := hw'
     subst hw''
     have hb5 := p5.hb
     have y0 := f2 p5
     have y1 := f3 p5
     have x0 := f0 p5
     have x1 := f1 p5
     by_cases hpr : pa = r1
     ·have hpb : ¬ pb = r2 := fun e => HNE.out ⟨hpr, e⟩
      generalize p5.W = w5 at *
      have HB9 := hid (HB.out.trans (hb5.mono HB.out.size))
      have HBX := hid (HBW.out.trans (hb5.mono HBW.out.size))
      clear f0 f1 f2 f3 HC2 hb5
      go_upto_region 4 with fail
      go_region
      go_wp2_with fail
      have HXB5 := hid ((HXc.out.below HB9.out HXc.out.lt))
      have v0 := HXB5.out.cell 0 rfl
      have v1 := HXB5.out.cell 1 rfl
      have v2 := HXB5.out.cell 2 rfl
      have hcK : ¬ cap = K := by omega
      have hs1 : (K : Int) ≤ (cap : Int) := by omega
      have hs2 : (K : Int) ≤ (n : Int) := by omega
      have hs3 : (n : Int) ≤ (cap : Int) := by omega
      have HOLD : Hid (∀ W, Below w.heap.size w W → ∀ b', (some ⟨b, 0, none⟩ : Option Addr) = some b' → ∀ j u, (flatK 3 K (cvF cs vv))[j]? = some u → W.cell? (b'.add j) = some u) := hid (fun W hW b' e j u hj => (by cases e; exact HOLDC.out W hW K (by omega) j u hj))
      have HSRC : Hid (∀ W, Below w.heap.size w W → 0 < n - K → ∃ ad, (some ⟨b, K * 3, none⟩ : Option Addr) = some ad ∧ ∀ j u, (flatK 3 (n - K) (fun i => cvF cs vv (K + i)))[j]? = some u → W.cell? (ad.add j) = some u) := hid (fun W hW h0 => ⟨_, rfl, HSRCC.out W hW⟩)
      have HONE := hid (one_cvP HKIDS.out (n - K) K (by have := HN.out; omega))
      have hB6 : Below w.heap.size w (w5.alloc (.cells #[.int .i64 r1, .int .i64 r2, .slice ua ul uc] 116)).drew.drew := (HBX.out.alloc HBX.out.size _).drew.drew
      have hO6 : (w5.alloc (.cells #[.int .i64 r1, .int .i64 r2, .slice ua ul uc] 116)).drew.drew.ownsRow w.heap.size 116 3 (.slice (some ⟨w5.heap.size, 0, none⟩) 1 1) 1 [.int .i64 r1, .int .i64 r2, .slice ua ul uc] := (own_new3 (W := w5) (heap_alloc_new w5 _) HBX.out.size).drew.drew
      have HB6 := hid hB6
      have HO6 := hid hO6
      clear hB6 hO6
      have HON : Hid (∀ u ∈ ([.int .i64 r1, .int .i64 r2, .slice ua ul uc] : List Value), u.oneCell' = true) := hid (fun u hu => by simp at hu; rcases hu with rfl | rfl | rfl <;> rfl)
      go_region_law (first
       | ((refine step_append_form _ rfl (.tmp 42) (.tmp 45) 111 111 rfl w.heap.size 116 116 i0 (.agg #[.int .i64 0, .int .i64 0, .slice none 0 0]) 3 40 Tryz.underlying111 Tryz.underlying111 hi hz0 hz1 hz2 rfl (by decide) (.slice (some ⟨w5.heap.size, 0, none⟩) 1 1) 1 [.int .i64 r1, .int .i64 r2, .slice ua ul uc] rfl HO6.out _ (n - K) _ (flatK 3 (n - K) (fun i => cvF cs vv (K + i))) rfl (flatK_len _ _ _) (HSRC.out _ HB6.out) HONE.out (by omega) (by unfold maxLen; omega) (by omega) HB6.out.size ?_); intro p7 cap7 w7 hown7 hg7 hat7 hlt7; have HB7 : Hid (Below w.heap.size w w7) := hid (Below.grown HB6.out hg7 HB6.out.size (fun k hk => by have h1 := HBX.out.size; have h2 : w5.heap.size = k := (Option.some.inj hk); omega)); have HOWN7 := hid hown7; clear hown7 hg7 hat7)
       | ((refine step_append_grows rfl (.tmp 40) (.tmp 46) 111 rfl 116 i0 (.agg #[.int .i64 0, .int .i64 0, .slice none 0 0]) 3 40 Tryz.underlying111 hi hz0 hz1 hz2 rfl (by decide) _ K _ (flatK 3 K (cvF cs vv)) rfl (by intro h; cases h) (flatK_len _ _ _) (HOLD.out _ HB7.out) ⟨p7, 0, none⟩ (1 + (n - K)) cap7 _ rfl HOWN7.out.1 (own_src HOWN7.out) (fun u hu => (List.mem_append.1 hu).elim (HON.out u) (HONE.out u)) (by omega) (by unfold maxLen; omega) (by omega) ?_); intro v8 w8 hown8 hg8; have HOWN8 := hid hown8; have HB8 : Hid (Below w.heap.size w w8) := hid (Below.grown HB7.out hg8 (Below.size HB7.out) (fun k hk => by cases hk)); clear hown8 hg8))
      all_goals
       have hr1 : r1 = c.1.1 := congrArg Prod.fst HRC.out
       have hr2 : r2 = (c.1.2 : Int) := congrArg Prod.snd HRC.out
       have hfin := HOWN8.out
       rw [hr1, hr2, HUL.out] at hfin
       have HFIN := hid (put_done (K := K) (cs := cs) (vv := vv) (c := c) (u := .slice ua c.2.length uc) (w := w) (N := K + (1 + (n - K))) (by have := HN.out; omega) (by have := HN.out; omega) HKIDS.out HU.out HB8.out (by rw [show cs.length - K = (n - K) by have := HN.out; omega]; exact hfin))
       clear hfin hr1 hr2 v0 v1 v2
       go_wp2
       all_goals refine bodyPost_ret (v := .tuple #[v8, .bool true]) (by simp [results, Tryz.results73, go_sem]) rfl ?_
       all_goals exact ⟨v8, rfl, HFIN.out, HB8.out⟩
     ·skip
      generalize p5.W = w5 at *
      have HB9 := hid (HB.out.trans (hb5.mono HB.out.size))
      have HBX := hid (HBW.out.trans (hb5.mono HBW.out.size))
      clear f0 f1 f2 f3 HC2 hb5
      go_upto_region 4 with fail
      go_region
      go_wp2_with fail
      have HXB5 := hid ((HXc.out.below HB9.out HXc.out.lt))
      have v0 := HXB5.out.cell 0 rfl
      have v1 := HXB5.out.cell 1 rfl
      have v2 := HXB5.out.cell 2 rfl
      have hcK : ¬ cap = K := by omega
      have hs1 : (K : Int) ≤ (cap : Int) := by omega
      have hs2 : (K : Int) ≤ (n : Int) := by omega
      have hs3 : (n : Int) ≤ (cap : Int) := by omega
      have HOLD : Hid (∀ W, Below w.heap.size w W → ∀ b', (some ⟨b, 0, none⟩ : Option Addr) = some b' → ∀ j u, (flatK 3 K (cvF cs vv))[j]? = some u → W.cell? (b'.add j) = some u) := hid (fun W hW b' e j u hj => (by cases e; exact HOLDC.out W hW K (by omega) j u hj))
      have HSRC : Hid (∀ W, Below w.heap.size w W → 0 < n - K → ∃ ad, (some ⟨b, K * 3, none⟩ : Option Addr) = some ad ∧ ∀ j u, (flatK 3 (n - K) (fun i => cvF cs vv (K + i)))[j]? = some u → W.cell? (ad.add j) = some u) := hid (fun W hW h0 => ⟨_, rfl, HSRCC.out W hW⟩)
      have HONE := hid (one_cvP HKIDS.out (n - K) K (by have := HN.out; omega))
      have hB6 : Below w.heap.size w (w5.alloc (.cells #[.int .i64 r1, .int .i64 r2, .slice ua ul uc] 116)).drew.drew := (HBX.out.alloc HBX.out.size _).drew.drew
      have hO6 : (w5.alloc (.cells #[.int .i64 r1, .int .i64 r2, .slice ua ul uc] 116)).drew.drew.ownsRow w.heap.size 116 3 (.slice (some ⟨w5.heap.size, 0, none⟩) 1 1) 1 [.int .i64 r1, .int .i64 r2, .slice ua ul uc] := (own_new3 (W := w5) (heap_alloc_new w5 _) HBX.out.size).drew.drew
      have HB6 := hid hB6
      have HO6 := hid hO6
      clear hB6 hO6
      have HON : Hid (∀ u ∈ ([.int .i64 r1, .int .i64 r2, .slice ua ul uc] : List Value), u.oneCell' = true) := hid (fun u hu => by simp at hu; rcases hu with rfl | rfl | rfl <;> rfl)
      go_region_law (first
       | ((refine step_append_form _ rfl (.tmp 42) (.tmp 45) 111 111 rfl w.heap.size 116 116 i0 (.agg #[.int .i64 0, .int .i64 0, .slice none 0 0]) 3 40 Tryz.underlying111 Tryz.underlying111 hi hz0 hz1 hz2 rfl (by decide) (.slice (some ⟨w5.heap.size, 0, none⟩) 1 1) 1 [.int .i64 r1, .int .i64 r2, .slice ua ul uc] rfl HO6.out _ (n - K) _ (flatK 3 (n - K) (fun i => cvF cs vv (K + i))) rfl (flatK_len _ _ _) (HSRC.out _ HB6.out) HONE.out (by omega) (by unfold maxLen; omega) (by omega) HB6.out.size ?_); intro p7 cap7 w7 hown7 hg7 hat7 hlt7; have HB7 : Hid (Below w.heap.size w w7) := hid (Below.grown HB6.out hg7 HB6.out.size (fun k hk => by have h1 := HBX.out.size; have h2 : w5.heap.size = k := (Option.some.inj hk); omega)); have HOWN7 := hid hown7; clear hown7 hg7 hat7)
       | ((refine step_append_grows rfl (.tmp 40) (.tmp 46) 111 rfl 116 i0 (.agg #[.int .i64 0, .int .i64 0, .slice none 0 0]) 3 40 Tryz.underlying111 hi hz0 hz1 hz2 rfl (by decide) _ K _ (flatK 3 K (cvF cs vv)) rfl (by intro h; cases h) (flatK_len _ _ _) (HOLD.out _ HB7.out) ⟨p7, 0, none⟩ (1 + (n - K)) cap7 _ rfl HOWN7.out.1 (own_src HOWN7.out) (fun u hu => (List.mem_append.1 hu).elim (HON.out u) (HONE.out u)) (by omega) (by unfold maxLen; omega) (by omega) ?_); intro v8 w8 hown8 hg8; have HOWN8 := hid hown8; have HB8 : Hid (Below w.heap.size w w8) := hid (Below.grown HB7.out hg8 (Below.size HB7.out) (fun k hk => by cases hk)); clear hown8 hg8))
      all_goals
       have hr1 : r1 = c.1.1 := congrArg Prod.fst HRC.out
       have hr2 : r2 = (c.1.2 : Int) := congrArg Prod.snd HRC.out
       have hfin := HOWN8.out
       rw [hr1, hr2, HUL.out] at hfin
       have HFIN := hid (put_done (K := K) (cs := cs) (vv := vv) (c := c) (u := .slice ua c.2.length uc) (w := w) (N := K + (1 + (n - K))) (by have := HN.out; omega) (by have := HN.out; omega) HKIDS.out HU.out HB8.out (by rw [show cs.length - K = (n - K) by have := HN.out; omega]; exact hfin))
       clear hfin hr1 hr2 v0 v1 v2
       go_wp2
       all_goals refine bodyPost_ret (v := .tuple #[v8, .bool true]) (by simp [results, Tryz.results73, go_sem]) rfl ?_
       all_goals exact ⟨v8, rfl, HFIN.out, HB8.out⟩
    ·have hqn : ¬ (K : Int) < (n : Int) := by omega
     have hqd : decide (K < n) = false := decide_eq_false (by omega)
     go_wp2_with fail
     refine wp_region_later (by kernel_rfl) (by kernel_rfl) ?_
     repeat (first | go_big_quiet_step (fail) | quiet_step (fail))
     refine wpQuiet_nil ?_
     intro _ hw'
     obtain ⟨p5, hw''⟩ := hw'
     subst hw''
     have hb5 := p5.hb
     have x0 := f0 p5
     have x1 := f1 p5
     generalize p5.W = w5 at *
     have HB9 := hid (HB.out.trans (hb5.mono HB.out.size))
     have HBX := hid (HBW.out.trans (hb5.mono HBW.out.size))
     clear f0 f1 hb5
     go_upto_region 4 with fail
     go_region
     go_wp2_with fail
     have HXB5 := hid ((HXc.out.below HB9.out HXc.out.lt))
     have v0 := HXB5.out.cell 0 rfl
     have v1 := HXB5.out.cell 1 rfl
     have v2 := HXB5.out.cell 2 rfl
     have hs1 : (K : Int) ≤ (cap : Int) := by omega
     have hs2 : (K : Int) ≤ (n : Int) := by omega
     have hs3 : (n : Int) ≤ (cap : Int) := by omega
     have HOLD : Hid (∀ W, Below w.heap.size w W → ∀ b', (some ⟨b, 0, none⟩ : Option Addr) = some b' → ∀ j u, (flatK 3 K (cvF cs vv))[j]? = some u → W.cell? (b'.add j) = some u) := hid (fun W hW b' e j u hj => (by cases e; exact HOLDC.out W hW K (by omega) j u hj))
     have HSRC : Hid (∀ W, Below w.heap.size w W → 0 < n - K → ∃ ad, (some ⟨b, K * 3, none⟩ : Option Addr) = some ad ∧ ∀ j u, (flatK 3 (n - K) (fun i => cvF cs vv (K + i)))[j]? = some u → W.cell? (ad.add j) = some u) := hid (fun W hW h0 => absurd h0 (by omega))
     have HONE := hid (one_cvP HKIDS.out 0 K (by have := HN.out; omega))
     have hB6 : Below w.heap.size w (w5.alloc (.cells #[.int .i64 r1, .int .i64 r2, .slice ua ul uc] 116)).drew.drew := (HBX.out.alloc HBX.out.size _).drew.drew
     have hO6 : (w5.alloc (.cells #[.int .i64 r1, .int .i64 r2, .slice ua ul uc] 116)).drew.drew.ownsRow w.heap.size 116 3 (.slice (some ⟨w5.heap.size, 0, none⟩) 1 1) 1 [.int .i64 r1, .int .i64 r2, .slice ua ul uc] := (own_new3 (W := w5) (heap_alloc_new w5 _) HBX.out.size).drew.drew
     have HB6 := hid hB6
     have HO6 := hid hO6
     clear hB6 hO6
     have HON : Hid (∀ u ∈ ([.int .i64 r1, .int .i64 r2, .slice ua ul uc] : List Value), u.oneCell' = true) := hid (fun u hu => by simp at hu; rcases hu with rfl | rfl | rfl <;> rfl)
     go_region_law (first
      | ((refine step_append_form _ rfl (.tmp 42) (.tmp 45) 111 111 rfl w.heap.size 116 116 i0 (.agg #[.int .i64 0, .int .i64 0, .slice none 0 0]) 3 40 Tryz.underlying111 Tryz.underlying111 hi hz0 hz1 hz2 rfl (by decide) (.slice (some ⟨w5.heap.size, 0, none⟩) 1 1) 1 [.int .i64 r1, .int .i64 r2, .slice ua ul uc] rfl HO6.out _ 0 _ (flatK 3 0 (fun i => cvF cs vv (K + i))) rfl (flatK_len _ _ _) (fun h0 => absurd h0 (Nat.lt_irrefl 0)) HONE.out (by omega) (by unfold maxLen; omega) (by omega) HB6.out.size ?_); intro p7 cap7 w7 hown7 hg7 hat7 hlt7; have HB7 : Hid (Below w.heap.size w w7) := hid (Below.grown HB6.out hg7 HB6.out.size (fun k hk => by have h1 := HBX.out.size; have h2 : w5.heap.size = k := (Option.some.inj hk); omega)); have HOWN7 := hid hown7; clear hown7 hg7 hat7)
      | ((refine step_append_grows rfl (.tmp 40) (.tmp 46) 111 rfl 116 i0 (.agg #[.int .i64 0, .int .i64 0, .slice none 0 0]) 3 40 Tryz.underlying111 hi hz0 hz1 hz2 rfl (by decide) _ K _ (flatK 3 K (cvF cs vv)) rfl (by intro h; cases h) (flatK_len _ _ _) (HOLD.out _ HB7.out) ⟨p7, 0, none⟩ (1 + 0) cap7 _ rfl HOWN7.out.1 (own_src HOWN7.out) (fun u hu => (List.mem_append.1 hu).elim (HON.out u) (HONE.out u)) (by omega) (by unfold maxLen; omega) (by omega) ?_); intro v8 w8 hown8 hg8; have HOWN8 := hid hown8; have HB8 : Hid (Below w.heap.size w w8) := hid (Below.grown HB7.out hg8 (Below.size HB7.out) (fun k hk => by cases hk)); clear hown8 hg8))
     all_goals
      have hr1 : r1 = c.1.1 := congrArg Prod.fst HRC.out
      have hr2 : r2 = (c.1.2 : Int) := congrArg Prod.snd HRC.out
      have hfin := HOWN8.out
      rw [hr1, hr2, HUL.out] at hfin
      have HFIN := hid (put_done (K := K) (cs := cs) (vv := vv) (c := c) (u := .slice ua c.2.length uc) (w := w) (N := K + (1 + 0)) (by have := HN.out; omega) (by have := HN.out; omega) HKIDS.out HU.out HB8.out (by rw [show cs.length - K = 0 by have := HN.out; omega]; exact hfin))
      clear hfin hr1 hr2 v0 v1 v2
      go_wp2
      all_goals refine bodyPost_ret (v := .tuple #[v8, .bool true]) (by simp [results, Tryz.results73, go_sem]) rfl ?_
      all_goals exact ⟨v8, rfl, HFIN.out, HB8.out⟩
end Go.Proofs.YtikiimlmoalbcaaGreatDoor

namespace Go.Proofs
open Go.Shelf
def Tryz.sortTx_ren : Go.Shelf.Ren := ⟨fun | 6 => 169 | 8 => 160 | 9 => 209 | 19 => 197 | 20 => 198 | 21 => 224 | 22 => 225 | 23 => 226 | 24 => 227 | 25 => 228 | 26 => 229 | 27 => 131 | 28 => 230 | 29 => 231 | 36 => 244 | 31 => 219 | 32 => 220 | 37 => 245 | 38 => 246 | 39 => 172 | 41 => 256 | n => n, fun | 27 => 27 | 29 => 9 | 3 => 3 | 32 => 161 | 26 => 27 | 0 => 0 | 44 => 132 | 46 => 159 | 4 => 4 | 36 => 217 | 35 => 216 | 41 => 106 | 5 => 5 | 9 => 9 | 53 => 239 | 57 => 243 | 63 => 256 | 64 => 59 | n => n, fun | n => n⟩
theorem Tryz.sortTx : Go.Proofs.SlLaysM.n6 Tryz.prog Tryz.sortTx_ren := {
 mixed := by kernel_rfl
 f6 := ⟨Tryz.f169.name, by decide, Tryz.func169.trans (congrArg some (by kernel_rfl))⟩
 f8 := Tryz.func160.trans (congrArg some (by kernel_rfl))
 f9 := ⟨Tryz.f209.name, by decide, Tryz.func209.trans (congrArg some (by kernel_rfl))⟩
 f19 := Tryz.func197.trans (congrArg some (by kernel_rfl))
 f20 := Tryz.func198.trans (congrArg some (by kernel_rfl))
 f21 := ⟨Tryz.f224.name, by decide, Tryz.func224.trans (congrArg some (by kernel_rfl))⟩
 f22 := ⟨Tryz.f225.name, by decide, Tryz.func225.trans (congrArg some (by kernel_rfl))⟩
 f23 := ⟨Tryz.f226.name, by decide, Tryz.func226.trans (congrArg some (by kernel_rfl))⟩
 f24 := ⟨Tryz.f227.name, by decide, Tryz.func227.trans (congrArg some (by kernel_rfl))⟩
 f25 := ⟨Tryz.f228.name, by decide, Tryz.func228.trans (congrArg some (by kernel_rfl))⟩
 f26 := ⟨Tryz.f229.name, by decide, Tryz.func229.trans (congrArg some (by kernel_rfl))⟩
 f27 := ⟨Tryz.f131.name, by decide, Tryz.func131.trans (congrArg some (by kernel_rfl))⟩
 f28 := ⟨Tryz.f230.name, by decide, Tryz.func230.trans (congrArg some (by kernel_rfl))⟩
 f29 := ⟨Tryz.f231.name, by decide, Tryz.func231.trans (congrArg some (by kernel_rfl))⟩
 f31 := Tryz.func219.trans (congrArg some (by kernel_rfl))
 f32 := Tryz.func220.trans (congrArg some (by kernel_rfl))
 f36 := ⟨Tryz.f244.name, by decide, Tryz.func244.trans (congrArg some (by kernel_rfl))⟩
 f37 := ⟨Tryz.f245.name, by decide, Tryz.func245.trans (congrArg some (by kernel_rfl))⟩
 f38 := ⟨Tryz.f246.name, by decide, Tryz.func246.trans (congrArg some (by kernel_rfl))⟩
 f39 := ⟨Tryz.f172.name, by decide, Tryz.func172.trans (congrArg some (by kernel_rfl))⟩
 f41 := ⟨Tryz.f256.name, by decide, Tryz.func256.trans (congrArg some (by kernel_rfl))⟩
 t0 := Tryz.underlying0
 a0 := Tryz.isAgg0
 z0 := Tryz.sizeOf0
 v0 := Tryz.zeroValue0
 t3 := Tryz.underlying3
 a3 := Tryz.isAgg3
 z3 := Tryz.sizeOf3
 v3 := Tryz.zeroValue3
 t4 := Tryz.underlying4
 a4 := Tryz.isAgg4
 z4 := Tryz.sizeOf4
 v4 := Tryz.zeroValue4
 t5 := Tryz.underlying5
 a5 := Tryz.isAgg5
 z5 := Tryz.sizeOf5
 v5 := Tryz.zeroValue5
 t9 := Tryz.underlying9
 a9 := Tryz.isAgg9
 z9 := Tryz.sizeOf9
 v9 := Tryz.zeroValue9
 t26 := Tryz.underlying27
 a26 := Tryz.isAgg27
 z26 := Tryz.sizeOf27
 v26 := Tryz.zeroValue27
 t27 := Tryz.underlying27
 a27 := Tryz.isAgg27
 z27 := Tryz.sizeOf27
 v27 := Tryz.zeroValue27
 t29 := Tryz.underlying9
 a29 := Tryz.isAgg9
 z29 := Tryz.sizeOf9
 v29 := Tryz.zeroValue9
 t32 := Tryz.underlying161
 a32 := Tryz.isAgg161
 z32 := Tryz.sizeOf161
 v32 := Tryz.zeroValue161
 t35 := Tryz.underlying216
 a35 := Tryz.isAgg216
 z35 := Tryz.sizeOf216
 v35 := Tryz.zeroValue216
 t36 := Tryz.underlying217
 a36 := Tryz.isAgg217
 z36 := Tryz.sizeOf217
 v36 := Tryz.zeroValue217
 t41 := Tryz.underlying106
 a41 := Tryz.isAgg106
 z41 := Tryz.sizeOf106
 v41 := Tryz.zeroValue106
 t44 := Tryz.underlying132
 a44 := Tryz.isAgg132
 z44 := Tryz.sizeOf132
 v44 := Tryz.zeroValue132
 t46 := Tryz.underlying159
 a46 := Tryz.isAgg159
 z46 := Tryz.sizeOf159
 v46 := Tryz.zeroValue159
 t53 := Tryz.underlying239
 a53 := Tryz.isAgg239
 z53 := Tryz.sizeOf239
 v53 := Tryz.zeroValue239
 t57 := Tryz.underlying243
 a57 := Tryz.isAgg243
 z57 := Tryz.sizeOf243
 v57 := Tryz.zeroValue243
 t63 := Tryz.underlying256
 a63 := Tryz.isAgg256
 z63 := Tryz.sizeOf256
 v63 := Tryz.zeroValue256
 t64 := Tryz.underlying59
 a64 := Tryz.isAgg59
 z64 := Tryz.sizeOf59
 v64 := Tryz.zeroValue59 }
def Tryz.compactTx_ren : Go.Shelf.Ren := ⟨fun | 44 => 126 | n => n, fun | 25 => 27 | 26 => 9 | 3 => 3 | 4 => 4 | 0 => 0 | n => n, fun | n => n⟩
theorem Tryz.compactTx : Go.Proofs.SlLaysN.n44 Tryz.prog Tryz.compactTx_ren := {
  mixed := by kernel_rfl
  f44 := ⟨Tryz.f126.name, by decide, Tryz.func126.trans (congrArg some (by kernel_rfl))⟩
  t0 := Tryz.underlying0
  a0 := Tryz.isAgg0
  z0 := Tryz.sizeOf0
  v0 := Tryz.zeroValue0
  t3 := Tryz.underlying3
  a3 := Tryz.isAgg3
  z3 := Tryz.sizeOf3
  v3 := Tryz.zeroValue3
  t4 := Tryz.underlying4
  a4 := Tryz.isAgg4
  z4 := Tryz.sizeOf4
  v4 := Tryz.zeroValue4
  t25 := Tryz.underlying27
  a25 := Tryz.isAgg27
  z25 := Tryz.sizeOf27
  v25 := Tryz.zeroValue27
  t26 := Tryz.underlying9
  a26 := Tryz.isAgg9
  z26 := Tryz.sizeOf9
  v26 := Tryz.zeroValue9
  i26 := by kernel_rfl }
end Go.Proofs
