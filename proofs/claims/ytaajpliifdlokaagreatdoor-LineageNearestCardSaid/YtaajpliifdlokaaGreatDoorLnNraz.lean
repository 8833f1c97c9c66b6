/- Contract of explain.ends. Contract of explain.Alike: the same columns. -/
import Derived.Test.YtaajpliifdlokaaGreatDoorLnNray
import Derived.Test.YtaajpliifdlokaaGreatDoorLnNram
import Derived.Test.YtaajpliifdlokaaGreatDoorLnNrac
set_option linter.unusedVariables false
set_option linter.unusedSimpArgs false
namespace Go.Proofs.YtaajpliifdlokaaGreatDoor
open Go.RowKit
def sortsTo (q : Nat) : List (List Po) := [] :: (List.range q).map fun k => [opSort k]
theorem sorts_snoc (q : Nat) : sortsTo (q + 1) = sortsTo q ++ [[opSort q]] := by simp [sortsTo, List.range_succ]
theorem sortsTo_len (q : Nat) : (sortsTo q).length = q + 1 := by simp [sortsTo]
theorem sorts_cols {n : Nat} {f : List Po} (h : f ∈ sortsL n) : ∀ o ∈ f, o.cols = [] := by
  intro o ho
  rcases List.mem_cons.1 h with rfl | h
  · cases ho
  · obtain ⟨k, -, rfl⟩ := List.mem_map.1 h
    rw [List.mem_singleton.1 ho]; rfl
theorem sorts_short {n : Nat} {f : List Po} (h : f ∈ sortsL n) : f.length ≤ 1 := by
  rcases List.mem_cons.1 h with rfl | h
  · simp
  · obtain ⟨k, -, rfl⟩ := List.mem_map.1 h
    simp
def endsTo (n j : Nat) : List (List Po) := sortsL n ++ ((sortsL n).take j).map (opDist :: ·)
theorem ends_snoc {n j : Nat} (h : j < (sortsL n).length) : endsTo n (j + 1) = endsTo n j ++ [opDist :: (sortsL n).getD j []] := by
  unfold endsTo
  generalize sortsL n = H at *
  rw [List.take_succ_eq_append_getElem h, show H.getD j [] = H[j] by simp [List.getD, h]]
  simp only [List.map_append, List.map_cons, List.map_nil, List.append_assoc]
theorem ends_all (n : Nat) : endsTo n (sortsL n).length = endsL n := by
  unfold endsTo endsL
  rw [List.take_length]
theorem ends_zero (n : Nat) : endsTo n 0 = sortsL n := by simp [endsTo]
theorem endsTo_len (n j : Nat) (h : j ≤ (sortsL n).length) : (endsTo n j).length = n + 1 + j := by
  unfold endsTo
  rw [List.length_append, List.length_map, List.length_take, Nat.min_eq_left h, show (sortsL n).length = n + 1 from sortsTo_len n]
theorem flatK_cons (k n : Nat) (f : Nat → Nat → Value) : flatK k (n + 1) f = (List.range k).map (f 0) ++ flatK k n (fun i => f (i + 1)) := by
  induction n with
  | zero => simp [flatK]
  | succ n ih => rw [flatK_succ, ih, flatK_succ, List.append_assoc]
theorem ks_empty {w w' : World} {S S' : Nat → Prop} {v : Value} {ks : List Int} (hk : ks = []) (h : RdKs w S v ks) : RdKs w' S' v ks := by
  subst hk
  obtain ⟨a, c, e, h1, h2, -⟩ := h
  exact ⟨a, c, e, h1, h2, fun hp => absurd hp (by simp)⟩
theorem po_cons {w : World} {base : Nat} {v : Value} {o : Po} {u : Value} {s : List Po} {uv : Nat → Value} {S : Nat → Prop} (h : w.ownsRow base 122 4 v (1 + s.length) ([.int .i64 o.kind, .int .i64 o.col, .string o.text, u] ++ flatK 4 s.length (poF s uv))) (hS : ∀ b, v.ownBlock = some b → S b)
    (hu : RdKs w S u o.cols) (hk : ∀ i, i < s.length → RdKs w S (uv i) (s.getD i Po.z).cols) : RdPo w S v (o :: s) := by
  have e : [.int .i64 o.kind, .int .i64 o.col, .string o.text, u] ++ flatK 4 s.length (poF s uv) = flatK 4 (1 + s.length) (poF (o :: s) (fun i => if i = 0 then u else uv (i - 1))) := by
    rw [Nat.add_comm 1, flatK_cons]
    congr 1
  rw [e] at h
  refine ⟨_, by rw [List.length_cons, Nat.add_comm]; exact (inK_of_owns h).more hS, fun i hi => ?_⟩
  cases i with
  | zero => exact hu
  | succ i => exact hk i (by simpa using hi)
set_option maxRecDepth 100000 in
set_option maxHeartbeats 4000000 in
theorem expl_ends (n : Nat) (w : World) (hn : n ≤ 64) (hw0 : 0 < w.heap.size) :
  Calls Tryz.prog 167 #[.int .i64 (n : Int)] w (fun e w' => ∃ a c, e = .returned (.slice a (endsL n).length c) ∧ RdPs w' (News w w') (.slice a (endsL n).length c) (endsL n) ∧ Below w.heap.size w w') := by
 obtain ⟨i0, hi0, hz0, hz1, hz2⟩ := info_parts info_ops
 obtain ⟨j0, hj0, hy0, hy1, hy2⟩ := info_parts info_op
 have HB0 := hid ((Below.refl w.heap.size w).alloc (Nat.le_refl _) (.cells #[.slice none 0 0] 74))
 have hps0 : PsSt (w.alloc (.cells #[.slice none 0 0] 74)) w.heap.size 74 (.slice (some ⟨w.heap.size, 0, none⟩) 1 1) [[]] := by
  have h := World.ownsRow_lit (base := w.heap.size) (e := 74) (size := 1) w #[.slice none 0 0] 1 (Nat.le_refl _) (by simp [maxLen]) rfl
  exact ⟨fun _ => .slice none 0 0, h, by simp, fun i hi => by
   obtain rfl : i = 0 := by simp at hi; exact hi
   exact RdPo.nil⟩
 have HPS0 := hid hps0
 have hz0' : (w.alloc (.cells #[.slice none 0 0] 74)).heap.size = w.heap.size + 1 := by simp
 clear hps0
 go_enter Tryz.func167, Tryz.ntmps167
 go_wp2_with fail
 generalize w.alloc (.cells #[.slice none 0 0] 74) = W0 at *
 have hz0a := Nat.le_of_eq hz0'
 have hz0b := Nat.le_of_eq hz0'.symm
 clear hz0'
 go_loopg [3, 10] n (fun N y i wr => ∃ (q : Nat), i = .int .i64 (q : Int) ∧ q + N = n ∧ w.heap.size ≤ wr.heap.size ∧ Hid (Below w.heap.size w wr) ∧ Hid (PsSt wr w.heap.size 74 y (sortsTo q)))
 case atStart => exact ⟨0, rfl, by omega, by omega, HB0, HPS0⟩
 case round =>
  obtain ⟨q, rfl, hq, hlw, HB, HPS⟩ := hrel
  obtain ⟨L0, hL0⟩ := HPS.out.owns
  have HL0 := hid hL0
  obtain ⟨ya, yc, rfl⟩ := own_slice hL0
  clear hL0
  have hfa := Nat.le_of_eq (sortsTo_len q)
  have HFQ := hid (sortsTo_len q)
  by_cases hp : 0 < gk
  ·have HSN := hid (sorts_snoc q)
   generalize sortsTo q = fs at *
   generalize hfl2 : fs.length = m at *
   have HFL := hid hfl2
   clear hfl2
   have HL2 := hid ((HL0.out.alloc (.cells #[.int .i64 5, .int .i64 (q : Int), .string ⟨#[]⟩, .slice none 0 0] 122)).alloc (.cells #[.slice (some ⟨wr.heap.size, 0, none⟩) 1 1] 74))
   have hn2 := BoxN.new (wr.alloc (.cells #[.int .i64 5, .int .i64 (q : Int), .string ⟨#[]⟩, .slice none 0 0] 122)) #[.slice (some ⟨wr.heap.size, 0, none⟩) 1 1] 74
   rw [World.size_alloc] at hn2
   have HN2 := hid hn2
   have HB2 := hid ((HB.out.alloc (by omega) (.cells #[.int .i64 5, .int .i64 (q : Int), .string ⟨#[]⟩, .slice none 0 0] 122)).alloc (by simp; omega) (.cells #[.slice (some ⟨wr.heap.size, 0, none⟩) 1 1] 74))
   clear hn2
   go_wp2_with (at_builtin; refine wpList_append_form _ rfl _ _ 119 119 rfl w.heap.size 74 74 i0 (.slice none 0 0) 1 24 Tryz.underlying119 Tryz.underlying119 hi0 hz0 hz1 hz2 rfl (by decide) (.slice ya m yc) m _ rfl HL2.out (some ⟨_, 0, none⟩) 1 1 [.slice (some ⟨wr.heap.size, 0, none⟩) 1 1] rfl rfl (fun _ => ⟨_, rfl, World.news_of_block HN2.out⟩) (by intro u hu; simp at hu; subst hu; rfl) (by omega) (by unfold maxLen; omega) (by omega) (by simp; omega) ?_; intro p9 cap9 w9 hown9 hg9 hat9 hlt9; have HG9 := hid hg9; have HOWN9 := hid hown9; have HAT9 := hid hat9; clear hown9 hg9 hat9)
   have hgs9 := HG9.out.size
   go_wp2
   go_roundg (gk - 1)
   case rel => exact ⟨q + 1, by go_num, by omega, by simp at hgs9; omega, hid (HB2.out.grown HG9.out (by simp; omega) (fun k hk => (HL0.out.lt k hk).1)), hid (by
    rw [HSN.out]
    exact ps_push (o := opSort q) HPS.out hw0 rfl (by rw [HFL.out]) (by rw [HFL.out]; exact HL2.out) HOWN9.out HG9.out HAT9.out)⟩
   case measure => omega
  ·obtain rfl : gk = 0 := by omega
   obtain rfl : q = n := by omega
   have HSQ : Hid (sortsTo q = sortsL q) := hid rfl
   have hps := HPS.out
   obtain ⟨vv, hnest⟩ := hps
   have hrdk := hnest.kids
   have hink := (inK_of_owns hnest.row).more (S' := fun b => w.heap.size ≤ b ∧ b < wr.heap.size) fun b hb => hnest.row.lt b hb
   have HK : Hid (∀ i, i < (sortsTo q).length → RdPo wr (fun b => w.heap.size ≤ b ∧ b < wr.heap.size) (vv i) ((sortsTo q).getD i [])) := hid (fun i hi => (hrdk i hi).more fun b hb => ⟨hb.1, hb.2.1⟩)
   have HCL := hid (clone_lists (fun b => w.heap.size ≤ b ∧ b < wr.heap.size) (.slice ya (sortsTo q).length yc) (sortsTo q).length (vF vv) wr hink (fun b hb => hb.2) (fun i hi j hj => by
    obtain ⟨uv, ⟨a, c, e, -⟩, -⟩ := HK.out i hi
    show (vv i).oneCell' = true
    rw [e]
    rfl) (by omega))
   have HIN := hid hink
   clear hrdk hink hnest HL0
   have HSL := HFQ
   generalize hsl : (sortsTo q).length = m at *
   go_wp2_with fail
   with_reducible refine HCL.out.mono ?_
   rintro e w1 ⟨a1, c1, rfl, hown1, hb1⟩
   have hzw1 := hb1.size
   have HB1 := hid (HB.out.trans (hb1.mono (by omega)))
   have HIN1 := hid (HIN.out.keep (w' := w1) fun p hp => hb1.cell (p := p) hp.2)
   have HK1 : Hid (∀ i, i < m → RdPo w1 (fun b => w.heap.size ≤ b ∧ b < wr.heap.size) (vv i) ((sortsTo q).getD i [])) := hid (fun i hi => (HK.out i hi).keep fun p hp => hb1.cell (p := p) hp.2)
   have HPS1 : Hid (PsSt w1 w.heap.size 74 (.slice a1 m c1) (sortsTo q)) := hid (by
    refine ⟨vv, ?_, Nat.le_trans hlw hzw1, fun i hi => ?_⟩
    ·rw [hsl]
     exact own_lower hown1 hlw
    ·rw [hsl] at hi
     exact (HK1.out i hi).more fun b hb => ⟨hb.1, by omega, fun e => by have := (hown1.lt b e).1; omega⟩)
   have HOB1 : Hid (∀ k, (Value.slice a1 m c1).ownBlock = some k → wr.heap.size ≤ k) := hid (fun k hk => (hown1.lt k hk).1)
   clear hb1 hown1 HCL HIN HK HPS
   have hbase : ∃ C, C = wr.heap.size := ⟨_, rfl⟩
   obtain ⟨C, hC⟩ := hbase
   rw [← hC] at HIN1 HK1 HOB1
   have hC1 := Nat.le_of_eq hC
   have hC2 := Nat.le_of_eq hC.symm
   clear hC
   obtain ⟨vo, rfl⟩ : ∃ vo, vo = wr := ⟨wr, rfl⟩
   go_wp2_with fail
   go_loopg [5, 24] m (fun N y i wr => ∃ (j : Nat), i = .int .i64 (j : Int) ∧ j + N = m ∧ w1.heap.size ≤ wr.heap.size ∧ Hid (Below w.heap.size w wr) ∧ Hid (∀ p : Addr, p.block < C → wr.cell? p = w1.cell? p) ∧ Hid (PsSt wr w.heap.size 74 y (endsTo q j)) ∧ Hid (∀ k, y.ownBlock = some k → C ≤ k))
   case atStart => exact ⟨0, rfl, by omega, Nat.le_refl _, HB1, hid (fun _ _ => rfl), hid (by rw [ends_zero]; exact HPS1.out), HOB1⟩
   case round =>
    obtain ⟨j, rfl, hj, hlr, HB, HKP, HPS, HOB⟩ := hrel
    obtain ⟨L0, hL0⟩ := HPS.out.owns
    have HL0 := hid hL0
    obtain ⟨za, zc, rfl⟩ := own_slice hL0
    clear hL0
    by_cases hp2 : 0 < gk
    ·have hjm : j < m := by omega
     have hjs : j < (sortsL q).length := by rw [← HSQ.out]; rw [hsl]; exact hjm
     have hel := Nat.le_of_eq (endsTo_len q j (by omega))
     have HES := hid (ends_snoc hjs)
     have hmem : (sortsL q).getD j [] ∈ sortsL q := getD_mem hjs []
     have HCO := hid (sorts_cols hmem)
     have hsh := sorts_short hmem
     obtain ⟨_, _, e1, -, -, hsr⟩ := HIN1.out
     obtain ⟨rfl, -, rfl⟩ := Value.slice.inj e1
     obtain ⟨sb, so, rfl, hsb, hsc⟩ := hsr (by omega)
     have s0 : wr.cell? ⟨sb, so + j, none⟩ = some (vv j) := (HKP.out ⟨sb, so + j, none⟩ (by show sb < C; have := hsb.2; omega)).trans (by have := hsc j hjm 0 (by omega); simp only [Nat.mul_one, Nat.add_zero] at this; exact this)
     have hpo := (HK1.out j hjm).keep (w' := wr) fun p hp => HKP.out p (by have := hp.2; omega)
     rw [HSQ.out] at hpo
     clear hsr hsc e1 hmem
     generalize endsTo q j = fs at *
     generalize (sortsL q).getD j [] = f at *
     obtain ⟨uv, ⟨sa, sc, hvv, hs1, hs2, hs3⟩, hkk⟩ := hpo
     rw [hvv] at s0
     have HKK := hid hkk
     have HCE : Hid (0 < f.length → ∃ ad, sa = some ad ∧ ∀ j u, (flatK 4 f.length (poF f uv))[j]? = some u → (wr.alloc (.cells #[.int .i64 4, .int .i64 0, .string ⟨#[]⟩, .slice none 0 0] 122)).cell? (ad.add j) = some u) := hid (fun h0 => by
      obtain ⟨b, o, e, hb, hc⟩ := hs3 h0
      exact ⟨_, e, flat_cells (by omega) hc (fun p hp => World.cell?_alloc_lt _ _ _ (by have := hb.2; omega))⟩)
     have HON := hid (flat_one (k := 4) (n := f.length) (f := poF f uv) (by omega) (fun i hi j hj => by
      obtain ⟨a, c, e, -⟩ := hkk i hi
      rcases (show j = 0 ∨ j = 1 ∨ j = 2 ∨ j = 3 by omega) with rfl | rfl | rfl | rfl
      ·rfl
      ·rfl
      ·rfl
      ·show (uv i).oneCell' = true
       rw [e]
       rfl))
     have HFK := hid (flatK_len 4 f.length (poF f uv))
     obtain ⟨news, hnw⟩ : ∃ news, news = flatK 4 f.length (poF f uv) := ⟨_, rfl⟩
     rw [← hnw] at HCE HON HFK
     have HNW := hid hnw
     generalize hflen : f.length = sm at *
     have HFLEN := hid hflen
     generalize hfsl : fs.length = m2 at *
     have HFSL := hid hfsl
     clear hs3 hkk hnw hflen hfsl hvv
     unfold maxLen at hs2
     have HLD := hid (World.ownsRow_lit (base := wr.heap.size) (e := 122) (size := 4) wr #[.int .i64 4, .int .i64 0, .string ⟨#[]⟩, .slice none 0 0] 1 (Nat.le_refl _) (by simp [maxLen]) rfl)
     go_wp2_with (first
      | (at_builtin; refine wpList_append_form _ rfl _ _ 119 119 rfl w.heap.size 74 74 i0 (.slice none 0 0) 1 24 Tryz.underlying119 Tryz.underlying119 hi0 hz0 hz1 hz2 rfl (by decide) (.slice za m2 zc) m2 _ rfl HL3.out (some ⟨_, 0, none⟩) 1 1 [.slice (some ⟨g1, 0, none⟩) (1 + sm) cap1] rfl rfl (fun _ => ⟨_, rfl, World.news_of_block HN3.out⟩) (by intro u hu; simp at hu; subst hu; rfl) (by omega) (by unfold maxLen; omega) (by omega) (by simp; omega) ?_; intro p9 cap9 w9 hown9 hg9 hat9 hlt9; have HG9 := hid hg9; have HOWN9 := hid hown9; have HAT9 := hid hat9; clear hown9 hg9 hat9)
      | (at_builtin; refine wpList_append_form _ rfl _ _ 74 74 rfl wr.heap.size 122 122 j0 (.agg #[.int .i64 0, .int .i64 0, .string ⟨#[]⟩, .slice none 0 0]) 4 56 Tryz.underlying74 Tryz.underlying74 hj0 hy0 hy1 hy2 rfl (by decide) (.slice (some ⟨wr.heap.size, 0, none⟩) 1 1) 1 _ rfl HLD.out sa sm sc news rfl HFK.out HCE.out HON.out (by omega) (by unfold maxLen; omega) (by omega) (by simp) ?_; intro g1 cap1 w2 hown2 hg2 hat2 hlt2; have HG2 := hid hg2; have HOWN2 := hid hown2; have HBW := hid (((Below.refl wr.heap.size wr).alloc (Nat.le_refl _) (.cells #[.int .i64 4, .int .i64 0, .string ⟨#[]⟩, .slice none 0 0] 122)).grown hg2 (by simp) (fun k hk => by simp [Value.ownBlock] at hk; omega)); have HL2 := hid (own_later HL0.out HBW.out); have HL3 := hid (HL2.out.alloc (.cells #[.slice (some ⟨g1, 0, none⟩) (1 + sm) cap1] 74)); have HN3 := hid (BoxN.new w2 #[.slice (some ⟨g1, 0, none⟩) (1 + sm) cap1] 74); (have hgs2 : wr.heap.size + 1 ≤ w2.heap.size := by simpa using hg2.size); clear hown2 hg2 hat2))
     clear s0
     have hgs9 := HG9.out.size
     have hz9 : w2.heap.size + 1 ≤ w9.heap.size := by simpa using hgs9
     have HPS3 := hid ((HPS.out.later HBW.out hw0).alloc (.cells #[.slice (some ⟨g1, 0, none⟩) (1 + sm) cap1] 74))
     have hg1 : wr.heap.size ≤ g1 := (HOWN2.out.lt g1 rfl).1
     have hg1w : g1 < w2.heap.size := (HOWN2.out.lt g1 rfl).2
     have HYB : Hid (∀ k, (Value.slice za m2 zc).ownBlock = some k → k < wr.heap.size) := hid (fun k hk => (HL0.out.lt k hk).2)
     have hnew : RdPo (w2.alloc (.cells #[.slice (some ⟨g1, 0, none⟩) (1 + sm) cap1] 74)) (Own (w2.alloc (.cells #[.slice (some ⟨g1, 0, none⟩) (1 + sm) cap1] 74)) w.heap.size (.slice za m2 zc)) (.slice (some ⟨g1, 0, none⟩) (1 + sm) cap1) (opDist :: f) := by
      have h2 := HOWN2.out.alloc (.cells #[.slice (some ⟨g1, 0, none⟩) (1 + sm) cap1] 74)
      rw [HNW.out, ← HFLEN.out] at h2
      rw [← HFLEN.out]
      refine po_cons (o := opDist) h2 (fun b hb => ?_) InK.nil (fun i hi => ?_)
      ·obtain rfl : g1 = b := by simpa [Value.ownBlock] using hb
       exact ⟨by omega, by simp; omega, fun e => by have := HYB.out _ e; omega⟩
      ·refine ks_empty ?_ (HKK.out i (by rw [← HFLEN.out]; exact hi))
       exact HCO.out _ (getD_mem hi Po.z)
     have HPF : Hid (PsSt w9 w.heap.size 74 (.slice (some ⟨p9, 0, none⟩) (m2 + 1) cap9) (fs ++ [opDist :: f])) := hid (HPS3.out.push (by rw [HFSL.out]; exact HL3.out) (by rw [HFSL.out]) HOWN9.out HG9.out HAT9.out hnew)
     have HKF : Hid (∀ p : Addr, p.block < C → w9.cell? p = w1.cell? p) := hid (fun p hp => by
      have h1 : w9.heap[p.block]? = wr.heap[p.block]? := by
       rw [HG9.out.block p.block (by simp; omega) (fun e => by have := HOB.out _ e.symm; omega), Below.heap_alloc _ _ _ (by omega)]
       exact HBW.out.block _ (by omega)
      exact (World.cell?_of_block h1).trans (HKP.out p hp))
     have HOF : Hid (∀ k, (Value.slice (some ⟨p9, 0, none⟩) (m2 + 1) cap9).ownBlock = some k → C ≤ k) := hid (fun k hk => by
      obtain rfl : p9 = k := by simpa [Value.ownBlock] using hk
      rcases HAT9.out with h | h
      ·exact HOB.out _ h
      ·rw [h]; simp; omega)
     clear hnew
     go_wp2
     go_roundg (gk - 1)
     case rel => exact ⟨j + 1, by go_num, by omega, by omega, hid (((HB.out.trans (HBW.out.mono (by omega))).alloc (by omega) _).grown HG9.out (by simp; omega) (fun k hk => (HL0.out.lt k hk).1)), HKF, hid (by rw [HES.out]; exact HPF.out), HOF⟩
     case measure => omega
    ·obtain rfl : gk = 0 := by omega
     obtain rfl : j = m := by omega
     have hea : endsTo q j = endsL q := by
      rw [← ends_all, ← HSQ.out, hsl]
     have HRD : Hid (RdPs wr (fun b => w.heap.size ≤ b ∧ b < wr.heap.size) (.slice za (endsTo q j).length zc) (endsL q)) := hid (by
      have h := HPS.out.read
      rw [hea] at h ⊢
      exact h)
     have HLE : Hid ((endsTo q j).length = (endsL q).length) := hid (by rw [hea])
     clear hea
     generalize (endsTo q j).length = k at *
     go_wp2
     go_ret
     exact ⟨za, zc, by rw [HLE.out]; rfl, by rw [← HLE.out]; exact HRD.out, HB.out⟩
end Go.Proofs.YtaajpliifdlokaaGreatDoor

namespace Go.Proofs.YtaajpliifdlokaaGreatDoor
open Go.RowKit
theorem cols_eq_iff {xs ys : List Co} (h : xs.length = ys.length) : xs = ys ↔ ∀ q, q < xs.length → xs.getD q Co.z = ys.getD q Co.z := by
  refine ⟨fun e q _ => by rw [e], fun he => List.ext_getElem h fun i h1 h2 => ?_⟩
  have := he i h1
  simpa [List.getD, h1, h2] using this
set_option maxRecDepth 100000 in
set_option maxHeartbeats 2000000 in
theorem alike1 (x y : Co) (u v : Value) (B : Nat) (w : World) (hu : RdCl w (· < B) u x.cells) (hv : RdCl w (· < B) v y.cells) (hB : B ≤ w.heap.size) :
    Calls Tryz.prog 215 #[.agg #[.string x.name, u], .agg #[.string y.name, v]] w (Ret w (.bool (decide (x = y)))) := by
  have HEQ := hid (fun W (hW : Below w.heap.size w W) => equal_cells u v x.cells y.cells B W (hu.keep fun p (hp : p.block < B) => hW.cell (p := p) (by omega)) (hv.keep fun p (hp : p.block < B) => hW.cell (p := p) (by omega)) (Nat.le_trans hB hW.size))
  have HD : Hid (decide (x = y) = (decide (x.name = y.name) && decide (x.cells = y.cells))) := hid (by
    obtain ⟨a, b⟩ := x
    obtain ⟨c, d⟩ := y
    simp [Co.mk.injEq, Bool.decide_and])
  obtain ⟨ua, uc, rfl⟩ : ∃ a c, u = .slice a x.cells.length c := by
    obtain ⟨a, c, e, -⟩ := hu
    exact ⟨a, c, e⟩
  obtain ⟨va, vc, rfl⟩ : ∃ a c, v = .slice a y.cells.length c := by
    obtain ⟨a, c, e, -⟩ := hv
    exact ⟨a, c, e⟩
  generalize decide (x = y) = R at *
  generalize decide (x.cells = y.cells) = R2 at *
  obtain ⟨xn, xc⟩ := x
  obtain ⟨yn, yc⟩ := y
  simp only at *
  clear hu hv
  generalize xc.length = m at *
  generalize yc.length = k at *
  have ha := (BoxN.new w #[.string xn, .slice ua m uc] 55).alloc (.cells #[.string yn, .slice va k vc] 55)
  have hb := BoxN.new (w.alloc (.cells #[.string xn, .slice ua m uc] 55)) #[.string yn, .slice va k vc] 55
  rw [World.size_alloc] at hb
  have a0 := ha.cell 0 rfl
  have a1 := ha.cell 1 rfl
  have b0 := hb.cell 0 rfl
  have b1 := hb.cell 1 rfl
  have HB0 := hid (((Below.refl w.heap.size w).alloc (Nat.le_refl _) (.cells #[.string xn, .slice ua m uc] 55)).alloc (by simp) (.cells #[.string yn, .slice va k vc] 55))
  clear ha hb
  by_cases h : xn = yn
  · subst h
    have h2 : (xn.toList == xn.toList) = true := by simp
    have HR : Hid (R = R2) := hid (by rw [HD.out]; simp)
    clear HD
    go_enter Tryz.func215, Tryz.ntmps215
    go_wp2_with fail
    with_reducible refine (HEQ.out _ HB0.out).mono ?_
    rintro e w1 ⟨rfl, hb1⟩
    have HB1 := hid (HB0.out.trans (hb1.mono HB0.out.size))
    clear hb1
    go_wp2
    go_ret
    exact ⟨ret_bool HR.out.symm, HB1.out⟩
  · have h2 : (xn.toList == yn.toList) = false := by
      cases h5 : (xn.toList == yn.toList) with
      | false => rfl
      | true => exact absurd (bytes_ext (eq_of_beq h5)) h
    have HR : Hid (R = false) := hid (by rw [HD.out, decide_eq_false h]; rfl)
    clear HD
    go_enter Tryz.func215, Tryz.ntmps215
    go_wp2
    go_ret
    exact ⟨ret_bool HR.out.symm, HB0.out⟩
set_option maxRecDepth 100000 in
set_option maxHeartbeats 4000000 in
theorem equal_cols (u v : Value) (xs ys : List Co) (B : Nat) (w : World) (hu : RdCo w (· < B) u xs) (hv : RdCo w (· < B) v ys) (hB : B ≤ w.heap.size) :
  Calls Tryz.prog 214 #[u, v, .func (.func 215) #[] #[]] w (Ret w (.bool (decide (xs = ys)))) := by
 obtain ⟨cu, ⟨ua, uc, rfl, huc, hum, hur⟩, hcu⟩ := hu
 obtain ⟨cv, ⟨va, vc, rfl, hvc, hvm, hvr⟩, hcv⟩ := hv
 have HU := hid hur
 have HV := hid hvr
 unfold maxLen at hum hvm
 by_cases hl : xs.length = ys.length
 ·have HNO : Hid (∀ q, q < xs.length → decide (xs.getD q Co.z = ys.getD q Co.z) = false → decide (xs = ys) = false) := hid (fun q hq h => by
   refine decide_eq_false fun e => ?_
   exact of_decide_eq_false h (by rw [e]))
  have HYES : Hid ((∀ q, q < xs.length → decide (xs.getD q Co.z = ys.getD q Co.z) = true) → decide (xs = ys) = true) := hid (fun h => decide_eq_true ((cols_eq_iff hl).2 fun q hq => of_decide_eq_true (h q hq)))
  have HA1 := hid (fun q (hq : q < xs.length) W (hW : Below w.heap.size w W) => alike1 (xs.getD q Co.z) (ys.getD q Co.z) (cu q) (cv q) B W ((hcu q hq).keep fun p (hp : p.block < B) => hW.cell (p := p) (by omega)) ((hcv q (by omega)).keep fun p (hp : p.block < B) => hW.cell (p := p) (by omega)) (Nat.le_trans hB hW.size))
  have HSU := hid (fun q (hq : q < xs.length) => (by obtain ⟨a, c, e, -⟩ := hcu q hq; exact ⟨_, _, _, e⟩ : ∃ a n c, cu q = .slice a n c))
  have HSV := hid (fun q (hq : q < xs.length) => (by obtain ⟨a, c, e, -⟩ := hcv q (by omega); exact ⟨_, _, _, e⟩ : ∃ a n c, cv q = .slice a n c))
  clear hur hvr hcu hcv
  rw [← hl] at HV hvc ⊢
  generalize decide (xs = ys) = R at *
  generalize hxl : xs.length = L at *
  clear hxl hl
  go_enter Tryz.func214, Tryz.ntmps214
  generalize hLA : Code.loop _ = LA
  go_wp2_with fail
  subst hLA
  go_loopg [17] L (fun N i wr => ∃ q : Nat, q + N = L ∧ i = .int .i64 (q : Int) ∧ Hid (Below w.heap.size w wr) ∧ Hid (∀ j, j < q → decide (xs.getD j Co.z = ys.getD j Co.z) = true))
  case atStart => exact ⟨0, by omega, rfl, hid (Below.refl _ _), hid (fun j h => absurd h (by omega))⟩
  case round =>
   obtain ⟨q, hq, rfl, HB, HALL⟩ := hrel
   by_cases hp : 0 < gk
   ·obtain ⟨b, o, rfl, hb, hcell⟩ := HU.out (by omega)
    obtain ⟨b2, o2, rfl, hb2, hcell2⟩ := HV.out (by omega)
    have hbw : b < w.heap.size := by have : b < B := hb; omega
    have hbw2 : b2 < w.heap.size := by have : b2 < B := hb2; omega
    have e0 : wr.cell? ⟨b, o + q * 2, none⟩ = some (.string (xs.getD q Co.z).name) := (HB.out.cell (p := ⟨b, o + q * 2, none⟩) hbw).trans (hcell q (by omega) 0 (by omega))
    have e1 : wr.cell? ⟨b, o + q * 2 + 1, none⟩ = some (cu q) := (HB.out.cell (p := ⟨b, o + q * 2 + 1, none⟩) hbw).trans (hcell q (by omega) 1 (by omega))
    have hws := HB.out.size
    have e2 : wr.cell? ⟨b2, o2 + q * 2, none⟩ = some (.string (ys.getD q Co.z).name) := (HB.out.cell (p := ⟨b2, o2 + q * 2, none⟩) hbw2).trans (hcell2 q (by omega) 0 (by omega))
    have e3 : wr.cell? ⟨b2, o2 + q * 2 + 1, none⟩ = some (cv q) := (HB.out.cell (p := ⟨b2, o2 + q * 2 + 1, none⟩) hbw2).trans (hcell2 q (by omega) 1 (by omega))
    have HNOq := hid (HNO.out q (by omega))
    have HA1q := hid (HA1.out q (by omega))
    obtain ⟨xa, xl, xk, hxu⟩ := HSU.out q (by omega)
    obtain ⟨ya, yl, yk, hyv⟩ := HSV.out q (by omega)
    rw [hxu] at e1 HA1q
    rw [hyv] at e3 HA1q
    have HST : Hid (decide (xs.getD q Co.z = ys.getD q Co.z) = true → ∀ j, j < q + 1 → decide (xs.getD j Co.z = ys.getD j Co.z) = true) := hid (fun h j hj => by
     rcases Nat.lt_or_ge j q with h1 | h1
     ·exact HALL.out j h1
     ·obtain rfl : j = q := by omega
      exact h)
    clear hcell hcell2 hxu hyv
    generalize (xs.getD q Co.z).name = xn at *
    generalize (ys.getD q Co.z).name = yn at *
    generalize decide (xs.getD q Co.z = ys.getD q Co.z) = R2 at *
    have hq1 : (q : Int) < (L : Int) := by omega
    have ha := (BoxN.new wr #[.string xn, .slice xa xl xk] 55).alloc (.cells #[.string yn, .slice ya yl yk] 55)
    have hb3 := BoxN.new (wr.alloc (.cells #[.string xn, .slice xa xl xk] 55)) #[.string yn, .slice ya yl yk] 55
    rw [World.size_alloc] at hb3
    have hcz : ∀ p : Addr, p.block < w.heap.size → (wr.alloc (.cells #[.string xn, .slice xa xl xk] 55)).cell? p = wr.cell? p := fun p hp => World.cell?_alloc_lt _ _ _ (by omega)
    have q2 := (hcz ⟨b2, o2 + q * 2, none⟩ hbw2).trans e2
    have q3 := (hcz ⟨b2, o2 + q * 2 + 1, none⟩ hbw2).trans e3
    have a0 := ha.cell 0 rfl
    have a1 := ha.cell 1 rfl
    have b0 := hb3.cell 0 rfl
    have b1 := hb3.cell 1 rfl
    have HB2 := hid ((HB.out.alloc hws (.cells #[.string xn, .slice xa xl xk] 55)).alloc (by simp; omega) (.cells #[.string yn, .slice ya yl yk] 55))
    clear ha hb3 hcz
    go_wp2_with fail
    with_reducible refine (HA1q.out _ HB2.out).mono ?_
    rintro e w1 ⟨rfl, hb1⟩
    have HB3 := hid (HB2.out.trans (hb1.mono HB2.out.size))
    clear hb1 a0 a1 b0 b1 q2 q3 e0 e1 e2 e3
    cases R2 with
    | true =>
     have HS2 := hid (HST.out rfl)
     go_wp2
     go_roundg (gk - 1)
     case rel => exact ⟨q + 1, by omega, by go_num, HB3, HS2⟩
     case measure => omega
    | false =>
     have HRF := hid (HNOq.out rfl)
     go_wp2
     go_ret
     exact ⟨ret_bool HRF.out.symm, HB3.out⟩
   ·obtain rfl : gk = 0 := by omega
    obtain rfl : q = L := by omega
    have HRT := hid (HYES.out HALL.out)
    go_wp2
    go_ret
    exact ⟨ret_bool HRT.out.symm, HB.out⟩
 ·have HR : Hid (decide (xs = ys) = false) := hid (decide_eq_false fun e => hl (by rw [e]))
  generalize decide (xs = ys) = R at *
  clear hur hvr hcu hcv HU HV
  generalize xs.length = L at *
  generalize ys.length = M at *
  have hl' : ¬ (L : Int) = (M : Int) := by omega
  go_enter Tryz.func214, Tryz.ntmps214
  go_wp2
  go_ret
  exact ⟨ret_bool HR.out.symm, Below.refl _ _⟩
set_option maxHeartbeats 1000000 in
theorem expl_Alike (ia ib : Int) (na nb : ByteArray) (u v : Value) (xs ys : List Co) (B : Nat) (w : World) (hu : RdCo w (· < B) u xs) (hv : RdCo w (· < B) v ys) (hB : B ≤ w.heap.size) :
    Calls Tryz.prog 164 #[.agg #[.int .i64 ia, .string na, u], .agg #[.int .i64 ib, .string nb, v]] w (Ret w (.bool (decide (xs = ys)))) := by
  have HEQ := hid (fun W (hW : Below w.heap.size w W) => equal_cols u v xs ys B W (hu.keep fun p (hp : p.block < B) => hW.cell (p := p) (by omega)) (hv.keep fun p (hp : p.block < B) => hW.cell (p := p) (by omega)) (Nat.le_trans hB hW.size))
  generalize decide (xs = ys) = R at *
  obtain ⟨ua, uc, rfl⟩ : ∃ a c, u = .slice a xs.length c := by
    obtain ⟨cu, ⟨a, c, e, -⟩, -⟩ := hu
    exact ⟨a, c, e⟩
  obtain ⟨va, vc, rfl⟩ : ∃ a c, v = .slice a ys.length c := by
    obtain ⟨cu, ⟨a, c, e, -⟩, -⟩ := hv
    exact ⟨a, c, e⟩
  clear hu hv
  generalize xs.length = L at *
  generalize ys.length = M at *
  have ha := (BoxN.new w #[.int .i64 ia, .string na, .slice ua L uc] 51).alloc (.cells #[.int .i64 ib, .string nb, .slice va M vc] 51)
  have hb := BoxN.new (w.alloc (.cells #[.int .i64 ia, .string na, .slice ua L uc] 51)) #[.int .i64 ib, .string nb, .slice va M vc] 51
  rw [World.size_alloc] at hb
  have a2 := ha.cell 2 rfl
  have b2 := hb.cell 2 rfl
  have HB0 := hid (((Below.refl w.heap.size w).alloc (Nat.le_refl _) (.cells #[.int .i64 ia, .string na, .slice ua L uc] 51)).alloc (by simp) (.cells #[.int .i64 ib, .string nb, .slice va M vc] 51))
  clear ha hb
  go_enter Tryz.func164, Tryz.ntmps164
  go_wp2_with fail
  with_reducible refine (HEQ.out _ HB0.out).mono ?_
  rintro e w1 ⟨rfl, hb1⟩
  have HB1 := hid (HB0.out.trans (hb1.mono HB0.out.size))
  clear hb1
  go_wp2
  go_ret
  exact ⟨rfl, HB1.out⟩
end Go.Proofs.YtaajpliifdlokaaGreatDoor
