/- Contract of text.Pattern. -/
import Derived.Test.YtdncdlcfgljheaaDoorPi
import Derived.Test.YtdncdlcfgljheaaDoorBd
namespace Go.Proofs.YtdncdlcfgljheaaDoor
open Go.RowKit Go.Shelf

attribute [local go_sem] Oper.semAt_some

def runeS (c : Nat) : ByteArray := ⟨#[UInt8.ofNat c]⟩
theorem conv_rune (c : Nat) (hc : c < 128) (W : World) : (convert 21 9 (.int .i32 (c : Int))).run Tryd.prog W = .ok (.string (runeS c)) W := by
  have hv : Utf8.encode (c : Int) = runeS c := by
    have h1 : Utf8.valid (c : Int) = true := by simp [Utf8.valid]; omega
    unfold Utf8.encode
    rw [if_pos h1]
    simp only [Int.toNat_natCast]
    rw [if_pos hc]
    rfl
  simp [convert, run_underlying Tryd.underlying21, run_underlying Tryd.underlying9, Conv.intToString, hv, go_sem]

/-- a builder stays, where its blocks stay -/
theorem isBuilder_keep {T e : TypeId} {B b : Nat} {bs : List Value} {W W' : World} (h : Lib.IsBuilderF T e B b bs W) (hk : ∀ (k : Nat) (o : Obj), W.heap[k]? = some o → ((∃ cs : Array Value, o = .cells cs T (0, 0)) ∨ ∃ (cs : Array Value) (fz : Nat × Nat), o = .cells cs e fz) → W'.heap[k]? = some o) :
    Lib.IsBuilderF T e B b bs W' := by
  have key : ∀ p, Lib.BuilderAtF T e B b p bs W → Lib.BuilderAtF T e B b p bs W' := by
    rintro p ⟨hB, v, hb, ⟨hl, ho⟩, hne⟩
    refine ⟨hB, v, hk _ _ hb (.inl ⟨_, rfl⟩), ⟨hl, ?_⟩, hne⟩
    rcases ho with ho | ⟨g, cap, cur, fz, hv, hbg, hg, r⟩
    · exact .inl ho
    · exact .inr ⟨g, cap, cur, fz, hv, hbg, hk _ _ hg (.inr ⟨_, _, rfl⟩), r⟩
  rcases h with h | h
  · exact .inl (key _ h)
  · exact .inr (key _ h)

def pcB (pre : List (Nat × Nat)) : List Value := Lib.byteCells ((pre.flatMap piece).map UInt8.ofNat)
/-- what holds between two rounds -/
def PatI (w : World) (pre : List (Nat × Nat)) (W : World) : Prop := Lib.IsBuilderF 63 5 w.heap.size w.heap.size (pcB pre) W ∧ Below w.heap.size w W ∧ w.heap.size + 2 ≤ W.heap.size

theorem patI_own (w : World) {B : Nat} (hB : w.heap.size ≤ B) : OwnFrom B (PatI w) := by
  intro s W W' row hs hg hr
  refine ⟨isBuilder_keep hs.1 (fun k o ho hc => ?_), hs.2.1.grown hg hs.2.1.size (fun k e => Nat.le_trans hB (hr k e).1), Nat.le_trans hs.2.2 hg.size⟩
  refine (hg.block k (Array.getElem?_eq_some_iff.1 ho).1 ?_).trans ho
  intro e
  obtain ⟨_, x, hx, hxc⟩ := hr k e.symm
  rw [ho] at hx
  cases hx
  rcases hc with ⟨cs, rfl⟩ | ⟨cs, fz, rfl⟩ <;> cases hxc
theorem patI_cell (w : World) {n₀ : Nat} (hB : w.heap.size ≤ n₀) : AbidesG (GrpG n₀) (PatI w) := by
  intro s W r o v hs hg
  obtain ⟨hr, cs, hcs⟩ := hg
  refine ⟨isBuilder_keep hs.1 (fun k x ho hc => ?_), hs.2.1.setCell (p := ⟨r, o, none⟩) (Nat.le_trans hB hr) v, by rw [World.size_setCell]; exact hs.2.2⟩
  refine (Below.heap_setCell _ _ _ _ ?_).trans ho
  rintro rfl
  rw [hcs] at ho
  cases ho
  rcases hc with ⟨cs', h⟩ | ⟨cs', fz, h⟩
  · exact absurd h (by intro h; injection h with _ h _; exact absurd h (by decide))
  · exact absurd h (by intro h; injection h with _ h _; exact absurd h (by decide))

theorem kpG_keep {b : Nat} {W W' : World} (hb : W.heap.size ≤ W'.heap.size) (hk : Lib.OthersKept 5 (some b) W W') (hT : ∃ cs : Array Value, W.heap[b]? = some (.cells cs 63 (0, 0))) : KpG W W' := by
  refine ⟨hb, fun k o ho hw => hk k o ho ?_ ?_, fun k cs ho => hk k _ ho ?_ ?_⟩
  · intro e
    cases e
    obtain ⟨cs, h⟩ := hT
    rw [h] at ho
    cases ho
    cases hw
  · rintro c fz rfl
    cases hw
  · intro e
    cases e
    obtain ⟨cs', h⟩ := hT
    rw [h] at ho
    injection ho with ho
    injection ho with _ h _
    exact absurd h (by decide)
  · intro c fz h
    injection h with _ h _
    exact absurd h (by decide)
theorem builder_block {T e : TypeId} {B b : Nat} {bs : List Value} {W : World} (h : Lib.IsBuilderF T e B b bs W) : ∃ cs : Array Value, W.heap[b]? = some (.cells cs T (0, 0)) := by
  rcases h with ⟨_, v, hb, _⟩ | ⟨_, v, hb, _⟩ <;> exact ⟨_, hb⟩

theorem pcB_len (pre : List (Nat × Nat)) : (pcB pre).length = (pre.flatMap piece).length := by simp [pcB, Lib.byteCells]
theorem isBuilder_below {T e : TypeId} {B b : Nat} {bs : List Value} {W W' : World} (h : Lib.IsBuilderF T e B b bs W) (hb : Below W.heap.size W W') : Lib.IsBuilderF T e B b bs W' :=
  isBuilder_keep h fun _ _ ho _ => (hb.block _ (Array.getElem?_eq_some_iff.1 ho).1).trans ho
theorem patStep {w W W1 : World} {pre : List (Nat × Nat)} {x : Nat × Nat} {cells : List Value} (hB : Lib.IsBuilderF 63 5 w.heap.size w.heap.size (pcB pre) W) (hbl : Below w.heap.size w W) (hz : w.heap.size + 2 ≤ W.heap.size) (hb1 : Below W.heap.size W W1)
    (hc : cells = Lib.byteCells ((piece x).map UInt8.ofNat)) (W2 : World) (hA : Lib.IsBuilderF 63 5 w.heap.size w.heap.size (pcB pre ++ cells) W2) (hb2 : Below w.heap.size W1 W2) (hk2 : Lib.OthersKept 5 (some w.heap.size) W1 W2) :
    KeepsFrom (w.heap.size + 2) W W2 ∧ KpG W W2 ∧ PatI w (pre ++ [x]) W2 := by
  have hs1 := hb1.size
  have hs2 := hb2.size
  have hk0 : Lib.OthersKept 5 (some w.heap.size) W W2 := fun k o ho h1 h2 => hk2 k o ((hb1.block _ (Array.getElem?_eq_some_iff.1 ho).1).trans ho) h1 h2
  refine ⟨⟨by omega, fun k o hk ho hoc => hk0 k o ho (by intro e; cases e; omega) (by rintro c fz rfl; cases hoc)⟩, kpG_keep (by omega) hk0 (builder_block hB), ?_, hbl.trans ((hb1.mono (by omega)).trans hb2), by omega⟩
  have e : pcB (pre ++ [x]) = pcB pre ++ cells := by rw [hc]; simp [pcB, Lib.byteCells]
  rw [e]
  exact hA
theorem patEnd {w W W1 : World} {pre : List (Nat × Nat)} {x : Nat × Nat} {s' : ByteArray} (hB : Lib.IsBuilderF 63 5 w.heap.size w.heap.size (pcB pre) W) (hbl : Below w.heap.size w W) (hz : w.heap.size + 2 ≤ W.heap.size) (hb1 : Below W.heap.size W W1)
    (hc : Lib.strCells s' = Lib.byteCells ((piece x).map UInt8.ofNat)) (W2 : World) (hA : Lib.IsBuilderF 63 5 w.heap.size w.heap.size (pcB pre ++ Lib.strCells s') W2) (hb2 : Below w.heap.size W1 W2) (hk2 : Lib.OthersKept 5 (some w.heap.size) W1 W2) :
    KeepsFrom (w.heap.size + 2) W W2 ∧ KpG W W2 ∧ PatI w (pre ++ [x]) W2 := patStep hB hbl hz hb1 hc W2 hA hb2 hk2
theorem patEndR {w W W1 : World} {pre : List (Nat × Nat)} {x : Nat × Nat} {r : Nat} (hB : Lib.IsBuilderF 63 5 w.heap.size w.heap.size (pcB pre) W) (hbl : Below w.heap.size w W) (hz : w.heap.size + 2 ≤ W.heap.size) (hb1 : Below W.heap.size W W1)
    (hc : Lib.runeCells (r : Int) = Lib.byteCells ((piece x).map UInt8.ofNat)) (W2 : World) (hA : Lib.IsBuilderF 63 5 w.heap.size w.heap.size (pcB pre ++ Lib.runeCells (r : Int)) W2) (hb2 : Below w.heap.size W1 W2) (hk2 : Lib.OthersKept 5 (some w.heap.size) W1 W2) :
    KeepsFrom (w.heap.size + 2) W W2 ∧ KpG W W2 ∧ PatI w (pre ++ [x]) W2 := patStep hB hbl hz hb1 hc W2 hA hb2 hk2
theorem u8_of {c : Nat} (hc : c < 128) : (UInt8.ofNat c).toNat = c := by simp; omega
theorem rune_cells (c : Nat) (hc : c < 128) : Lib.runeCells (c : Int) = Lib.byteCells ([c].map UInt8.ofNat) := by
  have h := u8_of hc
  unfold Lib.runeCells
  rw [Lib.encodeRuneZ_one (by omega) (by omega)]
  simp only [Lib.byteCells, List.map_cons, List.map_nil, h]
theorem plus_cells (c : Nat) (hc : c < 128) : Lib.strCells (runeS c ++ ⟨#[43]⟩) = Lib.byteCells ([c, 43].map UInt8.ofNat) := by
  unfold Lib.strCells Lib.byteCells runeS
  rw [ByteArray.data_append]
  simp
theorem repeat_list (c n : Nat) : Lib.repeatL (runeS c).data.toList n = (List.replicate n c).map UInt8.ofNat := by
  induction n with
  | zero => rfl
  | succ n ih =>
    rw [Lib.repeatL, ih]
    simp [runeS, List.replicate_succ]
theorem repeat_cells (c n : Nat) (hc : c < 128) : Lib.strCells ⟨(Lib.repeatL (runeS c).data.toList n).toArray⟩ = Lib.byteCells ((List.replicate n c).map UInt8.ofNat) := by
  rw [repeat_list]
  rfl
theorem repeat_size (c n : Nat) : (⟨(Lib.repeatL (runeS c).data.toList n).toArray⟩ : ByteArray).size = n := by
  rw [repeat_list]
  show (List.toArray _).size = n
  simp

theorem groups_stops (n : Nat) (hn : 1 ≤ n) (Bs n₀ : Nat) (s : ByteArray) (hs : s.size ≤ 1073741824) (w : World) (hBs : Bs < w.heap.size) (hn₀ : n₀ ≤ w.heap.size) (hc : w.cell? ⟨Bs, 0, none⟩ = some (.string s)) :
    SeqStopsG Fence.wide n Tryd.prog 72 #[.pointer (some ⟨Bs, 0, none⟩)] (fun x => #[encG x]) KpG (fun ys => ys = groupsOf ((pts s).map clsN)) (fun pre => pre <+: groupsOf ((pts s).map clsN)) (fun pre x => pre ++ [x] <+: groupsOf ((pts s).map clsN)) (GrpG n₀) w :=
  fun l J Jx W hW hJ hJx hJc hJxc hY h0 => groups1_in n hn l Bs n₀ s hs J Jx W (Nat.le_trans hn₀ hW.size) hJ hJx hJc hJxc hY ((hW.cell (p := ⟨Bs, 0, none⟩) hBs).trans hc) h0

theorem groups_in (n : Nat) (s : ByteArray) (w : World) :
    CallsIn Fence.wide n Tryd.prog 43 #[.string s] w fun e w' => e = .returned (.func (.func 72) #[] #[.pointer (some ⟨w.heap.size, 0, none⟩)]) ∧ w' = w.alloc (.cells #[.string s] 9) := by
  refine callsIn_of_wp Tryd.func43 rfl trivial ?_ rfl
  simp only [Tryd.ntmps43, List.size_toArray, List.length_cons, List.length_nil, Nat.reduceAdd, Nat.reduceSub, Array.replicate_succ, Array.replicate_zero, List.push_toArray, List.append_toArray, List.nil_append, List.cons_append]
  gi_wp2
  go_ret
  exact ⟨rfl, rfl⟩

/-- the frame of a round -/
def PatAx (w : World) (s : ByteArray) (x : Nat × Nat) (a' : Act) (W : World) : Prop :=
  ∃ Bx, W.heap[Bx]? = some (.cells #[.int .i32 (x.1 : Int), .bool (runC x.1), .int .i64 (x.2 : Int)] 68 (0, 0)) ∧
    a' = { tmps := #[.string s, undef, .string ⟨#[]⟩, .pointer (some ⟨w.heap.size, 0, none⟩), .pointer (some ⟨Bx, 0, none⟩), .string s, .func (.func 72) #[] #[.pointer (some ⟨w.heap.size + 1, 0, none⟩)], .agg #[.int .i32 (x.1 : Int), .bool (runC x.1), .int .i64 (x.2 : Int)], undef, undef, undef, undef, undef, undef, undef, undef, undef, undef, undef, undef, undef, undef, undef, undef, undef, undef, undef, undef, undef, undef, undef, undef], defers := [] }
theorem patAx_own (B : Nat) (w : World) (s : ByteArray) (x : Nat × Nat) (a' : Act) : OwnFrom B (fun (_ : Unit) W => PatAx w s x a' W) := by
  rintro _ W W' row ⟨Bx, h2, h3⟩ hg hr
  refine ⟨Bx, (hg.block Bx (Array.getElem?_eq_some_iff.1 h2).1 ?_).trans h2, h3⟩
  intro e
  obtain ⟨_, y, hy, hyc⟩ := hr Bx e.symm
  rw [h2] at hy
  cases hy
  cases hyc

theorem piece_len (g : Nat × Nat) (h : 0 < g.2) : (piece g).length ≤ 2 * g.2 := by
  unfold piece
  split
  · split
    · simp; omega
    · simp; omega
  · simp; omega
theorem grpF_pieces : ∀ (ks : List Nat) (c n : Nat), 0 < n → ((grpF c n ks).flatMap piece).length ≤ 2 * (n + ks.length)
  | [], c, n, h => by
    have := piece_len (c, n) h
    simp [grpF] at this ⊢
    omega
  | k :: ks, c, n, h => by
    unfold grpF
    split
    · have := grpF_pieces ks c (n + 1) (by omega)
      simp only [List.length_cons]
      omega
    · have h1 := grpF_pieces ks k 1 (by omega)
      have h2 := piece_len (c, n) h
      rw [List.flatMap_cons, List.length_append]
      simp only [List.length_cons] at *
      omega
theorem pieces_len (s : ByteArray) (pre : List (Nat × Nat)) (hp : pre <+: groupsOf ((pts s).map clsN)) : (pre.flatMap piece).length ≤ 2 * s.size := by
  have hl : ((pts s).map clsN).length ≤ s.size := by rw [List.length_map]; exact pts_le s
  have h1 : (pre.flatMap piece).length ≤ ((groupsOf ((pts s).map clsN)).flatMap piece).length := by
    obtain ⟨t, ht⟩ := hp
    rw [← ht, List.flatMap_append, List.length_append]
    omega
  refine Nat.le_trans h1 ?_
  generalize (pts s).map clsN = ks at *
  cases ks with
  | nil => simp [groupsOf]
  | cons k ks =>
    have := grpF_pieces ks k 1 (by omega)
    simp only [groupsOf, List.length_cons] at *
    omega

theorem groups_bound (s : ByteArray) : ∀ pre, pre <+: groupsOf ((pts s).map clsN) → ∀ g ∈ pre, g.1 < 128 ∧ g.2 ≤ s.size := by
  have key : ∀ (ks : List Nat) (c n : Nat), c < 128 → (∀ k ∈ ks, k < 128) → ∀ g ∈ grpF c n ks, g.1 < 128 ∧ g.2 ≤ n + ks.length := by
    intro ks
    induction ks with
    | nil => intro c n hc _ g hg; simp [grpF] at hg; subst hg; exact ⟨hc, by simp⟩
    | cons k ks ih =>
      intro c n hc hk g hg
      unfold grpF at hg
      split at hg
      · have := ih c (n + 1) hc (fun x hx => hk x (by simp [hx])) g hg
        simp only [List.length_cons]
        omega
      · rcases List.mem_cons.1 hg with rfl | hg
        · exact ⟨hc, by simp⟩
        · have := ih k 1 (hk k (by simp)) (fun x hx => hk x (by simp [hx])) g hg
          simp only [List.length_cons]
          omega
  intro pre hp g hg
  have hm := hp.subset hg
  have hl : ((pts s).map clsN).length ≤ s.size := by rw [List.length_map]; exact pts_le s
  have hlt : ∀ k ∈ (pts s).map clsN, k < 128 := fun k hk => by
    obtain ⟨c, _, rfl⟩ := List.mem_map.1 hk
    exact clsN_lt c
  generalize (pts s).map clsN = ks at *
  cases ks with
  | nil => simp [groupsOf] at hm
  | cons k ks =>
    have := key ks k 1 (hlt k (by simp)) (fun x hx => hlt x (by simp [hx])) g hm
    simp only [List.length_cons] at hl
    omega

set_option maxRecDepth 100000 in
set_option maxHeartbeats 4000000 in
theorem text_Pattern (s : ByteArray) (w : World) (hs : s.size ≤ 1073741824) :
    Calls Tryd.prog 16 #[.string s] w (Ret w (.string (patB s))) := by
  refine (callsIn_wide (n := 6)).1 ?_
  refine callsIn_of_wp_marks Tryd.func16 rfl trivial ?_ rfl
  simp only [Tryd.ntmps16, List.size_toArray, List.length_cons, List.length_nil, Nat.reduceAdd, Nat.reduceSub, Array.replicate_succ, Array.replicate_zero, List.push_toArray, List.append_toArray, List.nil_append, List.cons_append]
  gi_wp2
  refine ⟨trivial, (groups_in _ s _).mono ?_⟩
  rintro e w' ⟨rfl, rfl⟩
  gi_wp2
  have hb1 : (w.alloc (.cells #[.pointer none, .slice none 0 0] 63)).heap[w.heap.size]? = some (.cells #[.pointer none, .slice none 0 0] 63 (0, 0)) := World.alloc_heap_new w _
  have HI0 : PatI w [] ((w.alloc (.cells #[.pointer none, .slice none 0 0] 63)).alloc (.cells #[.string s] 9)) := by
    refine ⟨.inl ⟨Nat.le_refl _, .slice none 0 0, (Below.heap_alloc _ _ _ (by simp)).trans hb1, ⟨rfl, .inl ⟨rfl, rfl⟩⟩, by simp [Value.ownBlock]⟩, ?_⟩
    exact ⟨((Below.refl _ _).alloc (Nat.le_refl _) _).alloc (by simp) _, by simp⟩
  refine wpIn_rangeFunc_cells rfl (by omega) (gf := 72) (lb := #[.pointer (some ⟨w.heap.size + 1, 0, none⟩)]) rfl trivial (enters_of Tryd.func72 (by kernel_rfl) rfl)
    (groups_stops (6 - 1) (by omega) (w.heap.size + 1) (w.heap.size + 2) s hs _ (by simp) (by simp) (by simp)) (fun W r h => by obtain ⟨_, cs, h⟩ := h; exact ⟨_, h, rfl⟩)
    (fun h k => KpG.trans h k) ?kb (Below.refl _ _) (fun _ => rfl) (PatI w) (fun _ _ _ => False) (patI_own w (by simp; omega)) (fun _ _ _ _ _ h _ _ => h) (patI_cell w (by omega)) (fun _ _ _ _ _ _ h _ => h) HI0
    (PatAx w s) (fun x a' => patAx_own _ w s x a') ?assign ?body ?done ?stop
  case kb =>
    intro W l o o' hl ho h1 h2
    refine ⟨by simp, fun k x hx hw => (World.putObj_heap_other ?_).trans hx, fun k cs hx => (World.putObj_heap_other ?_).trans hx⟩
    · rintro rfl
      rw [ho] at hx
      cases hx
      rw [h2] at hw
      cases hw
    · rintro rfl
      rw [ho] at hx
      cases hx
      cases h1
  case assign =>
    rintro l pre ⟨c, n⟩ W K hi hK
    have HK := hid hK
    have HI := hid hi
    clear hK hi
    dsimp only [encG]
    gi_wp2
    exact HK.out _ _ ((KeepsOthers.alloc _ _).from _) ⟨by simp, fun k o ho _ => (Below.heap_alloc _ _ _ (Array.getElem?_eq_some_iff.1 ho).1).trans ho, fun k cs ho => (Below.heap_alloc _ _ _ (Array.getElem?_eq_some_iff.1 ho).1).trans ho⟩ ⟨isBuilder_keep HI.out.1 (fun k o ho _ => (Below.heap_alloc _ _ _ (Array.getElem?_eq_some_iff.1 ho).1).trans ho), HI.out.2.1.alloc HI.out.2.1.size _, by have := HI.out.2.2; simp; omega⟩ ⟨W.heap.size, World.alloc_heap_new W _, rfl⟩
  case body =>
    rintro l pre ⟨c, n⟩ a' W hl ⟨r, hr⟩ ⟨hB, hbl, hbz⟩ ⟨Bx, hbx, rfl⟩ hpx
    have hbd := groups_bound s _ hpx (c, n) (by simp)
    have hpl := pieces_len s _ hpx
    have c0 : W.cell? ⟨Bx, 0, none⟩ = some (.int .i32 (c : Int)) := by simp [World.cell?, hbx]
    have c1 : W.cell? ⟨Bx, 1, none⟩ = some (.bool (runC c)) := by simp [World.cell?, hbx]
    have c2 : W.cell? ⟨Bx, 2, none⟩ = some (.int .i64 (n : Int)) := by simp [World.cell?, hbx]
    obtain ⟨hc, hn⟩ := hbd
    dsimp only at hc hn
    have hcv := conv_rune c hc
    have HB := hid hB
    have HBL := hid hbl
    clear hbx hr hl hB hbl
    dsimp only
    have HPX : Hid (((pre ++ [(c, n)]).flatMap piece).length = (pre.flatMap piece).length + (piece (c, n)).length) := hid (by simp)
    cases hrc : runC c with
    | false =>
      rw [hrc] at c1
      have hpc : piece (c, n) = List.replicate n c := by unfold piece; rw [hrc]; rfl
      gi_wp2
      refine ⟨trivial, (CallsIn.inRound l (callsIn_wide.2 (Tryd.strings_Repeat (runeS c) n W (by omega) (by show 1 * n ≤ _; omega)))).mono ?_⟩
      rintro e W1 ⟨rfl, hb1⟩
      have HB1 := hid (isBuilder_below HB.out hb1)
      have hw1 := hb1.size
      have HE := hid (patEnd HB.out HBL.out hbz hb1 (s' := ⟨(Lib.repeatL (runeS c).data.toList n).toArray⟩) (x := (c, n)) (by rw [hpc]; exact repeat_cells c n hc))
      have hls : (⟨(Lib.repeatL (runeS c).data.toList n).toArray⟩ : ByteArray).size = n := repeat_size c n
      gi_wp2
      refine ⟨trivial, (CallsIn.inRound l (callsIn_wide.2 (Tryd.Builder_WriteString_k w.heap.size w.heap.size _ _ _ HB1.out (by rw [hls, pcB_len]; have := HPX.out; omega) (by omega)))).mono ?_⟩
      rintro e W2 ⟨rfl, hA, hb2, hk2⟩
      gi_wp2
      have hend := HE.out W2 (.inr hA) hb2 hk2
      simp only [World.size_alloc]
      exact hend
    | true =>
      rw [hrc] at c1
      by_cases hn1 : n = 1
      · subst hn1
        have hpc : piece (c, 1) = [c] := by unfold piece; rw [hrc]; rfl
        have HE := hid (patEndR HB.out HBL.out hbz (Below.refl _ _) (r := c) (x := (c, 1)) (by rw [hpc]; exact rune_cells c hc))
        gi_wp2
        refine ⟨trivial, (CallsIn.inRound l (callsIn_wide.2 (Tryd.Builder_WriteRune_k w.heap.size w.heap.size _ (c : Int) (by omega) (by omega) _ HB.out (by rw [pcB_len]; have := HPX.out; omega) (by omega)))).mono ?_⟩
        rintro e W2 ⟨rfl, hA, hb2, hk2⟩
        gi_wp2
        have hend := HE.out W2 (.inr hA) hb2 hk2
        simp only [World.size_alloc]
        exact hend
      · have hpc : piece (c, n) = [c, 43] := by unfold piece; rw [hrc]; simp [hn1]
        have HE := hid (patEnd HB.out HBL.out hbz (Below.refl _ _) (s' := runeS c ++ ⟨#[43]⟩) (x := (c, n)) (by rw [hpc]; exact plus_cells c hc))
        have hls : (runeS c ++ ⟨#[43]⟩ : ByteArray).size = 2 := by rw [ByteArray.size_append]; rfl
        have hne : ((n : Int) == 1) = false := by simp; omega
        gi_wp2
        refine ⟨trivial, (CallsIn.inRound l (callsIn_wide.2 (Tryd.Builder_WriteString_k w.heap.size w.heap.size _ _ _ HB.out (by rw [hls, pcB_len]; have := HPX.out; omega) (by omega)))).mono ?_⟩
        rintro e W2 ⟨rfl, hA, hb2, hk2⟩
        gi_wp2
        have hend := HE.out W2 (.inr hA) hb2 hk2
        simp only [World.size_alloc]
        exact hend
  case done =>
    rintro D ys W hD rfl ⟨hB, hbl, hbz⟩ hK
    have hDn : w.heap.size ≤ D := by simp at hD; omega
    have hDb : D ≠ w.heap.size := by simp at hD; omega
    have HB := hid hB
    have HBL := hid hbl
    have HK := hid hK
    clear hB hbl hK
    gi_wp2
    refine ⟨trivial, (callsIn_wide.2 (Tryd.Builder_String_any_k w.heap.size w.heap.size _ _ HB.out (by omega))).mono ?_⟩
    rintro e W2 ⟨rfl, hA, hb2, hk2⟩
    have HK2 : Hid (W2.heap[D]? = some (.deferred (some []))) := hid (hk2 D _ HK.out (by intro e; cases e; exact hDb rfl) (by intro c fz h; cases h))
    gi_wp2
    refine ⟨by simp, .inl ⟨_, _, rfl, run_takeDeferred HK2.out, ?_⟩⟩
    exact ⟨_, results_tmp rfl _ _ _, rfl, (HBL.out.trans hb2).trans (belowK_b (w := w) (Nat.le_refl _) W2 D _ _ hDn HK2.out rfl rfl)⟩
  case stop =>
    rintro D c pre W _ _ h _
    exact h.elim

end Go.Proofs.YtdncdlcfgljheaaDoor
