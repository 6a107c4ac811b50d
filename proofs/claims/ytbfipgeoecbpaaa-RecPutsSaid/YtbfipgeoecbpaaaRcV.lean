/- The document's recorder (ref23) in memory; Flush, Close. No condition but those that each names. -/
import Derived.Test.YtbfipgeoecbpaaaRcW
import Derived.Deep.CutRange
namespace Go.Proofs.Ytbfipgeoecbpaaa
open Go.RowKit
set_option linter.unusedVariables false
set_option linter.unusedSimpArgs false
set_option maxRecDepth 20000
/-- A frame of the document's recorder: its events, as they lie. -/
structure FrI where
  sv : Value
  evs : List Ev
def fiCells : Nat → List FrI → List Value
  | _, [] => []
  | k, x :: t => .int .u32 k :: x.sv :: fiCells (k + 1) t
theorem fiCells_len : ∀ (t : List FrI) (k : Nat), (fiCells k t).length = t.length * 2
  | [], _ => rfl
  | x :: t, k => by rw [fiCells, List.length_cons, List.length_cons, fiCells_len t, List.length_cons]; omega
theorem fiCells_snoc : ∀ (t : List FrI) (k : Nat) (x : FrI), fiCells k (t ++ [x]) = fiCells k t ++ [.int .u32 ((k + t.length : Nat) : Int), x.sv]
  | [], k, x => rfl
  | y :: t, k, x => by
    rw [List.cons_append, fiCells, fiCells, fiCells_snoc t (k + 1) x, List.length_cons, show k + 1 + t.length = k + (t.length + 1) by omega]
    rfl
/-- The events of a frame lie in memory, within U. -/
def FiIn (w : World) (U : Nat → Prop) (x : FrI) : Prop := (∃ ao cap, x.sv = .slice ao x.evs.length cap) ∧ w.ownsRow 0 25 6 x.sv x.evs.length (evCells x.evs) ∧ ∀ g, x.sv.ownBlock = some g → U g
def mdCells (room : Nat) (fv ov : Value) (e : Ev) (cl : Bool) : Array Value := #[.int .i64 room, fv, ov, .int .i64 e.k, .int .u64 e.cy, .int .u64 e.ct, .int .u32 e.a, .int .u32 e.b, .int .u32 e.v, .bool cl]
structure MdB (w : World) (m room : Nat) (fv ov : Value) (fl : List FrI) (op : List Ev) (e : Ev) (cl : Bool) (U : Nat → Prop) : Prop where
  me : w.heap[m]? = some (.cells (mdCells room fv ov e cl) 57 (0, 0))
  fo : w.ownsRow 0 110 2 fv fl.length (fiCells 0 fl)
  fi : ∀ x ∈ fl, FiIn w U x
  oo : w.ownsRow 0 25 6 ov op.length (evCells op)
  um : U m
  uf : ∀ g, fv.ownBlock = some g → U g
  uo : ∀ g, ov.ownBlock = some g → U g
theorem own_ty2 {w : World} {base : Nat} {e : TypeId} {size : Nat} {v : Value} {n : Nat} {xs : List Value} (h : w.ownsRow base e size v n xs) {g : Nat} (hg : v.ownBlock = some g) : ∃ C, w.heap[g]? = some (.cells C e (0, 0)) := by
  rcases h.2 with ⟨rfl, _⟩ | ⟨g', cap, cur, rfl, _, h5, _⟩
  · cases hg
  · obtain rfl : g' = g := by simpa [Value.ownBlock] using hg
    exact ⟨cur, h5⟩
section
variable {w w' : World} {m room : Nat} {fv ov : Value} {fl : List FrI} {op : List Ev} {e : Ev} {cl : Bool} {U : Nat → Prop}
theorem FiIn.keep {x : FrI} (h : FiIn w U x) (k : ∀ g, x.sv.ownBlock = some g → w'.heap[g]? = w.heap[g]?) : FiIn w' U x := ⟨h.1, own_keep h.2.1 k, h.2.2⟩
theorem MdB.vm (h : MdB w m room fv ov fl op e cl U) : fv.ownBlock ≠ some m ∧ ov.ownBlock ≠ some m ∧ ∀ x ∈ fl, x.sv.ownBlock ≠ some m := by
  have key : ∀ {v : Value} {T : TypeId} {n : Nat} {sz : Nat} {xs : List Value}, w.ownsRow 0 T sz v n xs → T ≠ 57 → v.ownBlock ≠ some m := by
    intro v T n sz xs ho hT hg
    obtain ⟨C, hc⟩ := own_ty2 ho hg
    have := h.me
    rw [hc] at this
    simp only [Option.some.injEq, Obj.cells.injEq] at this
    exact hT this.2.1
  exact ⟨key h.fo (by decide), key h.oo (by decide), fun x hx => key (h.fi x hx).2.1 (by decide)⟩
theorem MdB.only {S : Nat → Prop} (h : MdB w m room fv ov fl op e cl U) (o : Only S w w') (hn : ∀ k, U k → ¬ S k) : MdB w' m room fv ov fl op e cl U :=
  { h with
    me := o.keeps h.me (hn m h.um)
    fo := own_keep h.fo fun g hg => o.block g (h.fo.lt g hg).2 (hn g (h.uf g hg))
    fi := fun x hx => (h.fi x hx).keep fun g hg => o.block g ((h.fi x hx).2.1.lt g hg).2 (hn g ((h.fi x hx).2.2 g hg))
    oo := own_keep h.oo fun g hg => o.block g (h.oo.lt g hg).2 (hn g (h.uo g hg)) }
theorem MdB.below (h : MdB w m room fv ov fl op e cl U) (k : Below w.heap.size w w') : MdB w' m room fv ov fl op e cl U := h.only (Only.of_below k (fun _ => False)) fun _ _ x => x
theorem MdB.mono {V : Nat → Prop} (h : MdB w m room fv ov fl op e cl U) (hs : ∀ k, U k → V k) : MdB w m room fv ov fl op e cl V :=
  { h with fi := fun x hx => ⟨(h.fi x hx).1, (h.fi x hx).2.1, fun g hg => hs g ((h.fi x hx).2.2 g hg)⟩, um := hs m h.um, uf := fun g hg => hs g (h.uf g hg), uo := fun g hg => hs g (h.uo g hg) }
/-- A store into one of its own cells: the rows stay. -/
theorem MdB.rows (h : MdB w m room fv ov fl op e cl U) (i : Nat) (v : Value) : (w.setCell ⟨m, i, none⟩ v).ownsRow 0 110 2 fv fl.length (fiCells 0 fl) ∧ (∀ x ∈ fl, FiIn (w.setCell ⟨m, i, none⟩ v) U x) ∧ (w.setCell ⟨m, i, none⟩ v).ownsRow 0 25 6 ov op.length (evCells op) := by
  obtain ⟨n1, n2, n3⟩ := h.vm
  refine ⟨own_keep h.fo fun g hg => Below.heap_setCell _ _ _ _ (fun q => n1 (by rw [hg, show g = m from q])), fun x hx => (h.fi x hx).keep fun g hg => Below.heap_setCell _ _ _ _ (fun q => n3 x hx (by rw [hg, show g = m from q])), own_keep h.oo fun g hg => Below.heap_setCell _ _ _ _ (fun q => n2 (by rw [hg, show g = m from q]))⟩
theorem MdB.cells (h : MdB w m room fv ov fl op e cl U) (i : Nat) : w.cell? ⟨m, i, none⟩ = (mdCells room fv ov e cl)[i]? := cell_blk h.me i
theorem MdB.frozen (h : MdB w m room fv ov fl op e cl U) (i : Nat) : w.frozen? ⟨m, i, none⟩ = false := frozen_blk h.me i
theorem MdB.nilOp (h : MdB w m room fv ov fl op e cl U) : MdB (w.setCell ⟨m, 2, none⟩ (.slice none 0 0)) m room fv (.slice none 0 0) fl [] e cl U := by
  obtain ⟨h1, h2, _⟩ := h.rows 2 (.slice none 0 0)
  exact ⟨(blk_setCell h.me (i := 2) _).trans (by simp [mdCells]), h1, h2, World.ownsRow_nil _ _ _ _, h.um, h.uf, fun g hg => by cases hg⟩
theorem MdB.setCl (h : MdB w m room fv ov fl op e cl U) (u : Bool) : MdB (w.setCell ⟨m, 9, none⟩ (.bool u)) m room fv ov fl op e u U := by
  obtain ⟨h1, h2, h3⟩ := h.rows 9 (.bool u)
  exact ⟨(blk_setCell h.me (i := 9) _).trans (by simp [mdCells]), h1, h2, h3, h.um, h.uf, h.uo⟩
theorem MdB.setOp (h : MdB w m room fv ov fl op e cl U) (v : Value) (l : List Ev) (ho : w.ownsRow 0 25 6 v l.length (evCells l)) (hu : ∀ g, v.ownBlock = some g → U g) : MdB (w.setCell ⟨m, 2, none⟩ v) m room fv v fl l e cl U := by
  obtain ⟨h1, h2, _⟩ := h.rows 2 v
  refine ⟨(blk_setCell h.me (i := 2) _).trans (by simp [mdCells]), h1, h2, own_keep ho fun g hg => Below.heap_setCell _ _ _ _ (fun q => ?_), h.um, h.uf, hu⟩
  obtain ⟨C, hc⟩ := own_ty2 ho hg
  have := h.me
  rw [← show g = m from q, hc] at this
  simp only [Option.some.injEq, Obj.cells.injEq] at this
  exact absurd this.2.1 (by decide)
theorem MdB.setLast (h : MdB w m room fv ov fl op e cl U) (f : Ev) : MdB ((((((w.setCell ⟨m, 3, none⟩ (.int .i64 f.k)).setCell ⟨m, 4, none⟩ (.int .u64 f.cy)).setCell ⟨m, 5, none⟩ (.int .u64 f.ct)).setCell ⟨m, 6, none⟩ (.int .u32 f.a)).setCell ⟨m, 7, none⟩ (.int .u32 f.b)).setCell ⟨m, 8, none⟩ (.int .u32 f.v)) m room fv ov fl op f cl U := by
  have hme := h.me
  obtain ⟨n1, n2, n3⟩ := h.vm
  have o : Only (fun k => k = m) w ((((((w.setCell ⟨m, 3, none⟩ (.int .i64 f.k)).setCell ⟨m, 4, none⟩ (.int .u64 f.cy)).setCell ⟨m, 5, none⟩ (.int .u64 f.ct)).setCell ⟨m, 6, none⟩ (.int .u32 f.a)).setCell ⟨m, 7, none⟩ (.int .u32 f.b)).setCell ⟨m, 8, none⟩ (.int .u32 f.v)) :=
    ((((((Only.refl (fun k => k = m) w).setCell _ _ fun _ => rfl).setCell _ _ fun _ => rfl).setCell _ _ fun _ => rfl).setCell _ _ fun _ => rfl).setCell _ _ fun _ => rfl).setCell _ _ fun _ => rfl
  have a1 := blk_setCell hme (i := 3) (.int .i64 f.k)
  have a2 := blk_setCell a1 (i := 4) (.int .u64 f.cy)
  have a3 := blk_setCell a2 (i := 5) (.int .u64 f.ct)
  have a4 := blk_setCell a3 (i := 6) (.int .u32 f.a)
  have a5 := blk_setCell a4 (i := 7) (.int .u32 f.b)
  have a6 := blk_setCell a5 (i := 8) (.int .u32 f.v)
  exact ⟨a6.trans (by simp [mdCells]), own_keep h.fo fun g hg => o.block g (h.fo.lt g hg).2 (fun q => n1 (by rw [hg, q])), fun x hx => (h.fi x hx).keep fun g hg => o.block g ((h.fi x hx).2.1.lt g hg).2 (fun q => n3 x hx (by rw [hg, q])), own_keep h.oo fun g hg => o.block g (h.oo.lt g hg).2 (fun q => n2 (by rw [hg, q])), h.um, h.uf, h.uo⟩
end
/-- The document's recorder is R. -/
structure Md (w : World) (m room : Nat) (R : Rcd) (U : Nat → Prop) : Prop where
  b : ∃ fv ov fl, MdB w m room fv ov fl R.op R.last R.cl U ∧ fl.map FrI.evs = R.fr
  foot : ∀ k, U k → k < w.heap.size
section
variable {w w' : World} {m room : Nat} {R : Rcd} {U : Nat → Prop}
theorem Md.only {S : Nat → Prop} (h : Md w m room R U) (o : Only S w w') (hn : ∀ k, U k → ¬ S k) : Md w' m room R U := by
  obtain ⟨fv, ov, fl, b, he⟩ := h.b
  exact ⟨⟨fv, ov, fl, b.only o hn, he⟩, fun k hk => Nat.lt_of_lt_of_le (h.foot k hk) o.size⟩
theorem Md.below (h : Md w m room R U) (k : Below w.heap.size w w') : Md w' m room R U := h.only (Only.of_below k (fun _ => False)) fun _ _ x => x
theorem Md.same (h : Md w m room R U) : Md w m room R (grow U w w) := by
  obtain ⟨fv, ov, fl, b, he⟩ := h.b
  exact ⟨⟨fv, ov, fl, b.mono fun k hk => .inl hk, he⟩, grow_lt h.foot (Nat.le_refl _)⟩
theorem frm_info : ∃ i, Try.prog.info? 110 = some i ∧ i.zero = some (.agg #[.int .u32 0, .slice none 0 0]) ∧ i.size = 2 ∧ i.bytes = 32 := by
  have h : Try.prog.info? 110 = some ((Try.prog.info? 110).get (by kernel_rfl)) := (Option.some_get _).symm
  exact ⟨_, h, by kernel_rfl, by kernel_rfl, by kernel_rfl⟩
theorem ul_frames : Try.prog.underlying 55 = some (.slice 110) := by kernel_rfl
theorem src_fi (w : World) (n : Nat) (v : Value) : Src (w.alloc (.cells #[.int .u32 n, v] 110)) (.slice (some ⟨w.heap.size, 0, none⟩) 1 1) 1 [.int .u32 n, v] := by
  refine .inr ⟨_, 1, rfl, fun j u hj => ?_⟩
  rw [Go.WideShapes.add_plain, cell_blk (heap_alloc_new w _), ← hj, Nat.zero_add]
  simp
set_option maxHeartbeats 4000000 in
theorem mflush_any (h : Md w m room R U) (hn : R.fr.length ≤ 5000) : Calls Try.prog 29 #[.pointer (some ⟨m, 0, none⟩)] w fun a w' => a = .returned (.tuple #[]) ∧ Md w' m room R.flush (grow U w w') ∧ Only U w w' := by
  obtain ⟨fv, ov, fl, b, he⟩ := h.b
  obtain ⟨fa, fc, rfl⟩ := owns_form b.fo
  obtain ⟨oa, oc, rfl⟩ := owns_form b.oo
  have y1 := b.cells 1
  have y2 := b.cells 2
  have z1 := b.frozen 1
  simp only [mdCells, List.getElem?_toArray, List.getElem?_cons_succ, List.getElem?_cons_zero] at y1 y2
  by_cases h0 : R.op = []
  · have hfl : R.flush = R := if_pos h0
    have hS := h.same
    rw [h0] at y2
    have HF := Lib.hid (And.intro hfl hS)
    clear hfl hS h0
    go_enter Try.func29, Try.ntmps29
    go_wp2_with fail
    go_end0
    refine ⟨rfl, ?_, Only.refl _ _⟩
    rw [HF.out.1]
    exact HF.out.2
  · have hol : 0 < R.op.length := List.length_pos_iff.2 h0
    have hol' : (0 : Int) < R.op.length := by omega
    have hfl : R.flush = { R with fr := R.fr ++ [R.op], op := [] } := if_neg h0
    have hlen : fl.length = R.fr.length := by rw [← he, List.length_map]
    obtain ⟨N, hN⟩ : ∃ N, N = fl.length := ⟨_, rfl⟩
    obtain ⟨K, hK⟩ : ∃ K, K = R.op.length := ⟨_, rfl⟩
    have hNb : N ≤ 5000 := by omega
    have hfo := b.fo
    have hme := b.me
    rw [← hN] at y1 hfo hme
    rw [← hK] at y2 hol hol' hme
    have hvm := b.vm
    have HF := Lib.hid (And.intro hfl (And.intro h0 (And.intro hN (And.intro hK (And.intro he hvm)))))
    clear hfl h0 hlen hN hK he hvm
    obtain ⟨i0, hi, hz0, hz1, hz2⟩ := frm_info
    have hwr : IntKind.u32.wrap (N : Int) = N := by rw [IntKind.wrap_u32]; omega
    have hk14 := ((Below.refl w.heap.size w).drew).alloc (Nat.le_refl _) (.cells #[.int .u32 N, .slice oa K oc] 110)
    have hsr := src_fi w.drew N (.slice oa K oc)
    have hown14 := own_keep hfo (fun g hg => hk14.block g (hfo.lt g hg).2)
    have hme14 := (hk14.block m (blk_lt hme)).trans hme
    have hone : ∀ u ∈ ([.int .u32 N, .slice oa K oc] : List Value), u.oneCell' = true := by
      intro u hu
      simp only [List.mem_cons, List.not_mem_nil, or_false] at hu
      rcases hu with rfl | rfl <;> rfl
    go_enter Try.func29, Try.ntmps29
    go_upto_region 1 with fail
    go_cut [] from 8 to 27 (fun wx => ∃ w15 ao' c', (w.drew.alloc (.cells #[.int .u32 N, .slice oa K oc] 110)).grownBy w15 (Value.slice fa N fc).ownBlock ∧ w15.ownsRow 0 110 2 (.slice ao' (N + 1) c') (N + 1) (fiCells 0 fl ++ [.int .u32 N, .slice oa K oc]) ∧ ((Value.slice ao' (N + 1) c').ownBlock = (Value.slice fa N fc).ownBlock ∨ (Value.slice ao' (N + 1) c').ownBlock = some (w.drew.alloc (.cells #[.int .u32 N, .slice oa K oc] 110)).heap.size) ∧ wx = w15.setCell ⟨m, 1, none⟩ (.slice ao' (N + 1) c'))
    case first =>
      have hvx : (Value.slice fa N fc).ownBlock ≠ some m := fun q => HF.out.2.2.2.2.2.1 ((ownB fa _ _ fc).trans q)
      have hal0 := (Below.refl w.heap.size w).alloc (Nat.le_refl _) (.cells #[.int .u32 N, .slice oa K oc] 110)
      have y1a := (hal0.cell (p := ⟨m, 1, none⟩) (blk_lt hme)).trans y1
      go_region_law (first | (refine step_append rfl (.tmp 12) (.tmp 24) 55 rfl 0 (Nat.zero_le _) 110 i0 _ 2 32 ul_frames hi hz0 hz1 hz2 rfl (by decide) (.slice fa N fc) N (fiCells 0 fl) rfl hown14 _ 1 [.int .u32 N, .slice oa K oc] rfl rfl hsr hone (by unfold maxLen; omega) (by omega) ?_; intro ao' c' w15 hown' hg' hat'; have hx15 := (hg'.block m (blk_lt hme14) (fun q => hvx q.symm)).trans hme14; have y1' := cell_blk hx15 1; have z1' := frozen_blk hx15 1; simp only [mdCells, List.getElem?_toArray, List.getElem?_cons_succ, List.getElem?_cons_zero] at y1'))
      all_goals (go_wp2_with fail; go_meet; exact ⟨w15, ao', c', hg', hown', hat', rfl⟩)
    case rest =>
      obtain ⟨w15, ao', c', hg', hown', hat', rfl⟩ := hcut
      have hB14 := hk14
      have o14 : Only U w (w.drew.alloc (.cells #[.int .u32 N, .slice oa K oc] 110)) := Only.of_below hk14 U
      obtain ⟨hfl, h0, hN, hK, he, hvm⟩ := HF.out
      have hof : ∀ g, (Value.slice fa N fc).ownBlock = some g → U g := fun g q => b.uf g ((ownB fa _ _ fc).trans q)
      have o15 := o14.grown hg' fun k hk _ => hof k hk
      have b14 := b.below hk14
      have hne : ∀ g, (Value.slice oa R.op.length oc).ownBlock = some g → some g ≠ (Value.slice fa N fc).ownBlock := by
        intro g q e
        obtain ⟨C1, h1⟩ := own_ty2 b.oo q
        obtain ⟨C2, h2⟩ := own_ty2 b.fo ((ownB fa _ _ fc).trans e.symm)
        rw [h1] at h2
        simp only [Option.some.injEq, Obj.cells.injEq] at h2
        exact absurd h2.2.1 (by decide)
      have me15 := (hg'.block m (blk_lt b14.me) (fun q => hvm.1 ((ownB fa _ _ fc).trans q.symm))).trans b14.me
      have fi15 : ∀ x ∈ fl, FiIn w15 U x := fun x hx => (b14.fi x hx).keep fun g hgg => hg'.block g ((b14.fi x hx).2.1.lt g hgg).2 (by
        intro e
        obtain ⟨C1, h1⟩ := own_ty2 (b.fi x hx).2.1 hgg
        obtain ⟨C2, h2⟩ := own_ty2 b.fo ((ownB fa _ _ fc).trans e.symm)
        rw [h1] at h2
        simp only [Option.some.injEq, Obj.cells.injEq] at h2
        exact absurd h2.2.1 (by decide))
      have oo15 := own_keep b14.oo fun g hgg => hg'.block g (b14.oo.lt g hgg).2 (hne g hgg)
      -- the frames' row, with the new one
      obtain ⟨nf, hnf⟩ : ∃ nf : FrI, nf = ⟨.slice oa R.op.length oc, R.op⟩ := ⟨_, rfl⟩
      have hNl : N = fl.length := hN
      subst hNl
      subst hK
      have fo16 : w15.ownsRow 0 110 2 (.slice ao' (fl.length + 1) c') (fl ++ [nf]).length (fiCells 0 (fl ++ [nf])) := by
        rw [fiCells_snoc, List.length_append, Nat.zero_add, hnf]; exact hown'
      have hn' : (Value.slice ao' (fl.length + 1) c').ownBlock ≠ some m := by
        intro q
        obtain ⟨C1, h1⟩ := own_ty2 hown' q
        rw [me15] at h1
        simp only [Option.some.injEq, Obj.cells.injEq] at h1
        exact absurd h1.2.1 (by decide)
      have hUm := b.um
      obtain ⟨_, _, n3⟩ := hvm
      have hout : ∀ k, (Value.slice ao' (fl.length + 1) c').ownBlock = some k → grow U w w15 k := by
        intro k q
        rcases hat' with q2 | q2
        · exact .inl (hof k (q2.symm.trans q))
        · have hlt := (hown'.lt k q).2
          rw [q] at q2
          have := Option.some.inj q2
          have := hk14.size
          exact .inr ⟨by omega, hlt⟩
      have b16 : MdB (w15.setCell ⟨m, 1, none⟩ (.slice ao' (fl.length + 1) c')) m room (.slice ao' (fl.length + 1) c') (.slice oa R.op.length oc) (fl ++ [nf]) R.op R.last R.cl (grow U w w15) :=
        { me := (blk_setCell me15 (i := 1) _).trans (by simp [mdCells])
          fo := own_keep fo16 fun g hgg => Below.heap_setCell _ _ _ _ (fun q => hn' (by rw [hgg, show g = m from q]))
          fi := fun x hx => by
            rcases List.mem_append.1 hx with hx | hx
            · have h1 := (fi15 x hx).keep (w' := w15.setCell ⟨m, 1, none⟩ (.slice ao' (fl.length + 1) c')) fun g hgg => Below.heap_setCell _ _ _ _ (fun q => n3 x hx (by rw [hgg, show g = m from q]))
              exact ⟨h1.1, h1.2.1, fun g hgg => .inl (h1.2.2 g hgg)⟩
            · obtain rfl : x = nf := by simpa using hx
              subst hnf
              exact ⟨⟨oa, oc, rfl⟩, own_keep oo15 fun g hgg => Below.heap_setCell _ _ _ _ (fun q => b.vm.2.1 (by rw [hgg, show g = m from q])), fun g hgg => .inl (b.uo g hgg)⟩
          oo := own_keep oo15 fun g hgg => Below.heap_setCell _ _ _ _ (fun q => b.vm.2.1 (by rw [hgg, show g = m from q]))
          um := .inl hUm
          uf := hout
          uo := fun g hgg => .inl (b.uo g hgg) }
      have o16 := o15.setCell ⟨m, 1, none⟩ (.slice ao' (fl.length + 1) c') fun _ => hUm
      have y2 := b16.cells 2
      have z2 := b16.frozen 2
      simp only [mdCells, List.getElem?_toArray, List.getElem?_cons_succ, List.getElem?_cons_zero] at y2
      have s16 : (w15.setCell ⟨m, 1, none⟩ (.slice ao' (fl.length + 1) c')).heap.size = w15.heap.size := by simp [World.setCell]
      have HE := Lib.hid (And.intro b16 (And.intro o16 (And.intro hfl (And.intro he hnf))))
      clear b16 o16 hfl he hnf fi15 oo15 fo16 hout hn' hown' hg' hat' me15 b14 o14 o15 hne hof n3 hUm h0
      generalize w15.setCell ⟨m, 1, none⟩ (.slice ao' (fl.length + 1) c') = w16 at *
      go_wp2_with fail
      go_end0
      obtain ⟨b16, o16, hfl, he, hnf⟩ := HE.out
      have b17 := b16.nilOp
      have o17 := o16.setCell ⟨m, 2, none⟩ (.slice none 0 0) fun _ => b.um
      refine ⟨rfl, ⟨⟨.slice ao' (fl.length + 1) c', .slice none 0 0, fl ++ [nf], ?_, ?_⟩, grow_lt h.foot o17.size⟩, o17⟩
      · rw [hfl]
        refine b17.mono ?_
        rintro k (q | q)
        · exact .inl q
        · exact .inr ⟨q.1, by have := q.2; simp [World.setCell]; omega⟩
      · rw [hfl, List.map_append, he, hnf]
        rfl
end
end Go.Proofs.Ytbfipgeoecbpaaa
