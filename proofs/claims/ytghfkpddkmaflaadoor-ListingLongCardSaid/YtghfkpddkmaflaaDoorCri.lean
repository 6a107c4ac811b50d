/- What the listed variables of layer 11's rows give the walks; the wrap of a row that lists variables and keeps the world's shape; instructions that came in as arguments. No condition but those that each names. -/
import Derived.Test.YtghfkpddkmaflaaDoorRows
import Derived.Test.YtghfkpddkmaflaaDoorGl
import Derived.Test.YtghfkpddkmaflaaDoorLi
import Derived.Test.YtghfkpddkmaflaaDoorSl
import Derived.Deep.DeepMust
import Derived.WideShapes
import Derived.HandedShaped
import Derived.Stop.LaidErr
import Derived.LaidMore
import Derived.Lay
import Derived.Lib.LaidTab
namespace Go.Proofs.YtghfkpddkmaflaaDoor
open Go Go.WideShapes Go.Deep Go.RowKit
set_option linter.unusedVariables false
set_option linter.unusedSimpArgs false
set_option maxRecDepth 20000
section
variable {H : Type} {enc : TypeId × Value → H}
theorem handed_and_shaped {a : Assume} {C : Checked} {os : Os} {f : FuncId} {fn : Func} {s : ChangeSpec} {conds : List PathCond} {apart fresh handsOn again : Bool} {X : World → Array Value → Prop}
    (hX : ∀ (w w' : World) (args : Array Value), w.heap = w'.heap → X w args → X w' args)
    (own : ownKnob C.prog.godebug = none) (started : os.Started) (noInit : C.prog.inits.idxOf? f = none) (hfn : C.prog.funcs[f]? = some fn)
    (witness : ∃ (w : World) (tape : Tape) (i : Input), w.os = os ∧ (w.forCall tape i).Shaped C.prog ∧ i.vars = [] ∧ Input.okWide C.prog (w.forCall tape i) .any w.heap.size f i ∧
      ((s.pre enc C.prog fn conds apart (w.forCall tape i).memory i.args ∧ X (w.forCall tape i).memory i.args) ∧ sizedMet enc C.prog fn (OpenSpec.ofChange s) apart (w.forCall tape i).memory i.args) ∧ a.holds C.prog (lone (Frame.enter C.prog f i.args .normal) [] (w.forCall tape i)))
    (contract : ∀ (W : World) (base : Nat) (args : Array Value) (ds gs : List (DataW H)) (before : List MemPlace),
      (∀ (j : Nat) t v, fn.params[j]? = some t → args[j]? = some v → Value.okWide C.prog W .any base t v) →
      DataW.Whole enc C.prog fn.params.toList s.vars apart W args.toList ds gs before →
      conds.all (PathCond.test C.prog ⟨fn.params.toList, ds, s.plain.varTypes C.prog, gs⟩) = true →
      (DataW.weightsEach C.prog (fn.params.toList ++ s.plain.varTypes C.prog) (ds ++ gs)).all (· ≤ reachBytes) = true → X W args → W.ShapedOpen C.prog →
      a.holds C.prog (lone (Frame.enter C.prog f args .normal) [] W) →
      Calls C.prog f args W fun e W' => ∃ v, e = .returned v ∧ s.post enc C.prog fn apart fresh handsOn again W args v W') :
    ReturnsInHanded a C os f .any (fun w args => (s.pre enc C.prog fn conds apart w args ∧ X w args) ∧ sizedMet enc C.prog fn (OpenSpec.ofChange s) apart w args) (s.post enc C.prog fn apart fresh handsOn again) := by
  refine returnsInHanded_of_calls own started noInit witness ?_
  intro w tape i _ hsh _ hok hpre hholds
  obtain ⟨_, _, _, fn', hfn', _, _, _, _, hval⟩ := hok
  have e : fn' = fn := Option.some.inj (hfn'.symm.trans hfn)
  subst e
  obtain ⟨⟨⟨ds, gs, before, hw, hc⟩, hx⟩, hz⟩ := hpre
  have hw' := DataW.Whole.of_heap (w' := w.forCall tape i) (by rfl) hw
  refine (contract (w.forCall tape i) w.heap.size i.args ds gs before hval hw' hc (hz.weights hw) (hX _ _ _ (by rfl) hx) hsh hholds).mono fun e W' ⟨v, he, hp⟩ => ?_
  subst he
  exact ChangeSpec.post_blind hp
end
/-- The rows' list. -/
def lst : List (String × DataW Unit) := [("math/bits.deBruijn32tab", Rows.laid_math_bits_deBruijn32tab), ("math/bits.deBruijn64tab", Rows.laid_math_bits_deBruijn64tab), ("internal/strconv.uint64pow10", Rows.laid_internal_strconv_uint64pow10), ("unicode/utf8.acceptRanges", Rows.laid_unicode_utf8_acceptRanges), ("strconv.ErrRange", Rows.laid_strconv_ErrRange), ("strconv.ErrSyntax", Rows.laid_strconv_ErrSyntax), ("unicode/utf8.first", Rows.laid_unicode_utf8_first)]
theorem errStar : "*" ++ "errors.errorString" = "*errors.errorString" := by decide
theorem errRow (u : TypeId) (h : Tryd.prog.typeName? 3 u = some "*errors.errorString") : u = 132 :=
  typeName_ptr_named (nm := "errors.errorString") (by rw [errStar]; kernel_rfl) (by kernel_rfl) (by decide) u (by rw [errStar]; exact h)
theorem gl_of {W : World} (h : laidMetH Tryd.prog lst W) (hsh : W.ShapedOpen Tryd.prog) : Gl W := by
  rw [MakeChecks.laidMetH_plain _ _ _ (by kernel_rfl)] at h
  have h2 := h.tail.tail
  have ht := Lib.tabIs_of_head (k := .u64) (zs := Lib.pow10Tab) gTab (show (Tryd.prog.globals[0]?).map (·.type) = some 106 by kernel_rfl) Tryd.underlying106 Tryd.underlying58 (by kernel_rfl) (by kernel_rfl) h2
  obtain ⟨ml, hml⟩ := Tryd.laysM143.s1_3 W hsh
  have h4 := h2.tail.tail
  obtain ⟨a1, s1, v1, _⟩ := laid_sentinel h4 (show Tryd.prog.globalNamed "strconv.ErrRange" = some 3 by kernel_rfl) (show (Tryd.prog.globals[3]?).map (·.type) = some 81 by kernel_rfl) Tryd.underlying81 errRow Tryd.underlying132 Tryd.underlying134 rfl rfl Tryd.underlying9 (by kernel_rfl) (by kernel_rfl)
  obtain ⟨a2, s2, v2, _⟩ := laid_sentinel h4.tail (show Tryd.prog.globalNamed "strconv.ErrSyntax" = some 2 by kernel_rfl) (show (Tryd.prog.globals[2]?).map (·.type) = some 81 by kernel_rfl) Tryd.underlying81 errRow Tryd.underlying132 Tryd.underlying134 rfl rfl Tryd.underlying9 (by kernel_rfl) (by kernel_rfl)
  have hsz : 8 ≤ W.heap.size := by
    obtain ⟨ps, ⟨g0, t0, cs0, f0, p0, q0, hg0, ht0, hv0, _⟩, _, _⟩ := h2.tail
    obtain rfl := Option.some.inj ((show Tryd.prog.globalNamed "unicode/utf8.acceptRanges" = some 7 by kernel_rfl).symm.trans hg0)
    have hv : W.var? Tryd.prog "unicode/utf8.acceptRanges" = some cs0 := hv0
    unfold World.var? at hv
    rw [hg0] at hv
    have hlt : 7 < W.heap.size := by
      rcases Nat.lt_or_ge 7 W.heap.size with q | q
      · exact q
      · simp only [Option.bind_some] at hv
        rw [Array.getElem?_eq_none (by exact q)] at hv
        cases hv
    omega
  refine ⟨ht, ⟨_, _, by rw [World.var?_cell (show Tryd.prog.globalNamed "strconv.ErrSyntax" = some 2 by kernel_rfl) v2 0]; rfl⟩, ⟨_, _, by rw [World.var?_cell (show Tryd.prog.globalNamed "strconv.ErrRange" = some 3 by kernel_rfl) v1 0]; rfl⟩, ⟨ml, hml⟩, hsz⟩
theorem i64_of {a : Int} (h : (Lit.int .i64 a).wf = true) : -9223372036854775808 ≤ a ∧ a ≤ 9223372036854775807 := by
  simpa [Lit.wf, IntKind.min, IntKind.max, IntKind.signed, IntKind.bits] using h
theorem u32_of {a : Int} (h : (Lit.int .u32 a).wf = true) : ∃ n : Nat, a = n ∧ n < 4294967296 := by
  have h1 : 0 ≤ a ∧ a ≤ 4294967295 := by
    simpa [Lit.wf, IntKind.min, IntKind.max, IntKind.signed, IntKind.bits] using h
  exact ⟨a.toNat, by omega, by omega⟩
theorem insr_of {H : Type} {enc : TypeId × Value → H} {W : World} {base n : Nat} {held : Bool} {cs : List Value} {x : DataW H × List MemPlace} (hl : cs.length = 6)
    (hn : DataW.trod enc Tryd.prog W base (fun _ => true) held n 24 cs = some x) : ∃ e : Ins, cs = e.cells ∧ e.Wf := by
  match cs, hl with
  | [c0, c1, c2, c3, c4, c5], _ =>
    obtain ⟨ys, n', _, _, _, hyl, hf⟩ := DataW.trod_struct Tryd.underlying24 hn
    have hyl : ys.length = 6 := hyl
    have k1 : Tryd.prog.cellsOf 3 = 1 := by kernel_rfl
    have k3 : Tryd.prog.cellsOf 22 = 1 := by kernel_rfl
    have h0 : DataW.trod enc Tryd.prog W base (fun _ => true) held n' 3 (List.take (Tryd.prog.cellsOf 3) [c0, c1, c2, c3, c4, c5]) = ys[0]? := hf 0 _ rfl
    have h1 : DataW.trod enc Tryd.prog W base (fun _ => true) held n' 3 (List.take (Tryd.prog.cellsOf 3) [c1, c2, c3, c4, c5]) = ys[1]? := hf 1 _ rfl
    have h2 : DataW.trod enc Tryd.prog W base (fun _ => true) held n' 3 (List.take (Tryd.prog.cellsOf 3) [c2, c3, c4, c5]) = ys[2]? := hf 2 _ rfl
    have h3 : DataW.trod enc Tryd.prog W base (fun _ => true) held n' 3 (List.take (Tryd.prog.cellsOf 3) [c3, c4, c5]) = ys[3]? := hf 3 _ rfl
    have h4 : DataW.trod enc Tryd.prog W base (fun _ => true) held n' 3 (List.take (Tryd.prog.cellsOf 3) [c4, c5]) = ys[4]? := hf 4 _ rfl
    have h5 : DataW.trod enc Tryd.prog W base (fun _ => true) held n' 22 (List.take (Tryd.prog.cellsOf 22) [c5]) = ys[5]? := hf 5 _ rfl
    rw [k1, List.getElem?_eq_getElem (by omega)] at h0 h1 h2 h3 h4
    rw [k3, List.getElem?_eq_getElem (by omega)] at h5
    obtain ⟨z0, e0, _, w0⟩ := DataW.trod_int Tryd.underlying3 h0
    obtain ⟨z1, e1, _, w1⟩ := DataW.trod_int Tryd.underlying3 h1
    obtain ⟨z2, e2, _, w2⟩ := DataW.trod_int Tryd.underlying3 h2
    obtain ⟨z3, e3, _, w3⟩ := DataW.trod_int Tryd.underlying3 h3
    obtain ⟨z4, e4, _, w4⟩ := DataW.trod_int Tryd.underlying3 h4
    obtain ⟨z5, e5, _, w5⟩ := DataW.trod_int Tryd.underlying22 h5
    simp at e0 e1 e2 e3 e4 e5
    obtain ⟨m5, rfl, u5⟩ := u32_of w5
    subst e0 e1 e2 e3 e4 e5
    exact ⟨⟨z0, z1, z2, z3, z4, m5⟩, rfl, i64_of w0, i64_of w1, i64_of w2, i64_of w3, i64_of w4, u5⟩
theorem arg_struct24 {H : Type} {enc : TypeId × Value → H} {W : World} {base : Nat} {held : Bool} {v : Value} {d : DataW H} {ps : List MemPlace}
    (hv : ∃ cs, v = .agg cs ∧ cs.size = Tryd.prog.cellsOf 24) (h : DataW.Trod enc Tryd.prog W base (fun _ => true) held 24 v d ps) : ∃ e : Ins, v = e.val ∧ e.Wf := by
  obtain ⟨cs, rfl, hsz⟩ := hv
  obtain ⟨fuel, hf⟩ := h
  have h6 : Tryd.prog.cellsOf 24 = 6 := by kernel_rfl
  rw [h6] at hsz
  obtain ⟨e, he, hw⟩ := insr_of (cs := cs.toList) (by simpa using hsz) hf
  refine ⟨e, ?_, hw⟩
  obtain ⟨l⟩ := cs
  simp only at he
  subst he
  rfl
theorem slArg_struct24 {H : Type} {enc : TypeId × Value → H} {W : World} {base : Nat} {held : Bool} {v : Value} {d : DataW H} {ps : List MemPlace}
    (hv : ∃ a len cap, v = .slice a len cap) (h : DataW.Trod enc Tryd.prog W base (fun _ => true) held 36 v d ps) :
    ∃ (oa : Option Addr) (len cap : Nat) (z : Nat → Ins), v = .slice oa len cap ∧ SlArgN W oa len cap 6 (fun i j => (z i).f j) ∧ SlLen d cap ∧ (∀ i, i < len → (z i).Wf) ∧ (oa = none → cap = 0) := by
  obtain ⟨oa, len, cap, L, rfl, hs, hd, hx⟩ := slArgN_any (c := 6) Tryd.underlying36 (by kernel_rfl) (by decide) hv h
  have hnone : oa = none → cap = 0 := by
    obtain ⟨fuel, hf⟩ := h
    rcases open_slice Tryd.underlying36 hf with ⟨hcs, _⟩ | ⟨x, l, cp, m, n, D, Pl, hcs, _, hl, hm, hmm, hxx, hx⟩
    · simp [Value.cells] at hcs
      exact fun _ => hcs.2.2
    · simp [Value.cells] at hcs
      intro h0
      rw [h0] at hcs
      cases hcs.1
  have key : ∀ i, i < len → ∃ o : Ins, (∀ j, j < 6 → (L i).getD j (.bool false) = o.f j) ∧ o.Wf := by
    intro i hi
    obtain ⟨hl, n, x, hn⟩ := hx i hi
    obtain ⟨e, he, hw⟩ := insr_of hl hn
    refine ⟨e, fun j hj => ?_, hw⟩
    rw [he]
    match j, hj with
    | 0, _ => rfl
    | 1, _ => rfl
    | 2, _ => rfl
    | 3, _ => rfl
    | 4, _ => rfl
    | 5, _ => rfl
  obtain ⟨z, hz⟩ := Go.Deep.choose_lt (α := Ins) (p := fun i o => (∀ j, j < 6 → (L i).getD j (.bool false) = o.f j) ∧ o.Wf) key
  exact ⟨oa, len, cap, z, rfl, hs.congr fun i hi => (hz i hi).1, hd, fun i hi => (hz i hi).2, hnone⟩
end Go.Proofs.YtghfkpddkmaflaaDoor
