/-
  Texts of this claim, joined by program (ShlA, Var). A law's shell: an image, ints among the arguments, opened.
-/
import Derived.Test.YtbmlopklhgladaaDoorRows
import Derived.Test.YtbmlopklhgladaaDoorZG1
import Derived.WalkKit
import Derived.ProofKit
import Derived.Lib.SmallJoins
import Derived.SizedLaws
import Derived.OpenShut
import Derived.Test.YtbmlopklhgladaaDoorZG7
import Derived.Lib.LaidU8T
import Derived.PinnedBridge
import Derived.MakeChecks
import Derived.Shelf.Vars
import Derived.Handed
import Derived.Lay
import Derived.Stop.Joined
set_option linter.unusedVariables false
set_option linter.unusedSimpArgs false
namespace Go.Proofs.YtbmlopklhgladaaDoor.Shl
open Go.Joins Go.ChangeShapes Go.WideShapes Go.ChangeAt Go.RowKit Go.Deep

section
variable {H : Type} {enc : TypeId × Value → H} {W : World} {base : Nat}
theorem bytesU : Tryd.prog.bytesOf 43 = 2 := by kernel_rfl
theorem bytesI : Tryd.prog.bytesOf 3 = 8 := by kernel_rfl
theorem cellsImg : Tryd.prog.cellsOf 26 = 3 := by kernel_rfl
theorem wf_u16 {x : Int} (h : (Lit.int .u16 x).wf = true) : 0 ≤ x ∧ x < 65536 := by
  have h0 : IntKind.u16.min = 0 := rfl
  have h1 : IntKind.u16.max = 65535 := rfl
  simp [Lit.wf, h0, h1] at h
  omega
theorem wf_i64 {x : Int} (h : (Lit.int .i64 x).wf = true) : -9223372036854775808 ≤ x ∧ x ≤ 9223372036854775807 := by
  have h0 : IntKind.i64.min = -9223372036854775808 := rfl
  have h1 : IntKind.i64.max = 9223372036854775807 := rfl
  simp [Lit.wf, h0, h1] at h
  omega
/-- a row of numbers as the kit's view -/
theorem si_row {k : IntKind} {w : World} {a : Addr} {len cap : Nat} {zs : List Int} (hl : len ≤ cap) (hz : zs.length = cap) (hc : ∀ i, i < zs.length → w.cell? (a.add i) = some (.int k (zs.getD i 0))) (hr : cap * K.kb k ≤ 140737488351232) : K.SI w k (some a) len (zs.take len) := by
  refine ⟨by rw [List.length_take]; omega, Nat.le_trans (Nat.mul_le_mul_right _ hl) hr, fun j u hu => ?_⟩
  rw [List.getElem?_map, List.getElem?_take] at hu
  by_cases hj : j < len
  · rw [if_pos hj] at hu
    obtain ⟨b, off, rfl, hc2⟩ := ints_at hc (by omega)
    refine ⟨b, off, rfl, ?_⟩
    rw [hc2 j (by omega), ← hu, List.getD_eq_getElem?_getD, List.getElem?_eq_getElem (by omega)]
    rfl
  · rw [if_neg hj] at hu; simp at hu
/-- a field or an argument that is a slice of numbers -/
theorem open_row {t e : TypeId} {k : IntKind} {fuel : Nat} {v : Value} {x : DataW H × List MemPlace} (ht : Tryd.prog.underlying t = some (.slice e)) (he : Tryd.prog.underlying e = some (.int k)) (hc : Tryd.prog.cellsOf e = 1) (hb : Tryd.prog.bytesOf e = K.kb k)
    (h : DataW.trod enc Tryd.prog W 0 (fun _ => true) true fuel t [v] = some x) (hs : ∀ n ∈ x.1.weights Tryd.prog t, n ≤ reachBytes) :
    ∃ A len cap l, v = .slice A len cap ∧ K.SI W k A len l ∧ (∀ y ∈ l, (Lit.int k y).wf = true) ∧ len ≤ cap ∧ cap ≤ maxLen := by
  rcases open_ints ht he hc h with ⟨hcs, _⟩ | ⟨x, len, cap, zs, hcs, _, hl, hm, hz, hx0, hcell, hwz⟩
  · injection hcs with e1
    exact ⟨none, 0, 0, [], e1, K.SI.nil W k none, fun y hy => by simp at hy, Nat.le_refl _, Nat.zero_le _⟩
  · injection hcs with e1
    have hz' : zs.length = cap := by simpa using hz
    subst hx0
    have := hs (((lits k (zs.take len) : List (DataW H)).length + (lits k (zs.drop len) : List (DataW H)).length) * Tryd.prog.bytesOf e) (by simp [DataW.weights, ht])
    rw [hb] at this
    simp only [lits, List.length_map, List.length_take, List.length_drop, reachBytes] at this
    have h2 : min len zs.length + (zs.length - len) = cap := by omega
    rw [h2] at this
    exact ⟨some x, len, cap, zs.take len, e1, si_row hl hz' hcell (by omega), fun y hy => hwz y (List.mem_of_mem_take hy), hl, hm⟩
set_option maxRecDepth 100000 in
theorem open_image {v : Value} {d : DataW H} {p : List MemPlace} (hv : Value.okWide Tryd.prog W .any base 26 v) (h : DataW.Trod enc Tryd.prog W 0 (fun _ => true) true 26 v d p) (hs : ∀ n ∈ d.weights Tryd.prog 26, n ≤ reachBytes) :
    ∃ a0 a1 A len cap l, v = .agg #[.int .i64 a0, .int .i64 a1, .slice A len cap] ∧ K.SI W .u16 A len l ∧ (∀ y ∈ l, 0 ≤ y ∧ y < 65536) ∧ len ≤ cap ∧ cap ≤ maxLen := by
  obtain ⟨v0, v1, v2, y0, y1, y2, n, rfl, rfl, rfl, h0, h1, h2⟩ := open_agg3 Tryd.underlying26 (by kernel_rfl) cellsImg hv h
  obtain ⟨a0, e0, -, -⟩ := DataW.trod_int Tryd.underlying3 h0
  obtain ⟨a1, e1, -, -⟩ := DataW.trod_int Tryd.underlying3 h1
  injection e0 with e0
  injection e1 with e1
  subst e0 e1
  obtain ⟨A, len, cap, l, rfl, hS, hw, hl, hm⟩ := open_row Tryd.underlying24 Tryd.underlying43 (by kernel_rfl) bytesU h2 (fun n hn => hs n (by
    simp only [DataW.weights, Tryd.underlying26]
    simp [DataW.weightsEach, hn]))
  exact ⟨a0, a1, A, len, cap, l, rfl, hS, fun y hy => wf_u16 (hw y hy), hl, hm⟩
/-- what a part of the arguments weighs -/
theorem part_sized {ts : List TypeId} {ds : List (DataW H)} (hs : (DataW.weightsEach Tryd.prog ts ds).all (· ≤ reachBytes) = true) {j : Nat} {t : TypeId} {d : DataW H} (ht : ts[j]? = some t) (hd : ds[j]? = some d) : ∀ n ∈ d.weights Tryd.prog t, n ≤ reachBytes := fun n hn => by
  have := List.all_eq_true.1 hs _ (DataW.weights_mem_each ht hd n hn)
  simpa using this
end
end Go.Proofs.YtbmlopklhgladaaDoor.Shl
set_option linter.unusedVariables false
set_option linter.unusedSimpArgs false
namespace Go.Proofs.YtbmlopklhgladaaDoor.Pnm
open Go.RowKit Go.Shelf Ian

/-- the list of the rows -/
noncomputable def laidL : List (String × DataW Unit) := Rows.pnmReadsRow.laid
theorem m_pow : ("internal/strconv.uint64pow10", Rows.laid_internal_strconv_uint64pow10) ∈ laidL := .tail _ (.tail _ (.head _))
theorem m_acc : ("unicode/utf8.acceptRanges", Rows.laid_unicode_utf8_acceptRanges) ∈ laidL := .tail _ (.tail _ (.tail _ (.head _)))
theorem m_fst : ("unicode/utf8.first", Rows.laid_unicode_utf8_first) ∈ laidL := .tail _ (.tail _ (.tail _ (.tail _ (.tail _ (.tail _ (.tail _ (.head _)))))))
theorem d_pow : (Rows.laid_internal_strconv_uint64pow10 : DataW Unit) = Lib.tabData .u64 Lib.pow10Tab := by kernel_rfl
theorem d_acc : (Rows.laid_unicode_utf8_acceptRanges : DataW Unit) = Lib.acceptData := by kernel_rfl
theorem d_fst : (Rows.laid_unicode_utf8_first : DataW Unit) = Lib.firstData := Pinned.utf8First_eq
def ren8 : Ren := ⟨fun x => x, fun | 5 => 5 | 119 => 155 | 138 => 157 | 139 => 158 | x => x, fun | 3 => 3 | 4 => 4 | x => x⟩
theorem u8types : U8Types Tryd.prog ren8 := { t5 := Tryd.underlying5, t119 := Tryd.underlying155, t138 := Tryd.underlying157, t139 := Tryd.underlying158 }
theorem u8extra : U8Extra Tryd.prog ren8 := { n3 := by kernel_rfl, n4 := by kernel_rfl, y3 := by kernel_rfl, y4 := by kernel_rfl, c5 := by kernel_rfl, c119 := by kernel_rfl, c138 := by kernel_rfl }
theorem tabIs_of_reads {P : Program} {W : World} {name : String} {k : IntKind} {zs : List Int} {g : Nat} {t e : TypeId} {n : Nat}
    (hg : P.globalNamed name = some g) (hty : (P.globals[g]?).map (·.type) = some t) (ht : P.underlying t = some (.array n e)) (he : P.underlying e = some (.int k)) (hce : P.cellsOf e = 1) (hct : P.cellsOf t = n)
    (h : Lib.VarReads P W name (Lib.tabData k zs)) : Lib.TabIs P W name k zs := by
  obtain ⟨g', t', cs, fuel, p, hg', ht', hvar, hd⟩ := h
  obtain rfl := Option.some.inj (hg.symm.trans hg')
  obtain rfl := Option.some.inj (hty.symm.trans ht')
  unfold Lib.TabIs
  rw [hvar, ← Lib.cells_of_tab ht he hce hct hd]
theorem vars_of {W : World} (hL : laidMetH Tryd.prog laidL W) (hsh : W.ShapedOpen Tryd.prog) : Vars W := by
  rw [MakeChecks.laidMetH_plain _ _ _ (by kernel_rfl)] at hL
  have hpow := Lib.laidMet.reads hL m_pow
  have hacc := Lib.laidMet.reads hL m_acc
  have hfst := Lib.laidMet.reads hL m_fst
  rw [d_pow] at hpow
  rw [d_acc] at hacc
  rw [d_fst] at hfst
  have hutf : Lib.Utf8Tabs 3 4 W := utf8Tabs_of_readsT u8types u8extra hfst hacc
  refine ⟨?_, ?_, hutf, tabIs_of_reads (g := 2) (by kernel_rfl) (by kernel_rfl) Tryd.underlying139 Tryd.underlying122 (by kernel_rfl) (by kernel_rfl) hpow⟩
  · have h := World.block_lt_of_cell? W _ (hutf.2 0 (by omega)).1
    have h2 : vb ≤ 4 + 1 := by decide
    exact Nat.le_trans h2 h
  · exact cell_of_shapedOpen_int (zero := #[.int .i64 0]) hsh (of_decide_eq_true (by kernel_rfl)) (by kernel_rfl) rfl (by kernel_rfl) (by kernel_rfl) Tryd.underlying3
theorem wf_u8s {x : Int} (h : (Lit.int .u8 x).wf = true) : 0 ≤ x ∧ x < 256 := by
  have h0 : IntKind.u8.min = 0 := rfl
  have h1 : IntKind.u8.max = 255 := rfl
  simp [Lit.wf, h0, h1] at h
  omega
/-- the wrap: the listed variables, the reach, the world's shape -/
theorem returns_laid {H : Type} {enc : TypeId × Value → H} {a : Assume} {C : Checked} {os : Os} {f : FuncId} {fn : Func} {s : ChangeSpec} {conds : List PathCond} {apart fresh handsOn again : Bool} {X : World → Array Value → Prop}
    (hX : ∀ (w w' : World) (args : Array Value), w.heap = w'.heap → X w args → X w' args)
    (own : ownKnob C.prog.godebug = none) (started : os.Started) (noInit : C.prog.inits.idxOf? f = none) (hfn : C.prog.funcs[f]? = some fn)
    (witness : ∃ (w : World) (tape : Tape) (i : Input), w.os = os ∧ (w.forCall tape i).Shaped C.prog ∧ i.vars = [] ∧ Input.okWide C.prog (w.forCall tape i) .any w.heap.size f i ∧
      ((s.pre enc C.prog fn conds apart (w.forCall tape i).memory i.args ∧ X (w.forCall tape i).memory i.args) ∧ sizedMet enc C.prog fn (OpenSpec.ofChange s) apart (w.forCall tape i).memory i.args) ∧ a.holds C.prog (lone (Frame.enter C.prog f i.args .normal) [] (w.forCall tape i)))
    (contract : ∀ (W : World) (base : Nat) (args : Array Value) (ds gs : List (DataW H)) (before : List MemPlace),
      (∀ (j : Nat) t v, fn.params[j]? = some t → args[j]? = some v → Value.okWide C.prog W .any base t v) →
      DataW.Whole enc C.prog fn.params.toList s.vars apart W args.toList ds gs before →
      conds.all (PathCond.test C.prog ⟨fn.params.toList, ds, s.plain.varTypes C.prog, gs⟩) = true →
      (DataW.weightsEach C.prog (fn.params.toList ++ s.plain.varTypes C.prog) (ds ++ gs)).all (· ≤ reachBytes) = true → X W args → W.ShapedOpen C.prog →
      a.holds C.prog (lone (Frame.enter C.prog f args .normal) [] W) →
      Calls C.prog f args W fun e W' => ∃ v, e = .returned v ∧ s.post enc C.prog fn apart fresh handsOn again W args v W') :
    ReturnsInHanded a C os f .any (fun w args => (s.pre enc C.prog fn conds apart w args ∧ X w args) ∧ sizedMet enc C.prog fn (OpenSpec.ofChange s) apart w args) (s.post enc C.prog fn apart fresh handsOn again) := by
  refine returnsInHanded_of_calls own started noInit witness ?_
  intro w tape i _ hsh _ hok hpre hholds
  obtain ⟨_, _, _, fn', hfn', _, _, _, _, hval⟩ := hok
  have e : fn' = fn := Option.some.inj (hfn'.symm.trans hfn)
  subst e
  obtain ⟨⟨⟨ds, gs, before, hw, hc⟩, hx⟩, hz⟩ := hpre
  have hw' := DataW.Whole.of_heap (w' := w.forCall tape i) (by rfl) hw
  refine (contract (w.forCall tape i) w.heap.size i.args ds gs before hval hw' hc (hz.weights hw) (hX _ _ _ (by rfl) hx) hsh hholds).mono fun e W' ⟨v, he, hp⟩ => ?_
  subst he
  exact ChangeSpec.post_blind hp
end Go.Proofs.YtbmlopklhgladaaDoor.Pnm
