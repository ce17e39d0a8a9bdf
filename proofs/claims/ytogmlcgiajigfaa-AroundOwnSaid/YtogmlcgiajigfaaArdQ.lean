/-
  Walks: find.
-/
import Derived.Laws.CopyOwn
import Derived.Deep.LoopGhost
import Derived.Test.YtogmlcgiajigfaaArdP
set_option linter.unusedVariables false
set_option linter.unusedSimpArgs false
namespace Go.Proofs.Ytogmlcgiajigfaa.Ard
open Go.RowKit K

/-- arguments within their bounds -/
def fitsB (b : List (Int × Int)) (a : List Int) : Bool := decide (a.length = b.length) && (List.range b.length).all fun i => decide ((b.getD i (0, 0)).1 ≤ a.getD i 0) && decide (a.getD i 0 ≤ (b.getD i (0, 0)).2)
/-- which operator it is -/
def idxF (op : ByteArray) : Option Nat := (List.range 9).find? fun i => decide (nameF i = op)
/-- what Check says -/
def checkE (op : ByteArray) (a : List Int) : Int :=
  match idxF op with
  | none => 8
  | some i => if fitsB (bndF i) a then 0 else 190
def zeroOp : Array Value := #[.string ⟨#[]⟩, .slice none 0 0, .nilFunc, .nilFunc, .bool false]
def FindP (w : World) (op : ByteArray) (a : List Int) (e : Ending) (w' : World) : Prop :=
  Below w.heap.size w w' ∧ ((checkE op a ≠ 0 ∧ e = .returned (.tuple #[.agg zeroOp, .int .i64 (checkE op a)])) ∨
    (∃ i B n c, i < 9 ∧ checkE op a = 0 ∧ idxF op = some i ∧ fitsB (bndF i) a = true ∧ e = .returned (.tuple #[.agg #[.string (nameF i), .slice B n c, .func (.func (reachN i)) #[] #[], .func (.func (doN i)) #[] #[], .bool (alphaF i)], .int .i64 0])))
theorem OpAt.on {w w' : World} {g i : Nat} {B : Option Addr} {c : Nat} (h : OpAt w g i B c) (hb : Below w.heap.size w w') : OpAt w' g i B c := by
  have hg := World.block_lt_of_cell? w _ h.c0
  have hc : ∀ j, w'.cell? ⟨g, j, none⟩ = w.cell? ⟨g, j, none⟩ := fun j => hb.cell (p := ⟨g, j, none⟩) hg
  exact ⟨(hc _).trans h.c0, (hc _).trans h.c1, (hc _).trans h.c2, (hc _).trans h.c3, (hc _).trans h.c4, h.bs.below hb (Nat.le_refl _)⟩
theorem results_row_tmp {P : Program} {fn : Func} {p u : Tmp} {ty : TypeId} (h : fn.results = #[.cell p ty, .tmp u]) (tmps : Array Value) (w : World) (g : Nat) (t : TypeId) (cs : Array Value) (fr : Nat × Nat) (d : TypeDesc)
    (hp : tmps.getD p undef = .pointer (some ⟨g, 0, none⟩)) (hg : w.heap[g]? = some (.cells cs t fr))
    (hu : P.underlying ty = some d) (hd : (match d with | .struct _ | .array _ _ => true | _ => false) = true) (hi : (P.info? ty).map (·.size) = some cs.size) :
    (results fn tmps).run P w = .ok (.tuple #[.agg cs, tmps.getD u undef]) w := by
  have hp' : tmps[p]?.getD undef = .pointer (some ⟨g, 0, none⟩) := by simpa using hp
  simp [results, h, hp', asAddr, run_loadVar_row w g t ty cs fr d hg hu hd hi]
theorem wpList_store_rowW {P : Program} {ops : Array Oper} {rest : List Oper} {o : Oper} {a : Act} {w : World} {Q : Exit → Act → World → Prop} (hgd : o.guard = none) (ty : TypeId) (x y : Operand) (ho : o.op = .store ty x y)
    (g : Nat) (cells : Array Value) (hx : a.eval x = .pointer (some ⟨g, 0, none⟩)) (hy : a.eval y = .agg cells)
    (t : TypeId) (old : Array Value) (hg : w.heap[g]? = some (.cells old t (0, 0))) (hi : (P.info? ty).map (·.size) = some cells.size)
    (hold : old.size = cells.size) (h1 : cells.all (·.oneCell') = true) (B : Nat) (w0 : World) (hb : Below B w0 w) (hBg : B ≤ g)
    (h : ∀ W, Hid (W.heap[g]? = some (.cells cells t (0, 0))) → Hid (Below B w0 W) → Hid (W.heap.size = w.heap.size) → wpList P ops Q rest (a.put o.dst undef) W) : wpList P ops Q (o :: rest) a w :=
  wpList_store_row hgd ty x y ho g cells hx hy t old hg hi hold h1 (h _ (setRow_heap _ _ _ _ _ _ hg) (below_setRow hb hBg _) (by show _ = _; simp [World.setRow]))
def opCells (k : Nat) (B : Option Addr) (n c : Nat) : Array Value := #[.string (nameF k), .slice B n c, .func (.func (reachN k)) #[] #[], .func (.func (doN k)) #[] #[], .bool (alphaF k)]
theorem opAll (k : Nat) (B : Option Addr) (n c : Nat) : (opCells k B n c).all (·.oneCell') = true := by simp [opCells, Value.oneCell']
/-- the cells of a row that a block holds -/
theorem row_cell {w : World} {g : Nat} {cs : Array Value} {t : TypeId} (h : w.heap[g]? = some (.cells cs t (0, 0))) (j : Nat) : w.cell? ⟨g, j, none⟩ = cs[j]? := by simp [World.cell?, h]
theorem row_frozen {w : World} {g : Nat} {cs : Array Value} {t : TypeId} (h : w.heap[g]? = some (.cells cs t (0, 0))) (j : Nat) : w.frozen? ⟨g, j, none⟩ = false := by simp [World.frozen?, h]
theorem bytes_beq {a b : ByteArray} : (a.toList == b.toList) = decide (a = b) := by
  by_cases h : a = b
  · simp [h]
  · have : a.toList ≠ b.toList := fun e => h (by
      rw [ByteArray.toList_eq, ByteArray.toList_eq] at e
      cases a; cases b
      simp at e
      rw [e])
    simp [h, this]
theorem pairCells_at (l : List (Int × Int)) : ∀ (j : Nat) (h : j < l.length), (pairCells l)[j * 2]? = some (.int .i64 (l.getD j (0, 0)).1) ∧ (pairCells l)[j * 2 + 1]? = some (.int .i64 (l.getD j (0, 0)).2) := by
  induction l with
  | nil => intro j h; simp at h
  | cons p l ih =>
    intro j h
    cases j with
    | zero => exact ⟨rfl, rfl⟩
    | succ j =>
      have := ih j (by simpa using h)
      have e1 : (j + 1) * 2 = j * 2 + 1 + 1 := by omega
      rw [e1]
      simpa [pairCells, List.getD] using this
theorem idxF_at {op : ByteArray} {k : Nat} (hk : k < 9) (h : ∀ i, i < k → nameF i ≠ op) (he : nameF k = op) : idxF op = some k := by
  unfold idxF
  rw [List.find?_eq_some_iff_append]
  refine ⟨by simp [he], List.range k, (List.range (8 - k)).map (· + (k + 1)), ?_, ?_⟩
  · have h1 : (9 : Nat) = k + (1 + (8 - k)) := by omega
    rw [h1, List.range_add, List.range_add]
    simp [Nat.add_assoc, Nat.add_comm, Nat.add_left_comm]
  · intro i hi
    simp at hi
    simp [h i hi]
theorem bndF_len (k : Nat) : (bndF k).length ≤ 11 := by
  unfold bndF
  split <;> simp
theorem zeroAll : zeroOp.all (·.oneCell') = true := by simp [zeroOp, Value.oneCell']
theorem opInfo : (Try.prog.info? 72).map (·.size) = some 5 := by kernel_rfl
set_option maxRecDepth 20000 in
set_option maxHeartbeats 2000000 in
theorem find_any {op : ByteArray} {A : Option Addr} {n c : Nat} {a : List Int} (w : World) (HA : SI w .i64 A n a) : Calls Try.prog 30 #[.string op, .slice A n c] w (FindP w op a) := by
  go_enter Try.func30, Try.ntmps30
  go_wp2_with fail
  go_step3
  go_wp2_with fail
  go_step3
  go_wp2_with fail
  refine (operators_any _).mono ?_
  rintro e wb ⟨g, rfl, hgl, hg, hbb, hops⟩
  have z0 : wb.heap[w.heap.size]? = some (.cells zeroOp 72 (0, 0)) := (hbb.block _ (by simp)).trans (heap_alloc_new w _)
  have Z0 := Lib.hid z0
  have HBB := Lib.hid hbb
  have HOPS := Lib.hid hops
  clear z0 hbb hops
  go_wp2_with fail
  go_loopg [6, 13] 9 (fun gh s6 s13 wr => ∃ k : Nat, k + gh = 9 ∧ s6 = .int .i64 8 ∧ s13 = .int .i64 k ∧ (∀ i, i < k → nameF i ≠ op) ∧ Below wb.heap.size wb wr)
  case atStart => exact ⟨0, by omega, rfl, rfl, fun i hi => by omega, Below.refl _ _⟩
  case round =>
    obtain ⟨k, hkg, rfl, rfl, hno, hbr⟩ := hrel
    have HNO := Lib.hid hno
    have HBR := Lib.hid hbr
    have hz : wr.heap[w.heap.size]? = some (.cells zeroOp 72 (0, 0)) := (hbr.block _ (Array.getElem?_eq_some_iff.1 Z0.out).1).trans Z0.out
    have HZ := Lib.hid hz
    have HB : Hid (Below w.heap.size w wr) := ((Below.refl w.heap.size w).alloc (Nat.le_refl _) _).trans ((HBB.out.mono (by simp)).trans (hbr.mono (by have := HBB.out.size; rw [World.size_alloc] at this; omega)))
    clear hno hbr hz
    cases gk with
    | zero =>
      obtain rfl : k = 9 := by omega
      simp only [Int.cast_ofNat_Int]
      have HE : Hid (checkE op a = 8) := by
        have : idxF op = none := by
          unfold idxF
          rw [List.find?_eq_none]
          intro i hi
          simp at hi
          simp [HNO.out i hi]
        show _ = _
        unfold checkE; rw [this]
      go_wp2_with (refine wpList_store_row rfl 72 (.tmp 4) (.tmp 54) rfl w.heap.size zeroOp rfl rfl 72 zeroOp HZ.out opInfo rfl zeroAll ?_)
      try rw [Exit.noGoto_ret]
      refine bodyPost_ret (results_row_tmp rfl _ _ w.heap.size 72 zeroOp (0, 0) _ rfl (setRow_heap _ _ _ _ _ _ HZ.out) Try.underlying72 rfl opInfo) rfl ?_
      exact ⟨below_setRow HB.out (Nat.le_refl _) _, .inl ⟨by rw [HE.out]; omega, by rw [HE.out]; rfl⟩⟩
    | succ gko =>
      obtain ⟨wo, rfl⟩ : ∃ wo, wo = wr := ⟨_, rfl⟩
      have hk9 : k < 9 := by omega
      obtain ⟨B, bc, hop⟩ := HOPS.out k hk9
      have hopr := hop.on HBR.out
      have d0 : decide ((k : Int) < 9) = true := decide_eq_true (by omega)
      have i0 : (0 : Int) ≤ (k : Int) := by omega
      have i1 : (k : Int) < 9 := by omega
      by_cases he : nameF k = op
      · have HID : Hid (idxF op = some k) := idxF_at hk9 HNO.out he
        have hnn : ((nameF k).toList == op.toList) = true := by rw [bytes_beq]; simpa using he
        obtain ⟨z0, z1, z2, z3, z4, hbs⟩ := hopr
        have HBS := Lib.hid hbs
        clear hop hbs he
        by_cases hl : n = (bndF k).length
        · go_wp2_with (refine wpList_store_rowW rfl 72 (.tmp 8) (.tmp 16) rfl wo.heap.size (opCells k B (bndF k).length bc) rfl rfl 72 zeroOp (heap_alloc_new wo _) opInfo rfl (opAll _ _ _ _) wo.heap.size wo ((Below.refl _ _).alloc (Nat.le_refl _) _) (Nat.le_refl _) ?_; intro W HW1 HW2 HW3; have y0 : W.cell? ⟨wo.heap.size, 0, none⟩ = some (.string (nameF k)) := row_cell HW1.out 0; have y1 : W.cell? ⟨wo.heap.size, 1, none⟩ = some (.slice B (bndF k).length bc) := row_cell HW1.out 1)
          have hsW : W.heap.size = wo.heap.size + 1 := by rw [HW3.out]; simp
          have HSW := Lib.hid hsW
          clear hsW
          go_loopg [30] (bndF k).length (fun gh s30 wr => ∃ j : Nat, j + gh = (bndF k).length ∧ s30 = .int .i64 j ∧ (∀ i, i < j → ((bndF k).getD i (0, 0)).1 ≤ a.getD i 0 ∧ a.getD i 0 ≤ ((bndF k).getD i (0, 0)).2) ∧ Below W.heap.size W wr)
          case atStart => exact ⟨0, by omega, rfl, fun i hi => by omega, Below.refl _ _⟩
          case round =>
            obtain ⟨j, hjg, rfl, hin, hb2⟩ := hrel
            have HIN := Lib.hid hin
            have HB2 := Lib.hid hb2
            have hr1 : wr.heap[wo.heap.size]? = some (.cells (opCells k B (bndF k).length bc) 72 (0, 0)) := (hb2.block _ (by have := HSW.out; omega)).trans HW1.out
            have hrz : wr.heap[w.heap.size]? = some (.cells zeroOp 72 (0, 0)) := (hb2.block _ (by have := HSW.out; have := (Array.getElem?_eq_some_iff.1 HZ.out).1; omega)).trans ((HW2.out.block _ (Array.getElem?_eq_some_iff.1 HZ.out).1).trans HZ.out)
            have HR1 := Lib.hid hr1
            have HRZ := Lib.hid hrz
            have HBW : Hid (Below w.heap.size w wr) := (HB.out.trans (HW2.out.mono HB.out.size)).trans (hb2.mono (by have := HSW.out; have := HB.out.size; omega))
            clear hin hb2 hr1 hrz
            cases gk with
            | zero =>
              obtain rfl : j = (bndF k).length := by omega
              have HE : Hid (checkE op a = 0 ∧ fitsB (bndF k) a = true) := by
                have : fitsB (bndF k) a = true := by
                  unfold fitsB
                  rw [HA.len, hl]
                  simp only [decide_true, Bool.true_and, List.all_eq_true, List.mem_range, Bool.and_eq_true, decide_eq_true_eq]
                  exact fun i hi => HIN.out i hi
                refine ⟨?_, this⟩
                unfold checkE
                rw [HID.out]; simp [this]
              have d1 : decide (((bndF k).length : Int) < ((bndF k).length : Int)) = false := by simp
              have HN : Hid (n = (bndF k).length) := hl
              go_wp2_with (first
                | (refine wpList_load_row rfl 72 (.tmp 8) rfl wo.heap.size rfl 72 (opCells k B (bndF k).length bc) (0, 0) _ HR1.out Try.underlying72 rfl opInfo ?_)
                | (refine wpList_store_row rfl 72 (.tmp 4) (.tmp 52) rfl w.heap.size (opCells k B (bndF k).length bc) rfl rfl 72 zeroOp HRZ.out opInfo rfl (opAll _ _ _ _) ?_))
              try rw [Exit.noGoto_ret]
              refine bodyPost_ret (results_row_tmp rfl _ _ w.heap.size 72 (opCells k B (bndF k).length bc) (0, 0) _ rfl (setRow_heap _ _ _ _ _ _ HRZ.out) Try.underlying72 rfl opInfo) rfl ?_
              exact ⟨below_setRow HBW.out (Nat.le_refl _) _, .inr ⟨k, B, (bndF k).length, bc, hk9, HE.out.1, HID.out, HE.out.2, rfl⟩⟩
            | succ gk =>
              have hj : j < (bndF k).length := by omega
              have HJG : Hid (j + 1 + gk = (bndF k).length) := by show _ = _; omega
              have HWJ : Hid (wrap64 ((j : Int) + 1) = ((j + 1 : Nat) : Int)) := by show _ = _; have := bndF_len k; rw [IntWalk.wrap64_in _ (by omega)]; rfl
              have d1 : decide ((j : Int) < ((bndF k).length : Int)) = true := decide_eq_true (by omega)
              obtain ⟨p1, p2⟩ := pairCells_at (bndF k) j hj
              obtain ⟨b, off, rfl, hc1⟩ := HBS.out _ _ p1
              obtain ⟨b', off', e', hc2⟩ := HBS.out _ _ p2
              injection e' with e'
              injection e' with e1 e2
              subst e1 e2
              have hbo : b < wo.heap.size := World.block_lt_of_cell? wo _ hc1
              have hup : ∀ q, wr.cell? ⟨b, q, none⟩ = wo.cell? ⟨b, q, none⟩ := fun q => (HB2.out.cell (p := ⟨b, q, none⟩) (by have := HSW.out; show b < _; omega)).trans (HW2.out.cell (p := ⟨b, q, none⟩) hbo)
              have x1 := (hup _).trans hc1
              have x2 := (hup _).trans hc2
              rw [← Nat.add_assoc] at x2
              obtain ⟨ab, ao, av, rfl, ac, hav, -⟩ := (HA.below HBW.out (Nat.le_refl _)).cells (i := j) (by omega)
              have HAV : Hid (a.getD j 0 = av) := getD_at hav.out
              have hab : ab < wr.heap.size := World.block_lt_of_cell? wr _ ac
              have ac2 : ∀ o, (wr.alloc o).cell? ⟨ab, ao + j, none⟩ = some (.int .i64 av) := fun o => (((Below.refl wr.heap.size wr).alloc (Nat.le_refl _) o).cell (p := ⟨ab, ao + j, none⟩) hab).trans ac
              have j0 : (0 : Int) ≤ (j : Int) := by omega
              have j1 : (j : Int) < ((bndF k).length : Int) := by omega
              have HL := Lib.hid hl
              generalize hlo : ((bndF k).getD j (0, 0)).1 = lo at x1
              generalize hhi : ((bndF k).getD j (0, 0)).2 = hi at x2
              have HLO := Lib.hid hlo
              have HHI := Lib.hid hhi
              have HRZ2 : Hid (∀ o n, ((wr.alloc o).drewN n).heap[w.heap.size]? = some (.cells zeroOp 72 (0, 0))) := fun o n => (Below.heap_alloc _ _ _ (Array.getElem?_eq_some_iff.1 HRZ.out).1).trans HRZ.out
              have HBW2 : Hid (∀ o n, Below w.heap.size w ((wr.alloc o).drewN n)) := fun o n => below_drewN (HBW.out.alloc HBW.out.size o) n
              clear hup hc1 hc2 hbo p1 p2 hav hlo hhi
              by_cases hin2 : lo ≤ av ∧ av ≤ hi
              · have t1 : decide (av < lo) = false := decide_eq_false (by omega)
                have t2 : decide (hi < av) = false := decide_eq_false (by omega)
                have HIN2 := Lib.hid hin2
                clear hin2 hl
                go_wp2_with fail
                go_quiet (fail)
                go_wp2_with fail
                go_roundg gk
                case rel => exact ⟨j + 1, HJG.out, by rw [HWJ.out], fun i hi => by
                  rcases Nat.lt_or_ge i j with h | h
                  · exact HIN.out i h
                  · obtain rfl : i = j := by omega
                    rw [HAV.out, HLO.out, HHI.out]; exact HIN2.out, below_drewN (HB2.out.alloc HB2.out.size _) _⟩
                case measure => omega
              · have HE : Hid (checkE op a = 190) := by
                  have : fitsB (bndF k) a = false := by
                    unfold fitsB
                    rw [Bool.and_eq_false_iff]
                    refine .inr ?_
                    rw [List.all_eq_false]
                    refine ⟨j, by simpa using hj, ?_⟩
                    rw [HAV.out, HLO.out, HHI.out]
                    simp; omega
                  show _ = _
                  unfold checkE
                  rw [HID.out]; simp [this]
                rcases Decidable.em (av < lo) with h1 | h1
                · have t1 : decide (av < lo) = true := decide_eq_true h1
                  clear hin2 hl h1
                  go_wp2_with fail
                  go_quiet (fail)
                  go_wp2_with (refine wpList_store_row rfl 72 (.tmp 4) (.tmp 54) rfl w.heap.size zeroOp rfl rfl 72 zeroOp (HRZ2.out _ _) opInfo rfl zeroAll ?_)
                  try rw [Exit.noGoto_ret]
                  refine bodyPost_ret (results_row_tmp rfl _ _ w.heap.size 72 zeroOp (0, 0) _ rfl (setRow_heap _ _ _ _ _ _ (HRZ2.out _ _)) Try.underlying72 rfl opInfo) rfl ?_
                  exact ⟨below_setRow (HBW2.out _ _) (Nat.le_refl _) _, .inl ⟨by rw [HE.out]; omega, by rw [HE.out]; rfl⟩⟩
                · have t1 : decide (av < lo) = false := decide_eq_false h1
                  have t2 : decide (hi < av) = true := decide_eq_true (by omega)
                  clear hin2 hl h1
                  go_wp2_with fail
                  go_quiet (fail)
                  go_wp2_with (refine wpList_store_row rfl 72 (.tmp 4) (.tmp 54) rfl w.heap.size zeroOp rfl rfl 72 zeroOp (HRZ2.out _ _) opInfo rfl zeroAll ?_)
                  try rw [Exit.noGoto_ret]
                  refine bodyPost_ret (results_row_tmp rfl _ _ w.heap.size 72 zeroOp (0, 0) _ rfl (setRow_heap _ _ _ _ _ _ (HRZ2.out _ _)) Try.underlying72 rfl opInfo) rfl ?_
                  exact ⟨below_setRow (HBW2.out _ _) (Nat.le_refl _) _, .inl ⟨by rw [HE.out]; omega, by rw [HE.out]; rfl⟩⟩
        · have hl1 : ((n : Int) == ((bndF k).length : Int)) = false := by simp; omega
          have HE : Hid (checkE op a = 190) := by
            have : fitsB (bndF k) a = false := by
              unfold fitsB
              rw [HA.len]; simp [hl]
            show _ = _
            unfold checkE
            rw [HID.out]; simp [this]
          clear hl
          go_wp2_with (first
            | (refine wpList_store_rowW rfl 72 (.tmp 8) (.tmp 16) rfl wo.heap.size (opCells k B (bndF k).length bc) rfl rfl 72 zeroOp (heap_alloc_new wo _) opInfo rfl (opAll _ _ _ _) wo.heap.size wo ((Below.refl _ _).alloc (Nat.le_refl _) _) (Nat.le_refl _) ?_; intro W HW1 HW2 HW3; have y0 : W.cell? ⟨wo.heap.size, 0, none⟩ = some (.string (nameF k)) := row_cell HW1.out 0; have y1 : W.cell? ⟨wo.heap.size, 1, none⟩ = some (.slice B (bndF k).length bc) := row_cell HW1.out 1; have HZ2 : Hid (W.heap[w.heap.size]? = some (.cells zeroOp 72 (0, 0))) := (HW2.out.block _ (Array.getElem?_eq_some_iff.1 HZ.out).1).trans HZ.out)
            | (refine wpList_store_row rfl 72 (.tmp 4) (.tmp 54) rfl w.heap.size zeroOp rfl rfl 72 zeroOp HZ2.out opInfo rfl zeroAll ?_))
          try rw [Exit.noGoto_ret]
          refine bodyPost_ret (results_row_tmp rfl _ _ w.heap.size 72 zeroOp (0, 0) _ rfl (setRow_heap _ _ _ _ _ _ HZ2.out) Try.underlying72 rfl opInfo) rfl ?_
          exact ⟨below_setRow (HB.out.trans (HW2.out.mono HB.out.size)) (Nat.le_refl _) _, .inl ⟨by rw [HE.out]; omega, by rw [HE.out]; rfl⟩⟩
      · have HNE := Lib.hid he
        obtain ⟨z0, z1, z2, z3, z4, -⟩ := hopr
        have hnn : ((nameF k).toList == op.toList) = false := by rw [bytes_beq]; simpa using he
        clear hop he
        go_wp2_with (refine wpList_store_rowW rfl 72 (.tmp 8) (.tmp 16) rfl wo.heap.size (opCells k B (bndF k).length bc) rfl rfl 72 zeroOp (heap_alloc_new wo _) opInfo rfl (opAll _ _ _ _) wo.heap.size wo ((Below.refl _ _).alloc (Nat.le_refl _) _) (Nat.le_refl _) ?_; intro W HW1 HW2 HW3; have y0 : W.cell? ⟨wo.heap.size, 0, none⟩ = some (.string (nameF k)) := row_cell HW1.out 0)
        go_roundg gko
        case rel => exact ⟨k + 1, by omega, rfl, by go_num, fun i hi => by
            rcases Nat.lt_or_ge i k with h | h
            · exact HNO.out i h
            · obtain rfl : i = k := by omega
              exact HNE.out, HBR.out.trans (HW2.out.mono (by have := HBR.out.size; omega))⟩
        case measure => omega
end Go.Proofs.Ytogmlcgiajigfaa.Ard
