/-
  Walks: the reference's Tabled.
-/
import Derived.Test.YtpecemkjoklhfaaPfxD
import Derived.Test.YtpecemkjoklhfaaRefM
import Derived.Laws.Rows
import Derived.Laws.Tables
import Derived.Laws.CopyOwn
set_option linter.unusedVariables false
set_option linter.unusedSimpArgs false
namespace Go.Proofs.Ytpecemkjoklhfaa.RefT
open Go.RowKit K Pfx Ref

/-- the reference's table, cell by cell -/
def tabF (l : List Int) (nf : Nat) (vs : Nat → Value) (any : Bool) (j : Nat) : Value :=
  if j < 18 then .int .i64 (if 1 ≤ j ∧ j < nf then (first l j : Int) else 0)
  else if j < 36 then vs (j - 18) else .bool any
theorem tabF_lo {l : List Int} {nf : Nat} {vs : Nat → Value} {any : Bool} {j : Nat} (h : j < 18) : tabF l nf vs any j = .int .i64 (if 1 ≤ j ∧ j < nf then (first l j : Int) else 0) := by unfold tabF; rw [if_pos h]
theorem tabF_mid {l : List Int} {nf : Nat} {vs : Nat → Value} {any : Bool} {j : Nat} (h : ¬ j < 18) (h2 : j < 36) : tabF l nf vs any j = vs (j - 18) := by unfold tabF; rw [if_neg h, if_pos h2]
theorem tabF_hi {l : List Int} {nf : Nat} {vs : Nat → Value} {any : Bool} {j : Nat} (h : ¬ j < 36) : tabF l nf vs any j = .bool any := by unfold tabF; rw [if_neg (by omega), if_neg h]
def zF (j : Nat) : Value := if j < 18 then .int .i64 0 else if j < 36 then .slice none 0 0 else .bool false
def ofL (l : List Int) (m k j : Nat) : List Int := if j = 0 then [] else if j < m then idx l j l.length else if j = m then idx l m k else []
def anyU (l : List Int) (m k : Nat) : Bool := (List.range (m - 1)).any (fun j => decide (0 < cnt l (j+1) l.length)) || decide (0 < cnt l m k)
structure T1 (w wr : World) (l : List Int) (nf m k : Nat) (vs : Nat → Value) (any : Bool) : Prop where
  bel : Below w.heap.size w wr
  res : wr.rowIs w.heap.size 57 37 zF
  row : wr.rowIs (w.heap.size + 1) 57 37 (tabF l nf vs any)
  of : ∀ j, j < 18 → wr.ownsRow (w.heap.size + 2) 3 1 (vs j) (ofL l m k j).length ((ofL l m k j).map (.int .i64))
  dis : ∀ i j b, i < 18 → j < 18 → i ≠ j → (vs i).ownBlock = some b → (vs j).ownBlock ≠ some b
  any_ : any = anyU l m k
theorem zrow (w : World) : (w.alloc (.cells ((List.range 37).map zF).toArray 57)).rowIs w.heap.size 57 37 zF :=
  World.rowIs_alloc w _ _ _ (fun i hi => by
    simp only [List.size_toArray, List.length_map, List.length_range] at hi
    simp only [List.getElem?_toArray, List.getElem?_map, List.getElem?_range hi, Option.map_some])
theorem T1.start (w : World) (l : List Int) : T1 w ((w.alloc (.cells ((List.range 37).map zF).toArray 57)).alloc (.cells ((List.range 37).map zF).toArray 57)) l 1 1 0 (fun _ => .slice none 0 0) false := by
  refine ⟨((Below.refl _ _).alloc (Nat.le_refl _) _).alloc (by simp) _, (zrow w).alloc _, ?_, ?_, ?_, ?_⟩
  · have := zrow (w.alloc (.cells ((List.range 37).map zF).toArray 57))
    rw [World.size_alloc] at this
    refine this.congr (fun j hj => ?_)
    unfold zF tabF
    by_cases h1 : j < 18
    · rw [if_pos h1, if_pos h1, if_neg (by omega)]
    · rw [if_neg h1, if_neg h1]
  · intro j hj
    have e : ofL l 1 0 j = [] := by
      unfold ofL
      by_cases h0 : j = 0
      · rw [if_pos h0]
      · rw [if_neg h0, if_neg (by omega)]
        by_cases h1 : j = 1
        · rw [if_pos h1]; rfl
        · rw [if_neg h1]
    rw [e]
    exact World.ownsRow_nil _ _ _ _
  · intro i j b _ _ _ h
    simp [Value.ownBlock] at h
  · simp [anyU, cnt_zero]
theorem own_ne {w : World} {base e sz n : Nat} {v : Value} {xs : List Value} {r : Nat} (h : w.ownsRow base e sz v n xs) (hr : r < base) : v.ownBlock = none ∨ v.ownBlock ≠ some r := by
  by_cases e : v.ownBlock = none
  · exact .inl e
  · exact .inr (fun e2 => by have := (h.lt _ e2).1; omega)
theorem T1.begun {w wr : World} {l : List Int} {m : Nat} {vs : Nat → Value} {any : Bool} {u : Int} (h : T1 w wr l m m 0 vs any) (hm1 : 1 ≤ m) (hm : m ≤ 16) (hu : u = first l m) :
    T1 w (wr.setCell ⟨w.heap.size + 1, m, none⟩ (.int .i64 u)) l (m+1) m 0 vs any :=
  ⟨h.bel.setCell (by simp) _, h.res.setOther (by simp) _, (h.row.set m _).congr (fun j hj => by
    unfold tabF
    by_cases h1 : j < 18
    · rw [if_pos h1]
      by_cases h2 : j = m
      · subst h2; rw [if_pos rfl, if_pos h1, if_pos (by omega), hu]
      · rw [if_neg h2, if_pos h1]
        by_cases h3 : 1 ≤ j ∧ j < m
        · rw [if_pos h3, if_pos (by omega)]
        · rw [if_neg h3, if_neg (by omega)]
    · rw [if_neg (by omega), if_neg h1, if_neg h1]),
   fun j hj => (h.of j hj).kept (grown_set (World.grownBy.refl _ _) _ _) (own_ne (h.of j hj) (by omega)), h.dis, h.any_⟩
theorem T1.next {w wr : World} {l : List Int} {m : Nat} {vs : Nat → Value} {any : Bool} (h : T1 w wr l (m+1) m l.length vs any) (hm1 : 1 ≤ m) : T1 w wr l (m+1) (m+1) 0 vs any :=
  ⟨h.bel, h.res, h.row, fun j hj => by
    have e : ofL l (m+1) 0 j = ofL l m l.length j := by
      unfold ofL
      by_cases h0 : j = 0
      · rw [if_pos h0, if_pos h0]
      · rw [if_neg h0, if_neg h0]
        by_cases h1 : j < m
        · rw [if_pos h1, if_pos (by omega)]
        · rw [if_neg h1]
          by_cases h2 : j = m
          · rw [if_pos h2, if_pos (by omega), h2]
          · rw [if_neg h2, if_neg (by omega)]
            split <;> rfl
    rw [e]; exact h.of j hj, h.dis, by
    rw [h.any_]
    unfold anyU
    obtain ⟨q, rfl⟩ : ∃ q, m = q + 1 := ⟨m - 1, by omega⟩
    rw [cnt_zero, Nat.add_sub_cancel, Nat.add_sub_cancel, List.range_succ, List.any_append]
    simp⟩
theorem T1.skip {w wr : World} {l : List Int} {nf m k : Nat} {vs : Nat → Value} {any : Bool} {x : Int} (h : T1 w wr l nf m k vs any) (hx : l[k]? = some x) (hne : x ≠ m) : T1 w wr l nf m (k+1) vs any := by
  have e1 : cnt l m (k+1) = cnt l m k := by rw [cnt_succ m hx, if_neg hne]; rfl
  have e2 : idx l m (k+1) = idx l m k := by rw [idx_succ m hx, if_neg hne, List.append_nil]
  exact ⟨h.bel, h.res, h.row, fun j hj => by have := h.of j hj; unfold ofL at this ⊢; rw [e2]; exact this, h.dis, by rw [h.any_]; unfold anyU; rw [e1]⟩
theorem T1.step {w wr w1 : World} {l : List Int} {m k : Nat} {vs : Nat → Value} {any : Bool} {x : Int} {v' : Value} {o : Obj} (h : T1 w wr l (m+1) m k vs any) (hx : l[k]? = some x) (he : x = m) (hm1 : 1 ≤ m) (hm : m ≤ 16)
    (hg : (wr.alloc o).grownBy w1 (vs m).ownBlock) (hown : w1.ownsRow (w.heap.size + 2) 3 1 v' ((ofL l m k m).length + 1) ((ofL l m k m).map (.int .i64) ++ [.int .i64 k]))
    (hor : v'.ownBlock = (vs m).ownBlock ∨ v'.ownBlock = some (wr.alloc o).heap.size) :
    T1 w ((w1.setCell ⟨w.heap.size + 1, 18 + m, none⟩ v').setCell ⟨w.heap.size + 1, 36, none⟩ (.bool true)) l (m+1) m (k+1) (fun j => if j = m then v' else vs j) true := by
  have hsz := h.bel.size
  have hlt2 := h.row.lt
  have hne : ∀ q, (vs m).ownBlock = some q → w.heap.size + 2 ≤ q := fun q hq => ((h.of m (by omega)).lt q hq).1
  have hb1 : Below w.heap.size w w1 := (h.bel.alloc hsz _).grown hg (by simp; omega) (fun q hq => by have := hne q hq; omega)
  have hr0 := (h.res.alloc o).of_block (hg.block w.heap.size (by simp; omega) (fun e => by have := hne _ e.symm; omega))
  have hr1 := (h.row.alloc o).of_block (hg.block (w.heap.size + 1) (by simp; omega) (fun e => by have := hne _ e.symm; omega))
  have gg : w1.grownBy ((w1.setCell ⟨w.heap.size + 1, 18 + m, none⟩ v').setCell ⟨w.heap.size + 1, 36, none⟩ (.bool true)) (some (w.heap.size + 1)) := grown_set (grown_set (World.grownBy.refl _ _) _ _) _ _
  have e2 : idx l m (k+1) = idx l m k ++ [(k : Int)] := by rw [idx_succ m hx, if_pos he]
  have e1 : cnt l m (k+1) = cnt l m k + 1 := by rw [cnt_succ m hx, if_pos he]
  refine ⟨(hb1.setCell (by simp) _).setCell (by simp) _, (hr0.setOther (by simp) _).setOther (by simp) _, ((hr1.set (18 + m) v').set 36 _).congr (fun j hj => ?_), fun j hj => ?_, ?_, ?_⟩
  · by_cases h1 : j < 18
    · rw [if_neg (by omega), if_neg (by omega), tabF_lo h1, tabF_lo h1]
    · by_cases h2 : j < 36
      · rw [if_neg (by omega), tabF_mid h1 h2, tabF_mid h1 h2]
        by_cases h3 : j = 18 + m
        · rw [if_pos h3, if_pos (by omega)]
        · rw [if_neg h3, if_neg (by omega)]
      · rw [if_pos (by omega), tabF_hi h2]
  · by_cases hjm : j = m
    · subst hjm
      rw [if_pos rfl]
      have eo : ofL l j (k+1) j = ofL l j k j ++ [(k : Int)] := by
        unfold ofL; rw [if_neg (by omega), if_neg (by omega), if_pos rfl, if_neg (by omega), if_neg (by omega), if_pos rfl, e2]
      rw [eo, List.length_append, List.map_append]
      exact hown.kept gg (own_ne hown (by omega))
    · rw [if_neg hjm]
      have eo : ofL l m (k+1) j = ofL l m k j := by
        unfold ofL; rw [if_neg hjm, if_neg hjm]
      rw [eo]
      have h0 := (h.of j hj).alloc o
      have h1 : w1.ownsRow (w.heap.size + 2) 3 1 (vs j) (ofL l m k j).length ((ofL l m k j).map (.int .i64)) := h0.kept hg (by
        cases hb : (vs j).ownBlock with
        | none => exact .inl rfl
        | some b =>
          refine .inr (fun e => ?_)
          exact h.dis j m b hj (by omega) hjm hb (by rw [← e]))
      exact h1.kept gg (own_ne h1 (by omega))
  · have key : ∀ j b, j < 18 → j ≠ m → (vs j).ownBlock = some b → v'.ownBlock ≠ some b := fun j b hj hjm hb e => by
      rcases hor with q | q
      · rw [q] at e; exact h.dis j m b hj (by omega) hjm hb e
      · rw [q] at e; injection e with e
        have := ((h.of j hj).lt b hb).2
        simp at e; omega
    intro i j b hi hj hij hb
    by_cases him : i = m
    · rw [if_pos him] at hb
      rw [if_neg (by omega)]
      exact fun e => key j b hj (by omega) e hb
    · rw [if_neg him] at hb
      by_cases hjm : j = m
      · rw [if_pos hjm]; exact key i b hi him hb
      · rw [if_neg hjm]; exact h.dis i j b hi hj hij hb
  · unfold anyU; rw [e1]; simp

/-- a table of the lengths l, as a value; its lists lie from block lo on -/
structure Tab (lo : Nat) (w : World) (l : List Int) (c : Array Value) : Prop where
  size : c.size = 37
  short : l.length ≤ 4096
  cells : ∃ vs, (∀ i, i < 37 → c[i]? = some (tabF l 17 vs (anyM l) i)) ∧ ∀ j, 1 ≤ j → j ≤ 16 → ∃ A cap, vs j = .slice A (cnt l j l.length) cap ∧ SI w .i64 A (cnt l j l.length) (idx l j l.length) ∧ ∀ b off s, A = some ⟨b, off, s⟩ → lo ≤ b
theorem Tab.below {lo : Nat} {w w' : World} {l : List Int} {c : Array Value} {B : Nat} (h : Tab lo w l c) (hb : Below B w w') (hB : w.heap.size ≤ B) : Tab lo w' l c := by
  obtain ⟨vs, h1, h2⟩ := h.cells
  refine ⟨h.size, h.short, vs, h1, fun j j1 j2 => ?_⟩
  obtain ⟨A, cap, e, hs, hl⟩ := h2 j j1 j2
  exact ⟨A, cap, e, hs.below hb hB, hl⟩
theorem SI.grown {w w' : World} {k : IntKind} {A : Option Addr} {n : Nat} {l : List Int} {p : Nat} (h : SI w k A n l) (hg : w.grownBy w' (some p)) (hp : ∀ b off s, A = some ⟨b, off, s⟩ → b ≠ p) : SI w' k A n l :=
  ⟨h.len, h.sz, fun j u hu => by
    obtain ⟨b, off, rfl, hc⟩ := h.sl j u hu
    exact ⟨b, off, rfl, (World.cell?_of_block (a := ⟨b, off + j, none⟩) (hg.block b (World.block_lt_of_cell? w _ hc) (fun e => by injection e with e; exact hp b off none rfl e))).trans hc⟩⟩
theorem Tab.grown {lo : Nat} {w w' : World} {l : List Int} {c : Array Value} {p : Nat} (h : Tab lo w l c) (hg : w.grownBy w' (some p)) (hp : p < lo) : Tab lo w' l c := by
  obtain ⟨vs, h1, h2⟩ := h.cells
  refine ⟨h.size, h.short, vs, h1, fun j j1 j2 => ?_⟩
  obtain ⟨A, cap, e, hs, hl⟩ := h2 j j1 j2
  exact ⟨A, cap, e, SI.grown hs hg (fun b off s e => by have := hl b off s e; omega), hl⟩
theorem one_own {w : World} {base e sz n : Nat} {v : Value} {xs : List Value} (h : w.ownsRow base e sz v n xs) : v.oneCell' = true := by
  obtain ⟨A, c, rfl⟩ := own_form h; rfl
theorem T1.tab {w wr : World} {l : List Int} {vs : Nat → Value} {any : Bool} (h : T1 w wr l 17 17 0 vs any) (hs : l.length ≤ 4096) :
    ∃ c, wr.heap[w.heap.size + 1]? = some (.cells c 57 (0, 0)) ∧ c.size = 37 ∧ c.all (·.oneCell') = true ∧ (∃ old, wr.heap[w.heap.size]? = some (.cells old 57 (0, 0)) ∧ old.size = 37) ∧
      ∀ w', Below (w.heap.size) wr w' → (∀ b, w.heap.size + 2 ≤ b → b < wr.heap.size → w'.heap[b]? = wr.heap[b]?) → Tab w.heap.size w' l c := by
  obtain ⟨c, hc, hn, hf⟩ := h.row
  obtain ⟨old, ho, hon, -⟩ := h.res
  refine ⟨c, hc, hn, ?_, ⟨old, ho, hon⟩, fun w' hb hbl => ⟨hn, hs, vs, fun i hi => ?_, fun j j1 j2 => ?_⟩⟩
  · rw [Array.all_eq_true]
    intro i hi
    have := hf i (by omega)
    rw [Array.getElem?_eq_getElem hi] at this
    injection this with this
    rw [this]
    unfold tabF
    by_cases h1 : i < 18
    · rw [if_pos h1]; rfl
    · rw [if_neg h1]
      by_cases h2 : i < 36
      · rw [if_pos h2]; exact one_own (h.of (i - 18) (by omega))
      · rw [if_neg h2]; rfl
  · have e : any = anyM l := by
      rw [h.any_]; unfold anyU anyM; rw [cnt_zero]; simp
    rw [← e]; exact hf i hi
  · have ho := h.of j (by omega)
    have e : ofL l 17 0 j = idx l j l.length := by unfold ofL; rw [if_neg (by omega), if_pos (by omega)]
    rw [e, idx_len l j _ (Nat.le_refl _)] at ho
    obtain ⟨A, cap, hv⟩ := own_form ho
    have hcl := cnt_le l j l.length
    rw [hv] at ho
    have hsi : SI wr .i64 A (cnt l j l.length) (idx l j l.length) := SI.of_own ho (by show _ * 8 ≤ _; omega)
    refine ⟨A, cap, hv, ?_, fun b off s e => ?_⟩
    rotate_left
    · rcases ho.2 with ⟨e1, -⟩ | ⟨g, cp, cur, e1, hb1, -⟩
      · injection e1 with e1; rw [e1] at e; cases e
      · injection e1 with e1; rw [e1] at e; injection e with e; injection e with e; omega
    refine ⟨hsi.len, hsi.sz, fun i u hu => ?_⟩
    obtain ⟨b, off, rfl, hcc⟩ := hsi.sl i u hu
    have hlt := World.block_lt_of_cell? wr _ hcc
    have hge : w.heap.size + 2 ≤ b := by
      rcases ho.2 with ⟨e1, -⟩ | ⟨g, cp, cur, e1, hb1, -⟩
      · cases e1
      · injection e1 with e1; injection e1 with e1; injection e1 with e1; rw [e1]; exact hb1
    exact ⟨b, off, rfl, (World.cell?_of_block (a := ⟨b, off + i, none⟩) (hbl b hge hlt)).trans hcc⟩
def TabPost (w : World) (l : List Int) (e : Ending) (w' : World) : Prop := Below w.heap.size w w' ∧ ∃ c, e = .returned (.agg c) ∧ Tab w.heap.size w' l c ∧ c.all (·.oneCell') = true
theorem info57 : (Try.prog.info? 57).map (·.size) = some 37 := by kernel_rfl
theorem und57 : ∃ d, Try.prog.underlying 57 = some d ∧ (match d with | .struct _ | .array _ _ => true | _ => false) = true := ⟨_, Try.underlying57, rfl⟩

set_option maxRecDepth 20000 in
set_option maxHeartbeats 2000000 in
theorem tabled_any {A : Option Addr} {n c : Nat} {l : List Int} (w : World) (HA : SI w .i64 A n l) (hsh : n ≤ 4096) :
    Calls Try.prog 24 #[.slice A n c] w (TabPost w l) := by
  have hlen := Lib.hid HA.len
  have hn := hsh
  go_enter Try.func24, Try.ntmps24
  go_wp2
  have h0 := T1.start w l
  go_loopw [4, 5, 6] (fun nx m _ wr => ∃ (k : Nat) (u : Int) (vs : Nat → Value) (any : Bool), 1 ≤ k ∧ k ≤ 17 ∧ 0 ≤ u ∧ u ≤ 600000000 ∧ (k ≤ 16 → 2 * u = first l k) ∧ m = .int .i64 k ∧ nx = .int .i64 u ∧ T1 w wr l k k 0 vs any) (fun _ m _ _ => 17 - (intOf m).toNat)
  case atStart => exact ⟨1, 0, _, _, by omega, by omega, by omega, by omega, fun _ => rfl, rfl, rfl, h0⟩
  case round =>
    clear h0
    obtain ⟨m, u, vs, any, hm1, hm2, hu0, hu1, hu2, rfl, rfl, hT⟩ := hrel
    have HU := Lib.hid hu2
    clear hu2
    obtain ⟨wo, rfl⟩ : ∃ wo : World, wo = wr := ⟨_, rfl⟩
    by_cases hm : m ≤ 16
    · have cf := hT.row.cell (i := m) (by omega)
      have f1 := hT.row.frozen m
      generalize tabF l m vs any m = q1 at cf
      have hmd : decide ((m : Int) ≤ 16) = true := by simp; omega
      have hT2 := hT.begun hm1 hm (u := 2 * u) (HU.out hm)
      clear hT
      go_wp2
      go_loopw [6] (fun i wr => ∃ (k : Nat) (vs : Nat → Value) (any : Bool), k ≤ n ∧ i = .int .i64 k ∧ T1 w wr l (m+1) m k vs any) (fun i _ => n - (intOf i).toNat)
      case atStart => exact ⟨0, _, _, by omega, rfl, hT2⟩
      case round =>
        clear hT2 cf f1
        obtain ⟨k, vs, any, hk, rfl, hT⟩ := hrel
        by_cases hlt : k < n
        · obtain ⟨b, off, x, rfl, hc0, hx, hbl⟩ := HA.cells hlt
          have hc : wr.cell? ⟨b, off + k, none⟩ = some (.int .i64 x) := (hT.bel.cell (p := ⟨b, off+k, none⟩) hbl).trans hc0
          have hlt' : (k : Int) < n := by omega
          by_cases he : x = m
          · have he' : (x == (m : Int)) = true := by simp [he]
            have HE := Lib.hid he
            clear he
            have hom := hT.of m (by omega)
            have hcm := hT.row.cell (i := 18 + m) (by omega)
            have ecm : tabF l (m+1) vs any (18 + m) = vs m := by unfold tabF; rw [if_neg (by omega), if_pos (by omega), Nat.add_sub_cancel_left]
            rw [ecm] at hcm
            obtain ⟨A2, c2, hv2⟩ := own_form hom
            rw [hv2] at hom hcm
            have hql : (ofL l m k m).length ≤ 4096 := by
              unfold ofL; rw [if_neg (by omega), if_neg (by omega), if_pos rfl, idx_len l m k (by rw [hlen.out]; omega)]
              have := cnt_le l m k; omega
            have hsz := hT.bel.size
            have hlt2 := hT.row.lt
            have HV2 := Lib.hid hv2
            clear hv2 ecm
            generalize hQ : (ofL l m k m).length = q at *
            have HQ := Lib.hid hQ
            clear hQ
            go_wp2_with (at_builtin; refine wpList_append_sl _ rfl (.tmp 33) (.tmp 35) _ rfl (w.heap.size + 2) 3 1 8 _ Try.underlying22 infoInt rfl (by omega) (.slice A2 q c2) q _ rfl (hom.alloc _) _ 1 1 [.int .i64 k] rfl rfl (Sl.one wr _ _) ?c1 ?c2 ?c3 ?c4 ?_)
            case c1 => simp [Value.oneCell']
            case c2 => unfold maxLen; omega
            case c3 => omega
            case c4 => simp; omega
            intro v' w1 hown hg hor
            have hg' := hg
            rw [← HV2.out] at hg' hor
            have hne : ∀ z, (Value.slice A2 q c2).ownBlock = some z → w.heap.size + 2 ≤ z := fun z hz => (hom.lt z hz).1
            have hr1 := (hT.row.alloc (.cells #[.int .i64 k] 3)).of_block (hg.block (w.heap.size + 1) (by simp; omega) (fun e => by have := hne _ e.symm; omega))
            have hown2 : w1.ownsRow (w.heap.size + 2) 3 1 v' ((ofL l m k m).length + 1) ((ofL l m k m).map (.int .i64) ++ [.int .i64 k]) := by rw [HQ.out]; simpa using hown
            have hS := hT.step hx.out HE.out hm1 hm hg' hown2 (by rw [World.size_alloc]; exact hor)
            have d1 := hr1.cell (i := 18 + m) (by omega)
            have d2 := hr1.cell (i := 36) (by omega)
            have g1 := hr1.frozen (18 + m)
            have g2 := hr1.frozen 36
            generalize tabF l (m + 1) vs any (18 + m) = q51 at d1
            generalize tabF l (m + 1) vs any 36 = q52 at d2
            clear hg hg' hor hne hr1 hcm hom hown2
            obtain ⟨A3, c3, rfl⟩ := own_form hown
            clear hown
            go_wp2
            go_roundw
            case rel => exact ⟨k + 1, _, _, by omega, by go_num, hS⟩
            case measure => simp [intOf]; omega
          · have he' : (x == (m : Int)) = false := by simp [he]
            have hS := hT.skip hx.out he
            clear he
            go_wp2
            go_roundw
            case rel => exact ⟨k + 1, _, _, by omega, by go_num, hS⟩
            case measure => simp [intOf]; omega
        · obtain rfl : k = n := by omega
          have hf := Lib.hid (first_succ l m hm1)
          have hT3 : T1 w wr l (m+1) (m+1) 0 vs any := by
            refine T1.next ?_ hm1
            rw [hlen.out]; exact hT
          have hom := hT.of m (by omega)
          have hcm := hT.row.cell (i := 18 + m) (by omega)
          have ecm : tabF l (m+1) vs any (18 + m) = vs m := by unfold tabF; rw [if_neg (by omega), if_pos (by omega), Nat.add_sub_cancel_left]
          rw [ecm] at hcm
          obtain ⟨A2, c2, hv2⟩ := own_form hom
          have eq : (ofL l m k m).length = cnt l m k := by
            unfold ofL; rw [if_neg (by omega), if_neg (by omega), if_pos rfl, idx_len l m k (by rw [hlen.out]; omega)]
          rw [hv2, eq] at hcm
          have hcl := cnt_le l m k
          have hfl := first_le l m (by omega) (by rw [hlen.out]; exact hn)
          have hu3 := HU.out hm
          have HU3 := Lib.hid hu3
          have hu4 : u ≤ 268435456 := by omega
          clear hu3 ecm hv2 eq hom hT
          go_wp2
          go_roundw
          case rel => exact ⟨m + 1, 2 * u + cnt l m k, _, _, by omega, by omega, by omega, by omega, fun _ => by have := HU3.out; rw [hf.out, hlen.out]; omega, by go_num, rfl, hT3⟩
          case measure => simp [intOf]; omega
    · obtain rfl : m = 17 := by omega
      obtain ⟨c, hc, hcs, hc1, ⟨old, hold, holds⟩, hend⟩ := hT.tab (by rw [hlen.out]; exact hn)
      have hi : (Try.prog.info? 57).map (·.size) = some c.size := by rw [hcs]; exact info57
      have HI := Lib.hid hi
      have HO := Lib.hid (show old.size = c.size by rw [hcs, holds])
      have HC := Lib.hid hc
      have HOL := Lib.hid hold
      have HC1 := Lib.hid hc1
      have hbel := Lib.hid hT.bel
      have hsz := hT.bel.size
      have hlt2 := hT.row.lt
      have HE := Lib.hid hend
      clear hi hc hold hc1 hcs holds hend hT
      go_wp2_with (first
        | (refine wpList_load_row rfl 57 (.tmp 3) rfl (w.heap.size + 1) rfl 57 c (0, 0) _ HC.out Try.underlying57 rfl HI.out ?_)
        | (refine wpList_store_row rfl 57 (.tmp 2) (.tmp 47) rfl w.heap.size c rfl rfl 57 old HOL.out HI.out HO.out HC1.out ?_))
      refine bodyPost_ret (results_cell_row rfl _ _ w.heap.size 57 c (0, 0) _ rfl (setRow_heap _ _ _ _ _ _ HOL.out) Try.underlying57 rfl HI.out) rfl ?_
      refine ⟨below_setRow hbel.out (Nat.le_refl _) _, c, rfl, HE.out _ (below_setRow (Below.refl _ _) (Nat.le_refl _) _) (fun b hb _ => setRow_other _ _ _ _ (by omega)), HC1.out⟩
end Go.Proofs.Ytpecemkjoklhfaa.RefT
