/-
  Texts of this claim, joined by program (MapG, DefX). A map of slices of numbers, keyed by three bytes, that the call makes: plain laws at its operations.
-/
import Derived.Test.YtmgbjgjlddifaaaGreatChecked
import Derived.Test.YtmgbjgjlddifaaaGreatZG1
import Derived.WideKeyEntry
import Derived.DeepKeys4
import Derived.Test.YtmgbjgjlddifaaaGreatZG6
import Derived.Test.YtmgbjgjlddifaaaGreatZG8
set_option linter.unusedVariables false
set_option linter.unusedSimpArgs false
namespace Go.Proofs.YtmgbjgjlddifaaaGreat.MapG
open Go.RowKit K Go.ChangeMaps

abbrev T3 := Int × Int × Int
def triV (t : T3) : Value := .agg #[.int .u8 t.1, .int .u8 t.2.1, .int .u8 t.2.2]
def okT (t : T3) : Prop := (0 ≤ t.1 ∧ t.1 < 256) ∧ (0 ≤ t.2.1 ∧ t.2.1 < 256) ∧ (0 ≤ t.2.2 ∧ t.2.2 < 256)
theorem triV_inj {s t : T3} (h : triV s = triV t) : s = t := by
  obtain ⟨a, b, c⟩ := s
  obtain ⟨d, e, f⟩ := t
  unfold triV at h
  simp at h
  obtain ⟨h1, h2, h3⟩ := h
  subst h1 h2 h3
  rfl
theorem laidOut : laidOutB Tryz.prog = true := by kernel_rfl
set_option maxRecDepth 100000 in
theorem row3 : (74 : TypeId) < Tryz.prog.types.size := of_decide_eq_true (by kernel_rfl)
theorem wide3 : (match Tryz.prog.underlying 74 with | some (.array _ _) | some (.struct _) => true | _ => false) = true := by rw [Tryz.underlying74]
theorem deep2 : Tryz.prog.keyTypeAt 2 74 = true := by kernel_rfl
set_option maxRecDepth 100000 in
theorem law3 : WideMaps.KeyLaw Tryz.prog 74 := deep_law_laid laidOut (m := 2) (by omega) row3 deep2 wide3
theorem zeroI (w : World) : (zeroValue 43).run Tryz.prog w = .ok (.slice none 0 0) w := by kernel_rfl
theorem cells3 : Tryz.prog.cellsOf 74 = 3 := by kernel_rfl
theorem cells1 : Tryz.prog.cellsOf 5 = 1 := by kernel_rfl
theorem keyTy : Tryz.prog.keyType 74 = true := by kernel_rfl
theorem keyOf_tri {t : T3} (h : okT t) : ∃ l, keyOf Tryz.prog 74 (triV t) = some l := by
  obtain ⟨a, b, c⟩ := t
  obtain ⟨h1, h2, h3⟩ := h
  simp only at h1 h2 h3
  have wf : ∀ x : Int, 0 ≤ x ∧ x < 256 → (Lit.int .u8 x).wf = true := fun x hx => by
    show (decide (IntKind.u8.min ≤ x) && decide (x ≤ IntKind.u8.max)) = true
    rw [show IntKind.u8.min = 0 from rfl, show IntKind.u8.max = 255 from by decide]
    simp; omega
  obtain ⟨m, hm⟩ := Nat.exists_eq_add_of_lt row3
  have hf : (triV (a, b, c)).formed Tryz.prog 74 = true := by simp [triV, Value.formed, Tryz.underlying74, cells3]
  unfold keyOf
  rw [Tryz.underlying74]
  simp only [keyTy, hf, Bool.and_self, if_true]
  rw [hm]
  simp only [triV, Value.cells, Program.keyLits, Tryz.underlying74, Tryz.underlying5, cells3, cells1, List.length_cons, List.length_nil]
  have w1 := wf a h1
  have w2 := wf b h2
  have w3 := wf c h3
  have hr : List.range 3 = [0, 1, 2] := rfl
  simp [hr, w1, w2, w3]
/-- a map in block B whose slices own rows from base on: what it holds at each key; R: the rows' blocks -/
structure GM (w : World) (B base : Nat) (F : T3 → List Int) (R : Nat → Prop) : Prop where
  lt : B < base
  hi : base ≤ w.heap.size
  rlo : ∀ b, R b → base ≤ b ∧ b < w.heap.size
  ex : ∃ es clock, w.heap[B]? = some (.map es clock) ∧ MapKept.Stamped es clock ∧
    (∀ x ∈ es.toList, ∃ t, okT t ∧ x.key = triV t ∧ w.ownsRow base 3 1 x.val (F t).length ((F t).map (.int .i64)) ∧ ∀ b, x.val.ownBlock = some b → R b) ∧
    (∀ t, okT t → (∀ x ∈ es.toList, x.key ≠ triV t) → F t = []) ∧
    (∀ x ∈ es.toList, ∀ y ∈ es.toList, x.key ≠ y.key → x.val.ownBlock = none ∨ x.val.ownBlock ≠ y.val.ownBlock)
theorem own_frame {w w' : World} {base e sz n : Nat} {v : Value} {xs : List Value} (h : w.ownsRow base e sz v n xs) (hb : ∀ g, v.ownBlock = some g → w'.heap[g]? = w.heap[g]?) : w'.ownsRow base e sz v n xs := by
  refine ⟨h.1, ?_⟩
  rcases h.2 with hv | ⟨g, cap, cur, hv, h1, h2, h3⟩
  · exact .inl hv
  · exact .inr ⟨g, cap, cur, hv, h1, (hb g (by rw [hv]; rfl)).trans h2, h3⟩
section
variable {w w1 w2 : World} {B base : Nat} {F : T3 → List Int} {R : Nat → Prop} {t : T3}
theorem GM.made (w : World) : GM (w.alloc (.map #[] 0)) w.heap.size (w.heap.size + 1) (fun _ => []) (fun _ => False) :=
  ⟨Nat.lt_succ_self _, by simp, fun b h => h.elim, #[], 0, heap_alloc_new _ _, MapKept.stamped_empty 0, by simp, fun t _ _ => rfl, by simp⟩
theorem GM.frame (h : GM w B base F R) (hs : w.heap.size ≤ w1.heap.size) (hb : ∀ i, (i = B ∨ R i) → w1.heap[i]? = w.heap[i]?) : GM w1 B base F R := by
  obtain ⟨es, clock, e1, e2, e3, e4, e5⟩ := h.ex
  refine ⟨h.lt, Nat.le_trans h.hi hs, fun b hr => ⟨(h.rlo b hr).1, Nat.lt_of_lt_of_le (h.rlo b hr).2 hs⟩, es, clock, (hb B (.inl rfl)).trans e1, e2, fun x hx => ?_, e4, e5⟩
  obtain ⟨t, a1, a2, a3, a4⟩ := e3 x hx
  exact ⟨t, a1, a2, own_frame a3 (fun g hg => hb g (.inr (a4 g hg))), a4⟩
theorem GM.below (h : GM w B base F R) (hb : Below w.heap.size w w1) : GM w1 B base F R := by
  have hlt := h.lt
  have hhi := h.hi
  refine h.frame hb.size (fun i hi => ?_)
  rcases hi with rfl | hi
  · exact hb.block _ (by omega)
  · exact hb.block _ (h.rlo i hi).2
theorem keys_of {es : Array MapEntry} (h : ∀ x ∈ es.toList, ∃ t, okT t ∧ x.key = triV t ∧ w.ownsRow base 3 1 x.val (F t).length ((F t).map (.int .i64)) ∧ ∀ b, x.val.ownBlock = some b → R b) : ∀ e ∈ es.toList, ∃ l, keyOf Tryz.prog 74 e.key = some l := fun e he => by
  obtain ⟨t, a1, a2, -, -⟩ := h e he
  rw [a2]
  exact keyOf_tri a1
/-- 'm[k]' read -/
theorem GM.lookup (h : GM w B base F R) (ht : okT t) : ∃ v, (Instr.lookup 73 (.map (some B)) (triV t) false).run Tryz.prog w = .ok v w ∧ w.ownsRow base 3 1 v (F t).length ((F t).map (.int .i64)) := by
  obtain ⟨es, clock, e1, e2, e3, e4, e5⟩ := h.ex
  obtain ⟨l, hl⟩ := keyOf_tri ht
  rcases law3.find w hl es.toList (keys_of e3) with ⟨f1, f2⟩ | ⟨j, e, f1, f2, f3⟩
  · refine ⟨.slice none 0 0, ?_, ?_⟩
    · simp [Instr.lookup, run_underlying Tryz.underlying73, MapKept.run_getObj_map e1, law3.check w _ hl, f1, zeroI, Result.andThen]
    · rw [e4 t ht f2]; exact World.ownsRow_nil _ _ _ _
  · obtain ⟨s, a1, a2, a3, -⟩ := e3 e (List.mem_of_getElem? f2)
    have : s = t := triV_inj (by rw [← a2, f3])
    subst this
    refine ⟨e.val, ?_, a3⟩
    simp [Instr.lookup, run_underlying Tryz.underlying73, MapKept.run_getObj_map e1, law3.check w _ hl, f1, Result.andThen]
/-- what a store at the key t leaves -/
def upd (F : T3 → List Int) (t : T3) (zs : List Int) : T3 → List Int := fun s => if s = t then zs else F s
/-- the way back behind 'm[k] = append(m[k], ..)' 's entry -/
def Back (w1 : World) (B base : Nat) (F : T3 → List Int) (R : Nat → Prop) (t : T3) (v : Value) (st : Nat) : Prop :=
  ∀ (w2 : World) (v' : Value) (zs : List Int), w1.grownBy w2 v.ownBlock → w2.ownsRow base 3 1 v' zs.length (zs.map (.int .i64)) → (v'.ownBlock = v.ownBlock ∨ ∀ b, v'.ownBlock = some b → w1.heap.size ≤ b) →
    ∃ w3, (Instr.entryStore 73 (.map (some B)) (goInt st) v').run Tryz.prog w2 = .ok () w3 ∧ w2.grownBy w3 (some B) ∧ GM w3 B base (upd F t zs) (fun b => R b ∨ v'.ownBlock = some b)
/-- the entries but that of t, behind it -/
theorem back_of {w3 : World} {es es' : Array MapEntry} {clock' : Nat} {v v' : Value} {zs : List Int} (h : GM w B base F R) (ht : okT t) (hsz : w1.heap.size = w.heap.size) (h1 : w.grownBy w1 (some B)) (h2 : w1.grownBy w2 v.ownBlock) (h3 : w2.grownBy w3 (some B))
    (hv : v.ownBlock ≠ some B) (hvR : ∀ b, v.ownBlock = some b → R b)
    (hown : w2.ownsRow base 3 1 v' zs.length (zs.map (.int .i64))) (hloc : v'.ownBlock = v.ownBlock ∨ ∀ b, v'.ownBlock = some b → w1.heap.size ≤ b)
    (e3 : ∀ x ∈ es.toList, ∃ t, okT t ∧ x.key = triV t ∧ w.ownsRow base 3 1 x.val (F t).length ((F t).map (.int .i64)) ∧ ∀ b, x.val.ownBlock = some b → R b)
    (e4 : ∀ t, okT t → (∀ x ∈ es.toList, x.key ≠ triV t) → F t = [])
    (e5 : ∀ x ∈ es.toList, ∀ y ∈ es.toList, x.key ≠ y.key → x.val.ownBlock = none ∨ x.val.ownBlock ≠ y.val.ownBlock)
    (e6 : ∀ x ∈ es.toList, x.key ≠ triV t → x.val.ownBlock = none ∨ x.val.ownBlock ≠ v.ownBlock)
    (hb : w3.heap[B]? = some (.map es' clock')) (hst : MapKept.Stamped es' clock')
    (hmem : ∀ x ∈ es'.toList, (x.key = triV t ∧ x.val = v') ∨ (x ∈ es.toList ∧ x.key ≠ triV t)) (hmem2 : ∀ x ∈ es.toList, x.key ≠ triV t → x ∈ es'.toList) (hkey : ∃ x ∈ es'.toList, x.key = triV t) :
    GM w3 B base (upd F t zs) (fun b => R b ∨ v'.ownBlock = some b) := by
  have hlt := h.lt
  have hhi := h.hi
  have hown3 : w3.ownsRow base 3 1 v' zs.length (zs.map (.int .i64)) := own_frame hown (fun g hg => h3.block g (hown.lt g hg).2 (fun e => by injection e with e; have := (hown.lt g hg).1; omega))
  have hs3 : w.heap.size ≤ w3.heap.size := Nat.le_trans (Nat.le_trans h1.size h2.size) h3.size
  refine ⟨h.lt, Nat.le_trans hhi hs3, fun b hr => ?_, es', clock', hb, hst, fun x hx => ?_, fun s hs hx => ?_, fun x hx y hy hne => ?_⟩
  · rcases hr with hr | hr
    · exact ⟨(h.rlo b hr).1, Nat.lt_of_lt_of_le (h.rlo b hr).2 hs3⟩
    · exact hown3.lt b hr
  · rcases hmem x hx with ⟨k1, k2⟩ | ⟨k1, k2⟩
    · refine ⟨t, ht, k1, ?_, fun b hb => .inr (by rw [← k2]; exact hb)⟩
      unfold upd
      rw [if_pos rfl, k2]; exact hown3
    · obtain ⟨s, a1, a2, a3, a4⟩ := e3 x k1
      refine ⟨s, a1, a2, ?_, fun b hb => .inl (a4 b hb)⟩
      have hne : s ≠ t := fun e => k2 (by rw [a2, e])
      unfold upd
      rw [if_neg hne]
      refine own_frame a3 (fun g hg => ?_)
      have hg1 := h.rlo g (a4 g hg)
      have hgB : some g ≠ some B := fun e => by injection e with e; omega
      have hgv : some g ≠ v.ownBlock := fun e => by
        rcases e6 x k1 k2 with h0 | h0
        · rw [hg] at h0; cases h0
        · exact h0 (by rw [hg]; exact e)
      have b1 := h1.block g hg1.2 hgB
      have b2 := h2.block g (by omega) hgv
      have b3 := h3.block g (Nat.lt_of_lt_of_le (by omega) h2.size) hgB
      rw [b3, b2, b1]
  · obtain ⟨x0, m1, m2⟩ := hkey
    have hne : s ≠ t := fun e => hx x0 m1 (by rw [m2, e])
    unfold upd
    rw [if_neg hne]
    refine e4 s hs (fun x hx2 => ?_)
    by_cases hk : x.key = triV t
    · rw [hk]; exact fun e => hne (triV_inj e.symm)
    · exact hx x (hmem2 x hx2 hk)
  · have old : ∀ x ∈ es.toList, x.key ≠ triV t → x.val.ownBlock = none ∨ x.val.ownBlock ≠ v'.ownBlock := fun x hx hk => by
      rcases hloc with e | e
      · rw [e]; exact e6 x hx hk
      · cases hxo : x.val.ownBlock with
        | none => exact .inl rfl
        | some g =>
          right
          intro e2
          obtain ⟨s, -, -, -, a4⟩ := e3 x hx
          have := h.rlo g (a4 g hxo)
          have := e g e2.symm
          omega
    rcases hmem x hx with ⟨k1, k2⟩ | ⟨k1, k2⟩ <;> rcases hmem y hy with ⟨l1, l2⟩ | ⟨l1, l2⟩
    · exact absurd (by rw [k1, l1]) hne
    · rw [k2]
      rcases old y l1 l2 with e | e
      · cases hv' : v'.ownBlock with
        | none => exact .inl rfl
        | some g => right; rw [e]; simp
      · exact .inr (fun e2 => e e2.symm)
    · rw [l2]; exact old x k1 k2
    · exact e5 x k1 y l1 hne
theorem GM.entry (h : GM w B base F R) (ht : okT t) : ∃ (v : Value) (st : Nat) (w1 : World), (Instr.mapEntry 73 (.map (some B)) (triV t)).run Tryz.prog w = .ok (.tuple #[v, goInt st]) w1 ∧ w.grownBy w1 (some B) ∧ w1.heap.size = w.heap.size ∧
    w.ownsRow base 3 1 v (F t).length ((F t).map (.int .i64)) ∧ w1.ownsRow base 3 1 v (F t).length ((F t).map (.int .i64)) ∧ (∀ b, v.ownBlock = some b → R b) ∧ Back w1 B base F R t v st := by
  obtain ⟨es, clock, e1, e2, e3, e4, e5⟩ := h.ex
  obtain ⟨l, hl⟩ := keyOf_tri ht
  have hlt := h.lt
  have grown : ∀ (u : World) (o : Obj), u.heap[B]? = some o → ∀ es1 c1, u.grownBy (setBlock u B (.map es1 c1)) (some B) := fun u o hu es1 c1 =>
    ⟨rfl, rfl, rfl, by simp [setBlock], fun i _ hi => by simp only [setBlock]; rw [Array.getElem?_setIfInBounds_ne (fun e => hi (by rw [e]))]⟩
  rcases law3.find w hl es.toList (keys_of e3) with ⟨f1, f2⟩ | ⟨j, e0, f1, f2, f3⟩
  · have hF := e4 t ht f2
    refine ⟨.slice none 0 0, clock, setBlock w B (.map (es.push ⟨triV t, .slice none 0 0, clock⟩) (clock + 1)), ?_, grown w _ e1 _ _, by simp [setBlock], by rw [hF]; exact World.ownsRow_nil _ _ _ _, by rw [hF]; exact World.ownsRow_nil _ _ _ _, (fun b hb => by cases hb), fun w2 v' zs g2 hown hloc => ?_⟩
    · simp [Instr.mapEntry, run_underlying Tryz.underlying73, MapKept.run_getObj_map e1, law3.check w false hl, f1, zeroI, MapKept.run_setObj_map _ e1, Result.andThen, setBlock]
    · have hB1 : (setBlock w B (.map (es.push ⟨triV t, .slice none 0 0, clock⟩) (clock + 1))).heap[B]? = some (.map (es.push ⟨triV t, .slice none 0 0, clock⟩) (clock + 1)) := heap_setBlock_same e1 _
      have hB2 : w2.heap[B]? = some (.map (es.push ⟨triV t, .slice none 0 0, clock⟩) (clock + 1)) := (g2.block B (Array.getElem?_eq_some_iff.1 hB1).1 (by simp [Value.ownBlock])).trans hB1
      have hidx : (es.push ⟨triV t, .slice none 0 0, clock⟩).findIdx? (fun e => ((e.born : Nat) : Int) == ((clock : Nat) : Int)) = some es.size := by
        rw [WideElems.findIdx_arr]
        exact WideElems.findIdx_born (l := (es.push ⟨triV t, .slice none 0 0, clock⟩).toList) (j := es.size) (e0 := ⟨triV t, .slice none 0 0, clock⟩) (by
          simp only [Array.toList_push, List.map_append, List.map_cons, List.map_nil]
          refine List.nodup_append.2 ⟨e2.2.1, by simp, fun a ha c hc e1 => ?_⟩
          simp only [List.mem_singleton] at hc
          obtain ⟨x, hx, rfl⟩ := List.mem_map.1 ha
          have := e2.1 x hx
          omega) (by simp)
      have hmod : (es.push ⟨triV t, .slice none 0 0, clock⟩).modify es.size (fun e => { e with val := v' }) = es.push ⟨triV t, v', clock⟩ := by
        apply Array.ext'
        rw [Array.toList_modify, Array.toList_push, Array.toList_push, ← Array.length_toList, WideElems.modify_last]
      refine ⟨setBlock w2 B (.map (es.push ⟨triV t, v', clock⟩) (clock + 1)), ?_, grown w2 _ hB2 _ _, ?_⟩
      · simp [Instr.entryStore, MapKept.run_getObj_map hB2, asInt, asIntOf, goInt, hidx, hmod, MapKept.run_setObj_map _ hB2, Result.andThen, setBlock]
      · refine back_of h ht (by simp [setBlock]) (grown w _ e1 _ _) g2 (grown w2 _ hB2 _ _) (by simp [Value.ownBlock]) (fun b hb => by cases hb) hown hloc e3 e4 e5 (fun x hx hk => ?_) (heap_setBlock_same hB2 _) (MapKept.stamped_push e2 f2) (fun x hx => ?_) (fun x hx hk => by simp [hx]) ⟨⟨triV t, v', clock⟩, by simp, rfl⟩
        · cases hxo : x.val.ownBlock with
          | none => exact .inl rfl
          | some g => right; simp [Value.ownBlock]
        · rw [Array.toList_push, List.mem_append, List.mem_singleton] at hx
          rcases hx with hx | rfl
          · exact .inr ⟨hx, f2 x hx⟩
          · exact .inl ⟨rfl, rfl⟩
  · obtain ⟨s, a1, a2, a3, a4⟩ := e3 e0 (List.mem_of_getElem? f2)
    have : s = t := triV_inj (by rw [← a2, f3])
    subst this
    have hj : es[j]? = some e0 := by simpa using f2
    have hsame : es.modify j (fun e => { e with key := triV s }) = es := by
      apply Array.ext'
      rw [Array.toList_modify, modify_eq_set _ _ _ _ f2]
      have : ({ e0 with key := triV s } : MapEntry) = e0 := by rw [← f3]
      rw [this]
      exact WideElems.set_self _ _ _ f2
    have hvB : e0.val.ownBlock ≠ some B := fun e => by have := h.rlo B (a4 B e); omega
    refine ⟨e0.val, e0.born, setBlock w B (.map es clock), ?_, grown w _ e1 _ _, by simp [setBlock], a3, own_frame a3 (fun g hg => heap_setBlock_other e1 _ (fun e => hvB (by rw [hg, e]))), a4, fun w2 v' zs g2 hown hloc => ?_⟩
    · simp [Instr.mapEntry, run_underlying Tryz.underlying73, MapKept.run_getObj_map e1, law3.check w false hl, f1, hj, f3, law3.stays w hl, hsame, MapKept.run_setObj_map _ e1, Result.andThen, setBlock]
    · have hB1 : (setBlock w B (.map es clock)).heap[B]? = some (.map es clock) := heap_setBlock_same e1 _
      have hB2 : w2.heap[B]? = some (.map es clock) := (g2.block B (Array.getElem?_eq_some_iff.1 hB1).1 (fun e => hvB e.symm)).trans hB1
      have hidx : es.findIdx? (fun e => ((e.born : Nat) : Int) == ((e0.born : Nat) : Int)) = some j := by
        rw [WideElems.findIdx_arr]
        exact WideElems.findIdx_born e2.2.1 f2
      have hset : (es.modify j (fun e => { e with val := v' })).toList = es.toList.set j { e0 with val := v' } := by
        rw [Array.toList_modify, modify_eq_set _ _ _ _ f2]
      have hjl : j < es.toList.length := by
        rcases Nat.lt_or_ge j es.toList.length with h1 | h1
        · exact h1
        · rw [List.getElem?_eq_none h1] at f2; cases f2
      refine ⟨setBlock w2 B (.map (es.modify j (fun e => { e with val := v' })) clock), ?_, grown w2 _ hB2 _ _, ?_⟩
      · simp [Instr.entryStore, MapKept.run_getObj_map hB2, asInt, asIntOf, goInt, hidx, MapKept.run_setObj_map _ hB2, Result.andThen, setBlock]
      · have hnd : es.toList.Pairwise (fun x y => x.key ≠ y.key) := ((MapKept.stamped_iff _ _).1 e2).2.2
        have uniq : ∀ (i : Nat) (x : MapEntry), es.toList[i]? = some x → x.key = triV s → i = j := fun i x hx hk => by
          rcases Nat.lt_trichotomy i j with h1 | h1 | h1
          · exfalso
            have hi := (List.getElem?_eq_some_iff.1 hx)
            have hj2 := (List.getElem?_eq_some_iff.1 f2)
            obtain ⟨i1, i2⟩ := hi
            obtain ⟨j1, j2⟩ := hj2
            have := (List.pairwise_iff_getElem.1 hnd) i j i1 j1 h1
            rw [i2, j2, hk, f3] at this
            exact this rfl
          · exact h1
          · exfalso
            obtain ⟨i1, i2⟩ := List.getElem?_eq_some_iff.1 hx
            obtain ⟨j1, j2⟩ := List.getElem?_eq_some_iff.1 f2
            have := (List.pairwise_iff_getElem.1 hnd) j i j1 i1 h1
            rw [i2, j2, hk, f3] at this
            exact this rfl
        refine back_of h ht (by simp [setBlock]) (grown w _ e1 _ _) g2 (grown w2 _ hB2 _ _) hvB a4 hown hloc e3 e4 e5 (fun x hx hk => e5 x hx e0 (List.mem_of_getElem? f2) (by rw [f3]; exact hk)) (heap_setBlock_same hB2 _) (MapKept.stamped_modify e2 j _ (fun e _ => rfl) (fun e _ _ => rfl)) (fun x hx => ?_) (fun x hx hk => ?_) ⟨{ e0 with val := v' }, ?_, f3⟩
        · rw [hset] at hx
          obtain ⟨i, hi⟩ := List.getElem?_of_mem hx
          rw [List.getElem?_set] at hi
          by_cases e : j = i
          · rw [if_pos e, if_pos (by omega)] at hi
            injection hi with hi
            exact .inl ⟨by rw [← hi]; exact f3, by rw [← hi]⟩
          · rw [if_neg e] at hi
            exact .inr ⟨List.mem_of_getElem? hi, fun hk => e (uniq i x hi hk).symm⟩
        · rw [hset]
          obtain ⟨i, hi⟩ := List.getElem?_of_mem hx
          refine List.mem_of_getElem? (i := i) ?_
          rw [List.getElem?_set, if_neg (fun e => ?_)]
          · exact hi
          · rw [← e, f2] at hi
            injection hi with hi
            exact hk (by rw [← hi]; exact f3)
        · rw [hset]
          refine List.mem_of_getElem? (i := j) ?_
          rw [List.getElem?_set, if_pos rfl, if_pos hjl]
end
end Go.Proofs.YtmgbjgjlddifaaaGreat.MapG
set_option linter.unusedVariables false
set_option linter.unusedSimpArgs false
namespace Go.Proofs.YtmgbjgjlddifaaaGreat.Def
open Go.RowKit K MapG Wrt

def plF (b : List Int) (i : Nat) (t : T3) : List Int := (places b i t).map (fun p : Nat => (p : Int))
theorem places_succ (b : List Int) (i : Nat) (t : T3) : places b (i+1) t = places b i t ++ if i + 2 < b.length ∧ tri b i = t then [i] else [] := by
  unfold places
  rw [List.range_succ, List.filter_append]
  congr 1
  by_cases h1 : i + 2 < b.length
  · by_cases h2 : tri b i = t
    · rw [if_pos (And.intro h1 h2)]; simp [h1, h2]
    · rw [if_neg (fun h : _ ∧ _ => h2 h.2)]; simp [h2]
  · rw [if_neg (fun h : _ ∧ _ => h1 h.1)]; simp [h1]
theorem plF_stay {b : List Int} {i : Nat} (h : ¬ i + 2 < b.length) : plF b (i+1) = plF b i := by
  funext t
  unfold plF
  rw [places_succ, if_neg (fun e => h e.1), List.append_nil]
theorem plF_upd {b : List Int} {i : Nat} (h : i + 2 < b.length) : plF b (i+1) = upd (plF b i) (tri b i) (plF b i (tri b i) ++ [(i : Int)]) := by
  funext t
  unfold upd plF
  rw [places_succ]
  by_cases e : t = tri b i
  · rw [if_pos e, if_pos ⟨h, e.symm⟩, e]; simp
  · rw [if_neg e, if_neg (fun h => e h.2.symm)]; simp
theorem places_len (b : List Int) (i : Nat) (t : T3) : (plF b i t).length ≤ i := by
  unfold plF places
  rw [List.length_map]
  refine Nat.le_trans (List.length_filter_le _ _) ?_
  simp
theorem tri_ok {b : List Int} (hwf : ∀ x ∈ b, 0 ≤ x ∧ x < 256) {i : Nat} (h : i + 2 < b.length) : okT (tri b i) := by
  have g : ∀ j, j < b.length → 0 ≤ b.getD j 0 ∧ b.getD j 0 < 256 := fun j hj => by
    rw [List.getD_eq_getElem?_getD, List.getElem?_eq_getElem hj]; exact hwf _ (List.getElem_mem hj)
  exact ⟨g i (by omega), g (i+1) (by omega), g (i+2) (by omega)⟩
theorem infoI : (Tryz.prog.info? 3).map (fun i => (i.zero, i.size, i.bytes)) = some (some (.int .i64 0), 1, 8) := by kernel_rfl
def NotePost (w : World) (B base : Nat) (b : List Int) (i : Nat) (R : Nat → Prop) (e : Ending) (w' : World) : Prop :=
  e = .returned (.tuple #[]) ∧ ∃ R', GM w' B base (plF b (i+1)) R' ∧ Chg w w' (fun x => x = B ∨ R x) ∧ ∀ x, R' x → R x ∨ w.heap.size ≤ x
set_option maxRecDepth 20000 in
set_option maxHeartbeats 2000000 in
theorem note_any {A : Option Addr} {n c B base Bb Bp i : Nat} {b : List Int} {R : Nat → Prop} (w : World) (HA : SI w .u8 A n b) (hc : n ≤ c) (hwf : ∀ x ∈ b, 0 ≤ x ∧ x < 256) (hb0 : w.cell? ⟨Bb, 0, none⟩ = some (.slice A n c)) (hp0 : w.cell? ⟨Bp, 0, none⟩ = some (.map (some B)))
    (HG : GM w B base (plF b i) R) (hi : i < n) (hn : n ≤ 2000000) :
    Calls Tryz.prog 35 #[.int .i64 i, .pointer (some ⟨Bb, 0, none⟩), .pointer (some ⟨Bp, 0, none⟩)] w (NotePost w B base b i R) := by
  have HGG := Lib.hid HG
  have hlen := HA.len
  clear HG
  by_cases h2 : i + 2 < n
  · have hd : decide ((i : Int) + 2 < (n : Int)) = true := decide_eq_true (by omega)
    obtain ⟨bb, off, x0, rfl, c0, e0, hlt⟩ := HA.cells (i := i) (by omega)
    obtain ⟨bb1, off1, x1, q1, c1, e1, -⟩ := HA.cells (i := i + 1) (by omega)
    obtain ⟨bb2, off2, x2, q2, c2, e2, -⟩ := HA.cells (i := i + 2) (by omega)
    injection q1 with q1; injection q1 with q1 q1'
    injection q2 with q2; injection q2 with q2 q2'
    subst q1 q1' q2 q2'
    have htri : tri b i = (x0, x1, x2) := by unfold tri; rw [getD_of e0.out, getD_of e1.out, getD_of e2.out]
    rw [← Nat.add_assoc] at c1 c2
    have hBp : Bp < w.heap.size := World.block_lt_of_cell? w _ hp0
    have hsp : ∀ (a : Addr) (c : Nat) (w : World), (Instr.arrayAt 74 (.slice (some a) 3 c)).run Tryz.prog w = .ok (.pointer (some a)) w := fun _ _ _ => by kernel_rfl
    go_enter Tryz.func35, Tryz.ntmps35
    go_wp2_with fail
    have hbw : Below w.heap.size w ((w.alloc (.cells #[.int .u8 x0, .int .u8 x1, .int .u8 x2] 74)).alloc (.cells #[.int .i64 (i : Int)] 3)) := ((Below.refl _ _).alloc (Nat.le_refl _) _).alloc (by simp) _
    have hone : ((w.alloc (.cells #[.int .u8 x0, .int .u8 x1, .int .u8 x2] 74)).alloc (.cells #[.int .i64 (i : Int)] 3)).cell? ⟨w.heap.size + 1, 0, none⟩ = some (.int .i64 (i : Int)) := by simp
    have hsz : ((w.alloc (.cells #[.int .u8 x0, .int .u8 x1, .int .u8 x2] 74)).alloc (.cells #[.int .i64 (i : Int)] 3)).heap.size = w.heap.size + 2 := by simp
    generalize ((w.alloc (.cells #[.int .u8 x0, .int .u8 x1, .int .u8 x2] 74)).alloc (.cells #[.int .i64 (i : Int)] 3)) = W at hbw hone hsz ⊢
    have hok := tri_ok (b := b) hwf (i := i) (by omega)
    have hpl := places_len b i (tri b i)
    have hup := plF_upd (b := b) (i := i) (by omega)
    obtain ⟨v, st, w1, hrun, hg1, hs1, ho0, ho1, hR, hback⟩ := (HGG.out.below hbw).entry hok
    rw [htri] at hrun
    unfold triV at hrun
    simp only at hrun
    have hone1 : w1.cell? ⟨w.heap.size + 1, 0, none⟩ = some (.int .i64 (i : Int)) := by
      have hB := HGG.out.lt
      have hh := HGG.out.hi
      rw [World.cell?_of_block (hg1.block (w.heap.size + 1) (by omega) (fun e => by injection e with e; omega))]
      exact hone
    have hsl : Hid (Sl w1 (some ⟨w.heap.size + 1, 0, none⟩) [.int .i64 (i : Int)]) := fun j u hu => by
      have hj : j = 0 := by
        rcases Nat.eq_zero_or_pos j with h | h
        · exact h
        · rw [List.getElem?_eq_none (by simp; omega)] at hu; cases hu
      subst hj
      simp at hu
      subst hu
      exact ⟨_, 0, rfl, hone1⟩
    have hbase : base ≤ w1.heap.size := by have := HGG.out.hi; omega
    generalize hzs : plF b i (tri b i) = zs at ho0 ho1 hup hpl
    have HRUN := Lib.hid hrun
    have HO1 := Lib.hid ho1
    have HBK := Lib.hid hback
    have HUP := Lib.hid hup
    have HR1 := Lib.hid hR
    have HG1 := Lib.hid hg1
    rw [HRUN.out]
    clear hrun hp0 hb0 c0 c1 c2 ho1 ho0 hback hup hzs hone hone1 hsp HRUN hR hg1
    go_wp2_with (at_builtin; refine wpList_append_sl _ rfl (.tmp 19) (.tmp 21) _ rfl base 3 1 8 _ Tryz.underlying43 infoI rfl (by omega) v zs.length (zs.map (.int .i64)) rfl HO1.out (some ⟨w.heap.size + 1, 0, none⟩) 1 1 [.int .i64 (i : Int)] rfl rfl hsl.out (by intro u hu; simp at hu; subst hu; rfl) ?k1 ?k2 hbase ?_)
    case k1 => unfold maxLen; omega
    case k2 => omega
    intro v' w2 hown2 hg2 hloc
    have hown3 : w2.ownsRow base 3 1 v' (zs ++ [(i : Int)]).length ((zs ++ [(i : Int)]).map (.int .i64)) := by simpa using hown2
    obtain ⟨w3, hrun3, hg3, hG3⟩ := HBK.out w2 v' (zs ++ [(i : Int)]) hg2 hown3 (by
      rcases hloc with e | e
      · exact .inl e
      · exact .inr (fun b hb => by rw [e] at hb; injection hb with hb; omega))
    rw [← HUP.out] at hG3
    have HG3 := Lib.hid hG3
    have HG2 := Lib.hid hg2
    have HGR3 := Lib.hid hg3
    have HLO := Lib.hid hloc
    have HRUN3 := Lib.hid hrun3
    clear hown2 hown3 hG3 hg2 hg3 hloc hrun3
    have hr3 := HRUN3.out
    unfold goInt at hr3
    have HR3 := Lib.hid hr3
    clear hr3 HRUN3
    go_wp2_with fail
    rw [HR3.out]
    go_wp2
    go_end0
    have hs0 := hbw.size
    have hs2 := HG2.out.size
    refine ⟨rfl, _, HG3.out, ?_, fun x hx => ?_⟩
    · have c1 : Chg w W (fun x => x = B ∨ R x) := Chg.of_below hbw
      have c2 : Chg W w1 (fun x => x = B ∨ R x) := Chg.of_grown HG1.out (fun b e _ => .inl (by injection e with e; exact e.symm))
      have c3 : Chg w1 w2 (fun x => x = B ∨ R x) := Chg.of_grown HG2.out (fun b e _ => .inr (HR1.out b e))
      have c4 : Chg w2 w3 (fun x => x = B ∨ R x) := Chg.of_grown HGR3.out (fun b e _ => .inl (by injection e with e; exact e.symm))
      exact ((c1.trans c2 (fun _ _ h => h)).trans c3 (fun _ _ h => h)).trans c4 (fun _ _ h => h)
    · rcases hx with hx | hx
      · exact .inl hx
      · rcases HLO.out with e | e
        · exact .inl (HR1.out x (by rw [← e]; exact hx))
        · rw [e] at hx
          injection hx with hx
          exact .inr (by omega)
  · have hd : decide ((i : Int) + 2 < (n : Int)) = false := decide_eq_false (by omega)
    have HS := Lib.hid (plF_stay (b := b) (i := i) (by omega))
    go_enter Tryz.func35, Tryz.ntmps35
    go_wp2
    go_end0
    exact ⟨rfl, R, by rw [HS.out]; exact HGG.out, Chg.refl _ _, fun x hx => .inl hx⟩
end Go.Proofs.YtmgbjgjlddifaaaGreat.Def
