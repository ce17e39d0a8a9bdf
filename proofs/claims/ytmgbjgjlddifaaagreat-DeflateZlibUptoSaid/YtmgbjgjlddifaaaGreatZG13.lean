/-
  Texts of this claim, joined by program (InfD, InfE, InfP, DefA, DefS). Walks: the reference's inflate: symbols. UNDER WAY.
-/
import Derived.Test.YtmgbjgjlddifaaaGreatZG12
import Derived.Test.YtmgbjgjlddifaaaGreatZG7
import Derived.Test.YtmgbjgjlddifaaaGreatZG9
import Derived.Test.YtmgbjgjlddifaaaGreatChecked
set_option linter.unusedVariables false
set_option linter.unusedSimpArgs false
namespace Go.Proofs.YtmgbjgjlddifaaaGreat.Inf
open Go.RowKit K Bits Pfx Def Wrt Bak Ref RefR RefT RefX

/-- symbols' memory: the state, the two tables, the result -/
structure SS (w W : World) (tc td : Array Value) (S : Nat → Prop) (A : Option Addr) (n c : Nat) (a : Int) (Ao : Option Addr) (no co : Nat) (most : Int) : Prop where
  chg : Chg w W S
  st : Six W w.heap.size 58 (.slice A n c) (.bool false) (.int .i64 a) (.slice Ao no co) (.int .i64 most) (.int .i64 0)
  tb : W.heap[w.heap.size + 1]? = some (.cells tc 66 (0, 0))
  tb2 : W.heap[w.heap.size + 1 + 1]? = some (.cells td 66 (0, 0))
  rs : Six W (w.heap.size + 1 + 1 + 1) 58 (.slice none 0 0) (.bool false) (.int .i64 0) (.slice none 0 0) (.int .i64 0) (.int .i64 0)
section
variable {w W W2 : World} {tc td : Array Value} {S : Nat → Prop} {A Ao : Option Addr} {n c no co : Nat} {a most : Int}
theorem SS.lt (h : SS w W tc td S A n c a Ao no co most) : w.heap.size + 3 < W.heap.size := h.rs.lt
theorem SS.below (h : SS w W tc td S A n c a Ao no co most) (hb : Below W.heap.size W W2) : SS w W2 tc td S A n c a Ao no co most := by
  have hl := h.lt
  exact ⟨h.chg.trans (Chg.of_below hb) (fun _ _ h => h), h.st.block (hb.block _ (by omega)), (hb.block _ (by omega)).trans h.tb, (hb.block _ (by omega)).trans h.tb2, h.rs.block (hb.block _ (by omega))⟩
theorem SS.store (h : SS w W tc td S A n c a Ao no co most) (a2 : Int) (A2 : Option Addr) (no2 co2 : Nat) :
    ∃ W2, W2 = ((((((W.setCell ⟨w.heap.size, 0, none⟩ (.slice A n c)).setCell ⟨w.heap.size, 1, none⟩ (.bool false)).setCell ⟨w.heap.size, 2, none⟩ (.int .i64 a2)).setCell ⟨w.heap.size, 3, none⟩ (.slice A2 no2 co2)).setCell ⟨w.heap.size, 4, none⟩ (.int .i64 most)).setCell ⟨w.heap.size, 5, none⟩ (.int .i64 0)) ∧ SS w W2 tc td S A n c a2 A2 no2 co2 most ∧ W.grownBy W2 (some w.heap.size) := by
  obtain ⟨W2, e, h1, h2⟩ := h.st.all (.slice A n c) (.bool false) (.int .i64 a2) (.slice A2 no2 co2) (.int .i64 most) (.int .i64 0)
  have hl := h.lt
  refine ⟨W2, e, ⟨⟨h2.os.trans h.chg.os, h2.tape.trans h.chg.tape, h2.output.trans h.chg.output, Nat.le_trans h.chg.size h2.size, fun i hi hn => (h2.block i (Nat.lt_of_lt_of_le hi h.chg.size) (fun e => by injection e with e; omega)).trans (h.chg.block i hi hn)⟩,
    h1, (h2.block _ (by omega) (by simp)).trans h.tb, (h2.block _ (by omega) (by simp; omega)).trans h.tb2, h.rs.block (h2.block _ (by omega) (by simp; omega))⟩, h2⟩
theorem SS.mono {S2 : Nat → Prop} (h : SS w W tc td S A n c a Ao no co most) (hS : ∀ i, S i → S2 i) : SS w W tc td S2 A n c a Ao no co most := ⟨h.chg.mono (fun i _ hi => hS i hi), h.st, h.tb, h.tb2, h.rs⟩
theorem SS.out (h : SS w W tc td S A n c a Ao no co most) (A2 : Option Addr) (no2 co2 : Nat) : SS w (W.setCell ⟨w.heap.size, 3, none⟩ (.slice A2 no2 co2)) tc td S A n c a A2 no2 co2 most := by
  have hl := h.lt
  have hg := set_grown W w.heap.size 3 (.slice A2 no2 co2)
  exact ⟨⟨h.chg.os, h.chg.tape, h.chg.output, Nat.le_trans h.chg.size hg.size, fun i hi hn => (hg.block i (Nat.lt_of_lt_of_le hi h.chg.size) (fun e => by injection e with e; omega)).trans (h.chg.block i hi hn)⟩,
    Six.of_row (h.st.row.set 3 _), (hg.block _ (by omega) (by simp)).trans h.tb, (hg.block _ (by omega) (by simp; omega)).trans h.tb2, h.rs.block (hg.block _ (by omega) (by simp; omega))⟩
theorem SS.drew (h : SS w W tc td S A n c a Ao no co most) : SS w W.drew tc td S A n c a Ao no co most := h.below (Below.refl W.heap.size W).drew
theorem SS.grown {row : Option Nat} (h : SS w W tc td S A n c a Ao no co most) (hg : W.grownBy W2 row) (hr : ∀ b, row = some b → b < w.heap.size → S b) (hr2 : ∀ b, row = some b → b ≠ w.heap.size ∧ b ≠ w.heap.size + 1 ∧ b ≠ w.heap.size + 2 ∧ b ≠ w.heap.size + 3) : SS w W2 tc td S A n c a Ao no co most := by
  have hl := h.lt
  exact ⟨⟨hg.os.trans h.chg.os, hg.tape.trans h.chg.tape, hg.output.trans h.chg.output, Nat.le_trans h.chg.size hg.size, fun i hi hn => (hg.block i (Nat.lt_of_lt_of_le hi h.chg.size) (fun e => hn (hr i e.symm hi))).trans (h.chg.block i hi hn)⟩,
    h.st.block (hg.block _ (by omega) (fun e => (hr2 _ e.symm).1 rfl)), (hg.block _ (by omega) (fun e => (hr2 _ e.symm).2.1 rfl)).trans h.tb, (hg.block _ (by omega) (fun e => (hr2 _ e.symm).2.2.1 rfl)).trans h.tb2, h.rs.block (hg.block _ (by omega) (fun e => (hr2 _ e.symm).2.2.2 rfl))⟩
theorem SS.start (w : World) (tc td : Array Value) (S : Nat → Prop) (A : Option Addr) (n c : Nat) (a : Int) (Ao : Option Addr) (no co : Nat) (most : Int) :
    SS w ((((w.alloc (.cells #[.slice A n c, .bool false, .int .i64 a, .slice Ao no co, .int .i64 most, .int .i64 0] 58)).alloc (.cells tc 66)).alloc (.cells td 66)).alloc (.cells #[.slice none 0 0, .bool false, .int .i64 0, .slice none 0 0, .int .i64 0, .int .i64 0] 58)) tc td S A n c a Ao no co most := by
  have h0 := MS.start w tc S A n c a Ao no co most
  refine ⟨Chg.of_below (((((Below.refl _ _).alloc (Nat.le_refl _) _).alloc (by simp) _).alloc (by simp; omega) _).alloc (by simp; omega) _), ?_, ?_, ?_, ?_⟩
  · exact (Below.heap_alloc _ _ _ (by simp; omega)).trans ((Below.heap_alloc _ _ _ (by simp; omega)).trans (heap_two w _ _ _))
  · have := heap_two (w.alloc (.cells #[.slice A n c, .bool false, .int .i64 a, .slice Ao no co, .int .i64 most, .int .i64 0] 58)) tc 66 (.cells td 66)
    rw [World.size_alloc] at this
    exact (Below.heap_alloc _ _ _ (by simp)).trans this
  · have := heap_two ((w.alloc (.cells #[.slice A n c, .bool false, .int .i64 a, .slice Ao no co, .int .i64 most, .int .i64 0] 58)).alloc (.cells tc 66)) td 66 (.cells #[.slice none 0 0, .bool false, .int .i64 0, .slice none 0 0, .int .i64 0, .int .i64 0] 58)
    rwa [World.size_alloc, World.size_alloc] at this
  · have := heap_alloc_new (((w.alloc (.cells #[.slice A n c, .bool false, .int .i64 a, .slice Ao no co, .int .i64 most, .int .i64 0] 58)).alloc (.cells tc 66)).alloc (.cells td 66)) (.cells #[.slice none 0 0, .bool false, .int .i64 0, .slice none 0 0, .int .i64 0, .int .i64 0] 58)
    rwa [World.size_alloc, World.size_alloc, World.size_alloc] at this
end
theorem SS.ne {w W : World} {tc td : Array Value} {S : Nat → Prop} {A Ao : Option Addr} {n c no co : Nat} {a most : Int} (h : SS w W tc td S A n c a Ao no co most) {base m cap : Nat} {g : Nat} {xs : List Value} (ho : W.ownsRow base 5 1 (.slice (some ⟨g, 0, none⟩) m cap) m xs) :
    g ≠ w.heap.size ∧ g ≠ w.heap.size + 1 ∧ g ≠ w.heap.size + 2 ∧ g ≠ w.heap.size + 3 := by
  obtain ⟨cur, hc⟩ : ∃ cur, W.heap[g]? = some (.cells cur 5 (0, 0)) := by
    rcases ho.2 with ⟨hv, -⟩ | ⟨g', cap', cur, hv, -, h2, -⟩
    · cases hv
    · injection hv with hv
      injection hv with hv
      injection hv with hv
      subst hv
      exact ⟨cur, h2⟩
  refine ⟨fun e => ?_, fun e => ?_, fun e => ?_, fun e => ?_⟩
  · subst e
    have := hc.symm.trans h.st
    injection this with this
    injection this with _ h2
    exact absurd h2 (by decide)
  · subst e
    have := hc.symm.trans h.tb
    injection this with this
    injection this with _ h2
    exact absurd h2 (by decide)
  · subst e
    have := hc.symm.trans h.tb2
    injection this with this
    injection this with _ h2
    exact absurd h2 (by decide)
  · subst e
    have := hc.symm.trans h.rs
    injection this with this
    injection this with _ h2
    exact absurd h2 (by decide)
theorem OutP.trans {w w1 w2 : World} {Ao A1 A2 : Option Addr} {base c1 c2 : Nat} {o1 o2 : List Int} (h1 : OutP w Ao base o1 A1 c1 w1) (h2 : OutP w1 A1 base o2 A2 c2 w2) : OutP w Ao base o2 A2 c2 w2 := by
  have hz := h1.chg.size
  refine ⟨h2.own, h1.chg.trans h2.chg (fun i hi e => ?_), ?_⟩
  · rcases h1.loc with q | q
    · rw [← q]; exact e
    · exact absurd (q i e) (by omega)
  · rcases h2.loc with q | q
    · rw [q]; exact h1.loc
    · exact .inr (fun b e => by have := q b e; omega)
theorem grow_len (o : List Int) (p : Pc) : (grow o p).length = o.length + (if p.n = 0 then 1 else p.n) := by
  unfold grow
  split
  · simp
  · exact copyN_len _ _ _
theorem expand_len : ∀ (ps : List Pc) (o : List Int), o.length ≤ (expand o ps).length
  | [], o => Nat.le_refl _
  | p :: ps, o => by
    have h1 := expand_len ps (grow o p)
    have h2 := grow_len o p
    show _ ≤ (expand (grow o p) ps).length
    omega
theorem pieceBits_copy (L D : List Int) (p : Pc) (h : p.n ≠ 0) : pieceBits L D p = codeBits L (lengthM p.n).1 ++ restBits D p := by
  unfold pieceBits restBits
  simp [h]
theorem pieceBits_lit (L D : List Int) (p : Pc) (h : p.n = 0) : pieceBits L D p = codeBits L p.b := by
  unfold pieceBits
  simp [h]
theorem bodyBits_cons (L D : List Int) (p : Pc) (ps : List Pc) : bodyBits L D (p :: ps) = pieceBits L D p ++ bodyBits L D ps := by
  simp [bodyBits]
/-- what stands at the head of symbols' loop: o is written, the pieces rs are still to be read -/
structure HeadP (L D l : List Int) (base : Nat) (out : List Int) (ps : List Pc) (a : Nat) (w wx : World) (tc td : Array Value) (A Ao : Option Addr) (c : Nat) (most : Int) (o : List Int) (rs : List Pc) (a1 : Nat) (A1 : Option Addr) (c1 : Nat) : Prop where
  mem : SS w wx tc td (fun x => Wrt.own Ao = some x) A l.length c (a1 : Int) A1 o.length c1 most
  outp : OutP w Ao base o A1 c1 wx
  ok : OkPs o rs
  ex : expand o rs = expand out ps
  use : ∀ p ∈ rs, UseP L D p
  bits : BitsAt l a1 (bodyBits L D rs)
  at_ : a1 + (bodyBits L D rs).length = a + (bodyBits L D ps).length
theorem ownBlock_eq (A1 : Option Addr) (n c : Nat) : (Value.slice A1 n c).ownBlock = Wrt.own A1 := by cases A1 <;> rfl
theorem OutP.form {w w' : World} {Ao A1 : Option Addr} {base c1 : Nat} {o : List Int} (h : OutP w Ao base o A1 c1 w') : ∀ b, Wrt.own A1 = some b → A1 = some ⟨b, 0, none⟩ := by
  intro b hb
  rcases h.own.2 with ⟨hv, -⟩ | ⟨g, cap, cur, hv, -⟩
  · injection hv with hv; rw [hv] at hb; cases hb
  · injection hv with hv; rw [hv] at hb ⊢; cases hb; rfl
theorem push_step {w wr w5 : World} {tc td : Array Value} {A Ao A1 : Option Addr} {n c c1 base : Nat} {a most x : Int} {o out2 : List Int} {ob : Obj} (HO : OutP w Ao base o A1 c1 wr) (hbw : base ≤ w.heap.size)
    (hM : SS w wr tc td (fun x => Wrt.own Ao = some x) A n c a A1 o.length c1 most)
    {v' : Value} (hown5 : w5.ownsRow base 5 1 v' (o.length + 1) (o.map (.int .u8) ++ [.int .u8 x])) (hg5 : (wr.alloc ob).grownBy w5 (Value.slice A1 o.length c1).ownBlock) (hat5 : v'.ownBlock = (Value.slice A1 o.length c1).ownBlock ∨ v'.ownBlock = some (wr.heap.size + 1)) :
    ∃ gg cap, v' = .slice (some ⟨gg, 0, none⟩) (o.length + 1) cap ∧ SS w w5 tc td (fun x => Wrt.own Ao = some x) A n c a A1 o.length c1 most ∧ (out2 = o ++ [x] → ∃ (A2 : Option Addr) (c2 : Nat), SS w (w5.setCell ⟨w.heap.size, 3, none⟩ (.slice (some ⟨gg, 0, none⟩) (o.length + 1) cap)) tc td (fun x => Wrt.own Ao = some x) A n c a A2 out2.length c2 most ∧ OutP w Ao base out2 A2 c2 (w5.setCell ⟨w.heap.size, 3, none⟩ (.slice (some ⟨gg, 0, none⟩) (o.length + 1) cap))) := by
  obtain ⟨gg, cap, rfl⟩ : ∃ gg cap, v' = .slice (some ⟨gg, 0, none⟩) (o.length + 1) cap := by
    rcases hown5.2 with ⟨hv, h1⟩ | ⟨g, cap, cur, hv, -⟩
    · omega
    · exact ⟨g, cap, hv⟩
  refine ⟨gg, cap, rfl, ?_⟩
  rw [ownBlock_eq] at hg5
  rw [ownBlock_eq, ownBlock_eq] at hat5
  have hat5 : Wrt.own A1 = some gg ∨ gg = wr.heap.size + 1 := by
    rcases hat5 with q | q
    · exact .inl (q.symm.trans rfl)
    · injection q with q; exact .inr q
  have hr : ∀ b, Wrt.own A1 = some b → b < w.heap.size → Wrt.own Ao = some b := fun b e hlt => by
    rcases HO.loc with q | q
    · rw [← q]; exact e
    · exact absurd (q b e) (by omega)
  have hM5 : SS w w5 tc td (fun x => Wrt.own Ao = some x) A n c a A1 o.length c1 most := SS.grown (hM.below ((Below.refl _ _).alloc (Nat.le_refl _) _)) hg5 hr (fun b e => by
    have hf := HO.form b e
    have ho := HO.own
    rw [hf] at ho
    exact hM.ne ho)
  have hn := (hM5.ne hown5).1
  refine ⟨hM5, fun hout => ?_⟩
  subst hout
  have hl : (o ++ [x]).length = o.length + 1 := by simp
  have hm : (o ++ [x]).map (Value.int .u8) = o.map (.int .u8) ++ [.int .u8 x] := by simp
  have hgs := set_grown w5 w.heap.size 3 (.slice (some ⟨gg, 0, none⟩) (o.length + 1) cap)
  have hsz := HO.chg.size
  refine ⟨some ⟨gg, 0, none⟩, cap, ?_, ?_, ?_, ?_⟩
  · rw [hl]; exact hM5.out _ _ _
  · rw [hl, hm]
    exact own_frame hown5 (fun b e => hgs.block b (hown5.lt b e).2 (fun q => by cases e; injection q with q; exact hn q))
  · exact Chg.grow2 (Chg.grow2 (HO.chg.trans (Chg.of_below (S := fun x => Wrt.own Ao = some x) ((Below.refl _ _).alloc (Nat.le_refl _) _)) (fun _ _ h => h)) hg5 hr) hgs (fun b e hlt => by injection e with e; omega)
  · rcases hat5 with q | q
    · rcases HO.loc with z | z
      · exact .inl (by rw [← z, q]; rfl)
      · exact .inr (fun b e => z b (by rw [q]; exact e))
    · exact .inr (fun b e => by cases e; show w.heap.size ≤ gg; omega)
theorem head_next {L D l : List Int} {base : Nat} {out : List Int} {ps : List Pc} {a : Nat} {w wx : World} {tc td : Array Value} {A Ao : Option Addr} {c : Nat} {most : Int} {o : List Int} {p : Pc} {rs : List Pc} {a1 a2 : Nat} {A1 : Option Addr} {c1 : Nat}
    (hex : expand o (p :: rs) = expand out ps) (hok : OkPs o (p :: rs)) (hus : ∀ q ∈ p :: rs, UseP L D q) (hat : a1 + (bodyBits L D (p :: rs)).length = a + (bodyBits L D ps).length) (hbt : BitsAt l a1 (bodyBits L D (p :: rs)))
    (ha2 : a2 = a1 + (pieceBits L D p).length) (hm : SS w wx tc td (fun x => Wrt.own Ao = some x) A l.length c (a2 : Int) A1 (grow o p).length c1 most) (ho : OutP w Ao base (grow o p) A1 c1 wx) :
    HeadP L D l base out ps a w wx tc td A Ao c most (grow o p) rs a2 A1 c1 := by
  subst ha2
  rw [bodyBits_cons] at hat hbt
  rw [List.length_append] at hat
  exact ⟨hm, ho, hok.2, hex, fun q hq => hus q (List.mem_cons_of_mem _ hq), hbt.right, by omega⟩
theorem SS.call {w W w7 : World} {tc td : Array Value} {A Ao A1 A7 : Option Addr} {n c c1 c7 base : Nat} {a most : Int} {o o7 : List Int} (hM : SS w W tc td (fun x => Wrt.own Ao = some x) A n c a A1 o.length c1 most) (HO : OutP w Ao base o A1 c1 W) (h7 : OutP W A1 base o7 A7 c7 w7) :
    SS w w7 tc td (fun x => Wrt.own Ao = some x) A n c a A1 o.length c1 most :=
  SS.grown hM (row := Wrt.own A1) ⟨h7.chg.os, h7.chg.tape, h7.chg.output, h7.chg.size, fun i hi hn => h7.chg.block i hi (fun e => hn e.symm)⟩ (fun b e hlt => by
    rcases HO.loc with q | q
    · rw [← q]; exact e
    · exact absurd (q b e) (by omega)) (fun b e => by
    have hf := HO.form b e
    have ho := HO.own
    rw [hf] at ho
    exact hM.ne ho)
theorem OutP.st {w W W8 : World} {tc td : Array Value} {S : Nat → Prop} {A Ao A1 : Option Addr} {n c c1 base no co : Nat} {A' : Option Addr} {a most : Int} {o : List Int} (h : OutP w Ao base o A1 c1 W) (hM : SS w W tc td S A n c a A' no co most) (hg : W.grownBy W8 (some w.heap.size)) : OutP w Ao base o A1 c1 W8 := by
  refine ⟨own_frame h.own (fun g e => hg.block g (h.own.lt g e).2 (fun q => ?_)), Chg.grow2 h.chg hg (fun b e hlt => by injection e with e; omega), h.loc⟩
  injection q with q
  rw [ownBlock_eq] at e
  have hf := h.form g e
  have ho := h.own
  rw [hf] at ho
  exact (hM.ne ho).1 q
theorem OutP.below {w W W8 : World} {Ao A1 : Option Addr} {c1 base : Nat} {o : List Int} (h : OutP w Ao base o A1 c1 W) (hb : Below W.heap.size W W8) : OutP w Ao base o A1 c1 W8 :=
  ⟨own_frame h.own (fun g e => hb.block g (h.own.lt g e).2), h.chg.trans (Chg.of_below (S := fun x => Wrt.own Ao = some x) hb) (fun _ _ h => h), h.loc⟩
theorem codeBits_pos {L : List Int} (h0 : checkedOf L = 0) {s : Nat} (h : L.getD s 0 ≠ 0) : 1 ≤ (codeBits L s).length := by
  rw [codeBits_len]
  have : 0 ≤ L.getD s 0 := by
    rcases Nat.lt_or_ge s L.length with q | q
    · have hx : L[s]? = some L[s] := List.getElem?_eq_getElem q
      rw [getD_of hx]
      have := len_of (checked_zero h0).2.1 hx
      omega
    · rw [List.getD_eq_getElem?_getD, List.getElem?_eq_none q]; simp
  omega
/-- the next symbol -/
theorem HeadP.sym {L D l : List Int} {base : Nat} {out : List Int} {ps : List Pc} {a : Nat} {w wx : World} {tc td : Array Value} {A Ao : Option Addr} {c : Nat} {most : Int} {o : List Int} {rs : List Pc} {a1 : Nat} {A1 : Option Addr} {c1 : Nat}
    (h : HeadP L D l base out ps a w wx tc td A Ao c most o rs a1 A1 c1) (hu : L.getD 256 0 ≠ 0) :
    ∃ s, BitsAt l a1 (codeBits L s) ∧ L.getD s 0 ≠ 0 ∧ ((rs = [] ∧ s = 256) ∨ ∃ p rs', rs = p :: rs' ∧ ((p.n = 0 ∧ s = p.b) ∨ (p.n ≠ 0 ∧ s = (lengthM p.n).1))) := by
  have hb := h.bits
  cases rs with
  | nil => exact ⟨256, by simpa [bodyBits] using hb, hu, .inl ⟨rfl, rfl⟩⟩
  | cons p rs' =>
    have hq := h.use p (by simp)
    rw [bodyBits_cons] at hb
    have hb := hb.left
    by_cases h0 : p.n = 0
    · rw [pieceBits_lit L D p h0] at hb
      exact ⟨p.b, hb, hq.1 h0, .inr ⟨p, rs', rfl, .inl ⟨h0, rfl⟩⟩⟩
    · rw [pieceBits_copy L D p h0] at hb
      exact ⟨_, hb.left, (hq.2 h0).1, .inr ⟨p, rs', rfl, .inr ⟨h0, rfl⟩⟩⟩
def SymsP (L D l : List Int) (w : World) (A : Option Addr) (c a : Nat) (Ao : Option Addr) (base : Nat) (out : List Int) (ps : List Pc) (most : Int) (e : Ending) (w' : World) : Prop :=
  ∃ A1 c1, e = .returned (.agg (stV A l.length c ((a + (bodyBits L D ps).length : Nat) : Int) A1 (expand out ps).length c1 most 0)) ∧ OutP w Ao base (expand out ps) A1 c1 w'
set_option maxRecDepth 20000 in
set_option maxHeartbeats 8000000 in
theorem symbols_any {lo base : Nat} {L D l out : List Int} {ps : List Pc} {tc td : Array Value} {A Ao : Option Addr} {c a co : Nat} {most : Int} (w0 w : World) (HL : Tab lo w0 L tc) (HD : Tab lo w0 D td) (HA : SI w0 .u8 A l.length l) (hwf : ∀ x ∈ l, 0 ≤ x ∧ x < 256)
    (hb : Below w0.heap.size w0 w) (hbase : w0.heap.size ≤ base) (hbw : base ≤ w.heap.size) (hown : w.ownsRow base 5 1 (.slice Ao out.length co) out.length (out.map (.int .u8))) (hL : checkedOf L = 0) (hD : checkedOf D = 0)
    (hok : OkPs out ps) (hu : Use L D ps) (hbits : BitsAt l a (bodyBits L D ps)) (hmost : ((expand out ps).length : Int) ≤ most) (hmb : most ≤ 2000000) :
    Calls Tryz.prog 29 #[.agg (stV A l.length c a Ao out.length co most 0), .agg tc, .agg td] w (SymsP L D l w A c a Ao base out ps most) := by
  have HLL := Lib.hid HL
  have HDD := Lib.hid HD
  have HAA := Lib.hid HA
  have HWF := Lib.hid hwf
  have HB := Lib.hid hb
  have HL0 := Lib.hid hL
  have HD0 := Lib.hid hD
  have HU := Lib.hid hu.2
  have hbig := HA.bigb
  have HI : Hid ((Tryz.prog.info? 66).map (·.size) = some tc.size) := by show _ = _; rw [HL.size]; exact info57
  have HI2 : Hid ((Tryz.prog.info? 66).map (·.size) = some td.size) := by show _ = _; rw [HD.size]; exact info57
  have HH := Lib.hid (fun (wx : World) (hm : SS w wx tc td (fun x => Wrt.own Ao = some x) A l.length c (a : Int) Ao out.length co most) (ho : OutP w Ao base out Ao co wx) =>
    (⟨hm, ho, hok, rfl, hu.1, hbits, rfl⟩ : HeadP L D l base out ps a w wx tc td A Ao c most out ps a Ao co))
  have HOW := Lib.hid hown
  clear HL HD HA hwf hb hL hD hok hu hbits hown
  unfold stV
  go_enter Tryz.func29, Tryz.ntmps29
  go_wp2_with fail
  have HM := Lib.hid (SS.start w tc td (fun x => Wrt.own Ao = some x) A l.length c (a : Int) Ao out.length co most)
  have HM0 := Lib.hid (SS.start w tc td (fun _ => False) A l.length c (a : Int) Ao out.length co most)
  generalize (World.alloc (World.alloc (World.alloc (World.alloc w _) _) _) _) = W at HM HM0 ⊢
  have HS0 : Hid (OutP w Ao base out Ao co W) := ⟨own_frame HOW.out (fun g hg => HM0.out.chg.block g (HOW.out.lt g hg).2 (fun h => h)), HM.out.chg, .inl rfl⟩
  clear HM0
  go_loopw [] (fun wx => ∃ o rs a1 A1 c1, HeadP L D l base out ps a w wx tc td A Ao c most o rs a1 A1 c1) (fun wx => 8 * l.length - (intOf ((wx.cell? ⟨w.heap.size, 2, none⟩).getD (.int .i64 0))).toNat)
  case atStart => exact ⟨out, ps, a, Ao, co, HH.out W HM.out HS0.out⟩
  case round =>
    clear HH HM HS0
    obtain ⟨o, rs, a1, A1, c1, hh⟩ := hrel
    have HHD := Lib.hid hh
    obtain ⟨⟨a0, a1', a2, a3, a4, a5⟩, f0, f1, f2, f3, f4, f5⟩ := cells6 hh.mem.st
    obtain ⟨s, hs1, hs2, hs3⟩ := hh.sym HU.out
    have HS3 := Lib.hid hs3
    have HBE : Hid (∀ W, Chg w W (fun x => Wrt.own Ao = some x) → Below w0.heap.size w0 W) := fun W h => HB.out.trans (h.below HB.out.size (fun i hi => by
      have := (HOW.out.lt i (by
        cases Ao with
        | none => cases hi
        | some q => exact hi)).1
      omega))
    have HTB := Lib.hid hh.mem.tb
    have ha1 := hs1.le
    have hdec := decode_at HL0.out hs2 hs1
    have hcl0 : 1 ≤ (codeBits L s).length := codeBits_pos HL0.out hs2
    generalize hcl : (codeBits L s).length = cl at hdec ha1 hcl0
    have HCL := Lib.hid hcl
    have hcall := inext_any (a := a1) (Ao := A1) (no := o.length) (co := c1) (c := c) (most := most) wr (HLL.out.below (HBE.out _ hh.mem.chg) (Nat.le_refl _)) (HAA.out.below (HBE.out _ hh.mem.chg) (Nat.le_refl _)) HWF.out (by omega) hdec
    have HCALL := Lib.hid hcall
    have HA2 := Lib.hid a2
    clear hh hs1 hs2 hs3 hdec hcall hcl
    unfold stV at HCALL
    go_wp2_with (refine wpList_load_row rfl 66 (.tmp 4) rfl (w.heap.size + 1) rfl 66 tc (0, 0) _ HTB.out Tryz.underlying66 rfl HI.out ?_)
    refine HCALL.out.mono ?_
    rintro e w5 ⟨rfl, hb5⟩
    have HM5 := Lib.hid (HHD.out.mem.below hb5)
    have HO5 := Lib.hid (HHD.out.outp.below hb5)
    clear hb5 a0 a1' a2 a3 a4 a5 f0 f1 f2 f3 f4 f5 HTB HCALL
    obtain ⟨⟨a0, a1', a2, a3, a4, a5⟩, f0, f1, f2, f3, f4, f5⟩ := cells6 HM5.out.st
    unfold stV
    go_upto_region 4 with (fail)
    obtain ⟨W6, hW6, hm6, hg6⟩ := HM5.out.store ((a1 : Int) + (cl : Int)) A1 o.length c1
    rw [← hW6]
    have HM6 := Lib.hid hm6
    have HO6 : Hid (OutP w Ao base o A1 c1 W6) := HO5.out.st HM5.out hg6
    clear hW6 hm6 hg6 HO5 a0 a1' a2 a3 a4 a5 f0 f1 f2 f3 f4 f5 HM5
    obtain ⟨⟨a0, a1', a2, a3, a4, a5⟩, f0, f1, f2, f3, f4, f5⟩ := cells6 HM6.out.st
    have hex := HHD.out.ex
    have hok := HHD.out.ok
    have huse := HHD.out.use
    have hat := HHD.out.at_
    have hbt := HHD.out.bits
    have hs3 := HS3.out
    clear HS3 HHD
    rcases hs3 with ⟨rfl, hs⟩ | ⟨p, rs', rfl, hs⟩
    · have hse : ((s : Int) == 256) = true := by subst hs; rfl
      have HSE := Lib.hid hs
      obtain ⟨⟨b0, b1, b2, b3, b4, b5⟩, h0, h1, h2, h3, h4, h5⟩ := cells6 HM6.out.rs
      have HEX := Lib.hid hex
      have HAT := Lib.hid hat
      clear hs hok huse hbt hex hat
      go_wp2_with fail
      have heo : o = expand out ps := HEX.out
      have hal : a + (bodyBits L D ps).length = a1 + cl := by rw [← HAT.out, ← HCL.out, HSE.out]; simp [bodyBits]
      obtain ⟨W3, hW3, hs3, hg3⟩ := HM6.out.rs.all (.slice A l.length c) (.bool false) (.int .i64 ((a1 : Int) + (cl : Int))) (.slice A1 o.length c1) (.int .i64 most) (.int .i64 0)
      rw [← hW3]
      obtain ⟨⟨e0, e1, e2, e3, e4, e5⟩, -⟩ := cells6 hs3
      have hl3 := hs3.lt
      refine bodyPost_ret (v := .agg (stV A l.length c ((a1 : Int) + (cl : Int)) A1 o.length c1 most 0)) ?_ rfl ⟨A1, c1, ?_, ?_⟩
      · simp [results, Tryz.results29, go_sem, e0, e1, e2, e3, e4, e5, hl3, stV]
      · rw [hal, ← heo]; simp only [Int.natCast_add]
      · rw [← heo]
        have hown := HO6.out.own
        refine ⟨own_frame hown (fun g hg => hg3.block g (hown.lt g hg).2 (fun e => by
          injection e with e
          rw [ownBlock_eq] at hg
          have hf := HO6.out.form g hg
          rw [hf] at hown
          exact (HM6.out.ne hown).2.2.2 e)), Chg.grow2 HO6.out.chg hg3 (fun b e hlt => by injection e with e; omega), HO6.out.loc⟩
    · have HEX := Lib.hid hex
      have HOK := Lib.hid hok
      have HUS := Lib.hid huse
      have HAT := Lib.hid hat
      have HBT := Lib.hid hbt
      clear hex hok huse hat hbt
      rcases hs with ⟨hn, hs⟩ | ⟨hn, hs⟩
      · have hpb : p.b < 256 := by
          rcases HOK.out.1 with q | q
          · exact q.2
          · omega
        have hgl : (o.length : Int) < most := by
          have q1 := expand_len rs' (grow o p)
          have q2 := grow_len o p
          rw [if_pos hn] at q2
          have q3 : expand (grow o p) rs' = expand out ps := HEX.out
          rw [q3] at q1
          omega
        have hse : ((s : Int) == 256) = false := by simp; omega
        have hlt : decide ((s : Int) < 256) = true := decide_eq_true (by omega)
        have hge : decide (most ≤ (o.length : Int)) = false := decide_eq_false (by omega)
        have hw8 : IntKind.u8.wrap (s : Int) = (s : Int) := IntWalk.u8_in _ (by omega)
        have HN := Lib.hid hn
        have HSB := Lib.hid hs
        have hz0 : w.heap.size < W6.heap.size := by have := HM6.out.lt; omega
        have hzb : base ≤ W6.heap.size := by omega
        clear hn hs
        go_wp2_with (at_builtin; refine wpList_append_sl _ rfl (.tmp 36) (.tmp 39) _ rfl base 5 1 1 _ Tryz.underlying22 infoU8 rfl (by omega) (.slice A1 o.length c1) o.length _ rfl (HO6.out.own.alloc _) _ 1 1 [.int .u8 (s : Int)] rfl rfl (Bld.Sl.new W6 [.int .u8 (s : Int)] _) ?c1 ?c2 ?c3 ?c4 ?_)
        case c1 => simp [Value.oneCell']
        case c2 => unfold maxLen; omega
        case c3 => omega
        case c4 => simp; omega
        intro v' w7 hown7 hg7 hat7
        obtain ⟨gg, cap, rfl, hM7, hfin⟩ := push_step (out2 := grow o p) HO6.out hbw HM6.out hown7 hg7 hat7
        have hfin := hfin (by unfold grow; rw [if_pos HN.out, HSB.out])
        have HFIN := Lib.hid hfin
        clear a0 a1' a2 a3 a4 a5 f0 f1 f2 f3 f4 f5 hown7 hg7 hat7 hfin
        obtain ⟨⟨a0, a1', a2, a3, a4, a5⟩, f0, f1, f2, f3, f4, f5⟩ := cells6 hM7.st
        clear hM7
        have HP : Hid (cl = (pieceBits L D p).length) := by show _ = _; rw [pieceBits_lit L D p HN.out, ← HSB.out, HCL.out]
        go_wp2_with fail
        obtain ⟨A8, c8, hm8, ho8⟩ := HFIN.out
        obtain ⟨⟨-, -, z2, -⟩, -⟩ := cells6 hm8.st
        go_roundw
        case rel => exact ⟨grow o p, rs', a1 + cl, A8, c8, head_next HEX.out HOK.out HUS.out HAT.out HBT.out (by rw [HP.out]) (by rw [Int.natCast_add]; exact hm8) ho8⟩
        case measure => rw [z2, HA2.out]; simp [intOf]; omega
      · obtain ⟨g1, g2, g3, g4, g5⟩ : 3 ≤ p.n ∧ p.n ≤ 258 ∧ 1 ≤ p.back ∧ p.back ≤ 32768 ∧ p.back ≤ o.length := by
          rcases HOK.out.1 with q | q
          · omega
          · exact q
        have hsb := lengthM_bd g1 g2
        have hse : ((s : Int) == 256) = false := by simp; omega
        have hlt : decide ((s : Int) < 256) = false := decide_eq_false (by omega)
        have hgl : (o.length : Int) + p.n ≤ most := by
          have q1 := expand_len rs' (grow o p)
          have q2 := grow_len o p
          rw [if_neg hn] at q2
          have q3 : expand (grow o p) rs' = expand out ps := HEX.out
          rw [q3] at q1
          omega
        have hgr : Hid (grow o p = copyN o p.back p.n) := by show _ = _; unfold grow; rw [if_neg hn]
        have hpb := pieceBits_copy L D p hn
        rw [← hs] at hpb
        have HP : Hid (cl + (restBits D p).length = (pieceBits L D p).length) := by show _ = _; rw [hpb, List.length_append, HCL.out]
        have hbr : BitsAt l (a1 + cl) (restBits D p) := by
          have q := HBT.out
          rw [bodyBits_cons] at q
          have q := q.left
          rw [hpb] at q
          have q := q.right
          rwa [HCL.out] at q
        have huu := ((HUS.out p (by simp)).2 hn).2
        have hcall := match_any (a := a1 + cl) (c := c) (p := p) w0 W6 (HDD.out) HAA.out HWF.out (HBE.out _ HM6.out.chg) hbase (by have := HM6.out.lt; omega) HO6.out.own HD0.out g1 g2 g3 g4 g5 huu hbr hgl hmb
        rw [← hs, Int.natCast_add] at hcall
        have HCALL := Lib.hid hcall
        have HTB2 := Lib.hid HM6.out.tb2
        clear hcall hbr huu hpb hsb hgl g1 g2 g3 g4 g5 hn hs
        unfold stV at HCALL
        go_wp2_with (refine wpList_load_row rfl 66 (.tmp 5) rfl (w.heap.size + 1 + 1) rfl 66 td (0, 0) _ HTB2.out Tryz.underlying66 rfl HI2.out ?_)
        refine HCALL.out.mono ?_
        rintro e w7 ⟨A7, c7, rfl, h7⟩
        have hM7 := SS.call HM6.out HO6.out h7
        have HM7 := Lib.hid hM7
        have HO7 := Lib.hid (OutP.trans HO6.out h7)
        clear a0 a1' a2 a3 a4 a5 f0 f1 f2 f3 f4 f5 HCALL HTB2 h7
        obtain ⟨⟨a0, a1', a2, a3, a4, a5⟩, f0, f1, f2, f3, f4, f5⟩ := cells6 hM7.st
        clear hM7
        unfold stV
        go_wp2_with fail
        obtain ⟨W8, hW8, hm8, hg8⟩ := HM7.out.store ((a1 : Int) + (cl : Int) + ((restBits D p).length : Int)) A7 (copyN o p.back p.n).length c7
        rw [← hW8]
        have ho8 := HO7.out.st HM7.out hg8
        obtain ⟨⟨-, -, z2, -⟩, -⟩ := cells6 hm8.st
        have hgr' := hgr.out
        refine ⟨⟨grow o p, rs', a1 + cl + (restBits D p).length, A7, c7, head_next HEX.out HOK.out HUS.out HAT.out HBT.out (by rw [← HP.out]; omega) (by rw [hgr']; rw [Int.natCast_add, Int.natCast_add]; exact hm8) (by rw [hgr']; exact ho8)⟩, ?_⟩
        rw [z2, HA2.out]
        simp [intOf]; omega
end Go.Proofs.YtmgbjgjlddifaaaGreat.Inf
set_option linter.unusedVariables false
set_option linter.unusedSimpArgs false
namespace Go.Proofs.YtmgbjgjlddifaaaGreat.Inf
open Go.RowKit K Bits Pfx Def Wrt Bak Ref RefR RefT RefX

structure FX (w wx : World) (Av : Option Addr) (cv k : Nat) (l : List Int) : Prop where
  own : wx.ownsRow w.heap.size 3 1 (.slice Av k cv) k ((l.map (Value.int .i64)).take k)
  bel : Below w.heap.size w wx
theorem FX.push {w wx w2 : World} {Av : Option Addr} {cv k : Nat} {l : List Int} {x : Int} {o : Obj} {v' : Value} (h : FX w wx Av cv k l) (hx : l[k]? = some x)
    (hown : w2.ownsRow w.heap.size 3 1 v' (k + 1) ((l.map (Value.int .i64)).take k ++ [.int .i64 x])) (hg : (wx.alloc o).grownBy w2 (Value.slice Av k cv).ownBlock) : ∃ Av' cv', v' = .slice Av' (k + 1) cv' ∧ FX w w2 Av' cv' (k + 1) l := by
  have hs := h.bel.size
  have hb : Below w.heap.size w w2 := (h.bel.alloc hs o).grown hg (by simp; omega) (fun b e => (h.own.lt b e).1)
  have hm : (l.map (Value.int .i64)).take (k + 1) = (l.map (Value.int .i64)).take k ++ [.int .i64 x] := take_snoc (by rw [List.getElem?_map, hx]; rfl)
  rcases hown.2 with ⟨hv, h1⟩ | ⟨g, cap, cur, hv, -⟩
  · omega
  · exact ⟨some ⟨g, 0, none⟩, cap, hv, ⟨by rw [hm, ← hv]; exact hown, hb⟩⟩
theorem fixL_at : ∀ k : Fin 288, fixL[k.val]? = some (if k.val < 144 then 8 else if k.val < 256 then 9 else if k.val < 280 then 7 else 8) := by decide +kernel
theorem fixD_at : ∀ k : Fin 30, fixD[k.val]? = some 5 := by decide +kernel
def RFixP (w : World) (e : Ending) (w' : World) : Prop :=
  ∃ A1 c1 A2 c2, e = .returned (.tuple #[.slice A1 288 c1, .slice A2 30 c2]) ∧ SI w' .i64 A1 288 fixL ∧ SI w' .i64 A2 30 fixD ∧ Below w.heap.size w w'
set_option maxRecDepth 20000 in
set_option maxHeartbeats 4000000 in
theorem rfixed_any (w : World) : Calls Tryz.prog 28 #[] w (RFixP w) := by
  go_enter Tryz.func28, Tryz.ntmps28
  go_wp2_with fail
  go_loopw [2, 4, 5] (fun s2 s4 s5 wx => ∃ (k : Nat) (Av : Option Addr) (cv : Nat), k ≤ 288 ∧ s2 = .slice Av k cv ∧ s4 = .int .i64 k ∧ FX w wx Av cv k fixL) (fun _ s4 _ _ => 288 - (intOf s4).toNat)
  case atStart => exact ⟨0, none, 0, by omega, rfl, rfl, ⟨World.ownsRow_nil _ _ _ _, Below.refl _ _⟩⟩
  case round =>
    obtain ⟨k, Av, cv, hk, rfl, rfl, hF⟩ := hrel
    have HF := Lib.hid hF
    have hsz := hF.bel.size
    clear hF
    by_cases hkn : k < 288
    · have hv := fixL_at ⟨k, hkn⟩
      simp only [] at hv
      have d0 : decide ((k : Int) < 288) = true := decide_eq_true (by omega)
      by_cases g0 : k < 144
      · have d1 : decide ((144 : Int) ≤ (k : Int)) = false := decide_eq_false (by omega)
        have d2 : decide ((k : Int) < 256) = true := decide_eq_true (by omega)
        have d3 : decide ((256 : Int) ≤ (k : Int)) = false := decide_eq_false (by omega)
        have d4 : decide ((k : Int) < 280) = true := decide_eq_true (by omega)
        have hx : fixL[k]? = some 8 := by rw [hv]; simp only [Option.some.injEq]; split <;> (try split) <;> (try split) <;> omega
        have HX := Lib.hid hx
        clear hv hx
        go_wp2_with (at_builtin; refine wpList_append_sl _ rfl (.tmp 23) (.tmp 25) _ rfl w.heap.size 3 1 8 _ Tryz.underlying43 infoInt rfl (by omega) (.slice Av k cv) k _ rfl (HF.out.own.alloc _) _ 1 1 [.int .i64 8] rfl rfl (Bld.Sl.new wr [.int .i64 8] _) ?c1 ?c2 ?c3 ?c4 ?_)
        case c1 => simp [Value.oneCell']
        case c2 => unfold maxLen; omega
        case c3 => omega
        case c4 => first | omega | (simp; omega)
        intro v' w7 hown7 hg7 hat7
        obtain ⟨A8, c8, rfl, hF8⟩ := HF.out.push HX.out hown7 hg7
        have HF8 := Lib.hid hF8
        clear hown7 hg7 hat7 hF8
        go_wp2_with fail
        go_roundw
        case rel => exact ⟨k + 1, A8, c8, by omega, rfl, eint (by omega), HF8.out⟩
        case measure => simp [intOf]; omega
      · skip
        by_cases g1 : k < 256
        · have d1 : decide ((144 : Int) ≤ (k : Int)) = true := decide_eq_true (by omega)
          have d2 : decide ((k : Int) < 256) = true := decide_eq_true (by omega)
          have d3 : decide ((256 : Int) ≤ (k : Int)) = false := decide_eq_false (by omega)
          have d4 : decide ((k : Int) < 280) = true := decide_eq_true (by omega)
          have hx : fixL[k]? = some 9 := by rw [hv]; simp only [Option.some.injEq]; split <;> (try split) <;> (try split) <;> omega
          have HX := Lib.hid hx
          clear hv hx
          go_wp2_with (at_builtin; refine wpList_append_sl _ rfl (.tmp 23) (.tmp 25) _ rfl w.heap.size 3 1 8 _ Tryz.underlying43 infoInt rfl (by omega) (.slice Av k cv) k _ rfl (HF.out.own.alloc _) _ 1 1 [.int .i64 9] rfl rfl (Bld.Sl.new wr [.int .i64 9] _) ?c1 ?c2 ?c3 ?c4 ?_)
          case c1 => simp [Value.oneCell']
          case c2 => unfold maxLen; omega
          case c3 => omega
          case c4 => first | omega | (simp; omega)
          intro v' w7 hown7 hg7 hat7
          obtain ⟨A8, c8, rfl, hF8⟩ := HF.out.push HX.out hown7 hg7
          have HF8 := Lib.hid hF8
          clear hown7 hg7 hat7 hF8
          go_wp2_with fail
          go_roundw
          case rel => exact ⟨k + 1, A8, c8, by omega, rfl, eint (by omega), HF8.out⟩
          case measure => simp [intOf]; omega
        · skip
          by_cases g2 : k < 280
          · have d1 : decide ((144 : Int) ≤ (k : Int)) = true := decide_eq_true (by omega)
            have d2 : decide ((k : Int) < 256) = false := decide_eq_false (by omega)
            have d3 : decide ((256 : Int) ≤ (k : Int)) = true := decide_eq_true (by omega)
            have d4 : decide ((k : Int) < 280) = true := decide_eq_true (by omega)
            have hx : fixL[k]? = some 7 := by rw [hv]; simp only [Option.some.injEq]; split <;> (try split) <;> (try split) <;> omega
            have HX := Lib.hid hx
            clear hv hx
            go_wp2_with (at_builtin; refine wpList_append_sl _ rfl (.tmp 23) (.tmp 25) _ rfl w.heap.size 3 1 8 _ Tryz.underlying43 infoInt rfl (by omega) (.slice Av k cv) k _ rfl (HF.out.own.alloc _) _ 1 1 [.int .i64 7] rfl rfl (Bld.Sl.new wr [.int .i64 7] _) ?c1 ?c2 ?c3 ?c4 ?_)
            case c1 => simp [Value.oneCell']
            case c2 => unfold maxLen; omega
            case c3 => omega
            case c4 => first | omega | (simp; omega)
            intro v' w7 hown7 hg7 hat7
            obtain ⟨A8, c8, rfl, hF8⟩ := HF.out.push HX.out hown7 hg7
            have HF8 := Lib.hid hF8
            clear hown7 hg7 hat7 hF8
            go_wp2_with fail
            go_roundw
            case rel => exact ⟨k + 1, A8, c8, by omega, rfl, eint (by omega), HF8.out⟩
            case measure => simp [intOf]; omega
          · skip
            have d1 : decide ((144 : Int) ≤ (k : Int)) = true := decide_eq_true (by omega)
            have d2 : decide ((k : Int) < 256) = false := decide_eq_false (by omega)
            have d3 : decide ((256 : Int) ≤ (k : Int)) = true := decide_eq_true (by omega)
            have d4 : decide ((k : Int) < 280) = false := decide_eq_false (by omega)
            have hx : fixL[k]? = some 8 := by rw [hv]; simp only [Option.some.injEq]; split <;> (try split) <;> (try split) <;> omega
            have HX := Lib.hid hx
            clear hv hx
            go_wp2_with (at_builtin; refine wpList_append_sl _ rfl (.tmp 23) (.tmp 25) _ rfl w.heap.size 3 1 8 _ Tryz.underlying43 infoInt rfl (by omega) (.slice Av k cv) k _ rfl (HF.out.own.alloc _) _ 1 1 [.int .i64 8] rfl rfl (Bld.Sl.new wr [.int .i64 8] _) ?c1 ?c2 ?c3 ?c4 ?_)
            case c1 => simp [Value.oneCell']
            case c2 => unfold maxLen; omega
            case c3 => omega
            case c4 => first | omega | (simp; omega)
            intro v' w7 hown7 hg7 hat7
            obtain ⟨A8, c8, rfl, hF8⟩ := HF.out.push HX.out hown7 hg7
            have HF8 := Lib.hid hF8
            clear hown7 hg7 hat7 hF8
            go_wp2_with fail
            go_roundw
            case rel => exact ⟨k + 1, A8, c8, by omega, rfl, eint (by omega), HF8.out⟩
            case measure => simp [intOf]; omega
    · obtain rfl : k = 288 := by omega
      have d0 : decide ((288 : Int) < 288) = false := by decide
      have HL := Lib.hid (show fixL.length = 288 from by decide)
      generalize wr = W1 at HF hsz ⊢
      go_wp2_with fail
      simp only [Int.cast_ofNat_Int]
      go_loopw [3, 6] (fun s3 s6 wx => ∃ (k : Nat) (A2 : Option Addr) (c2 : Nat), k ≤ 30 ∧ s3 = .slice A2 k c2 ∧ s6 = .int .i64 k ∧ FX W1 wx A2 c2 k fixD) (fun _ s6 _ => 30 - (intOf s6).toNat)
      case atStart => exact ⟨0, none, 0, by omega, rfl, rfl, ⟨World.ownsRow_nil _ _ _ _, Below.refl _ _⟩⟩
      case round =>
        obtain ⟨k, A2, c2, hk2, rfl, rfl, hF⟩ := hrel
        have HF2 := Lib.hid hF
        have hsz2 := hF.bel.size
        clear hF
        by_cases hkn2 : k < 30
        · have d0 : decide ((k : Int) < 30) = true := decide_eq_true (by omega)
          have HX := Lib.hid (fixD_at ⟨k, hkn2⟩)
          go_wp2_with (at_builtin; refine wpList_append_sl _ rfl (.tmp 31) (.tmp 32) _ rfl W1.heap.size 3 1 8 _ Tryz.underlying43 infoInt rfl (by omega) (.slice A2 k c2) k _ rfl (HF2.out.own.alloc _) _ 1 1 [.int .i64 5] rfl rfl (Bld.Sl.new wr [.int .i64 5] _) ?c1 ?c2 ?c3 ?c4 ?_)
          case c1 => simp [Value.oneCell']
          case c2 => unfold maxLen; omega
          case c3 => omega
          case c4 => first | omega | (simp; omega)
          intro v' w7 hown7 hg7 hat7
          obtain ⟨A8, c8, rfl, hF8⟩ := HF2.out.push HX.out hown7 hg7
          have HF8 := Lib.hid hF8
          clear hown7 hg7 hat7 hF8
          go_wp2_with fail
          go_roundw
          case rel => exact ⟨k + 1, A8, c8, by omega, rfl, eint (by omega), HF8.out⟩
          case measure => simp [intOf]; omega
        · obtain rfl : k = 30 := by omega
          have d0 : decide ((30 : Int) < 30) = false := by decide
          have ht : (fixL.map (Value.int .i64)).take 288 = fixL.map (Value.int .i64) := List.take_of_length_le (by rw [List.length_map]; exact Nat.le_of_eq HL.out)
          have ht2 : (fixD.map (Value.int .i64)).take 30 = fixD.map (Value.int .i64) := List.take_of_length_le (by rw [List.length_map]; decide)
          have ho1 := HF.out.own
          have ho2 := HF2.out.own
          rw [ht] at ho1
          rw [ht2] at ho2
          have hs1 : SI wr .i64 Av 288 fixL := SI.of_own (own_frame ho1 (fun g hg => HF2.out.bel.block g (ho1.lt g hg).2)) (by show _ * 8 ≤ _; omega)
          have hs2 : SI wr .i64 A2 30 fixD := SI.of_own ho2 (by show _ * 8 ≤ _; omega)
          have hb : Below w.heap.size w wr := HF.out.bel.trans (HF2.out.bel.mono hsz)
          have HQ := Lib.hid (And.intro hs1 (And.intro hs2 hb))
          clear ht ht2 ho1 ho2 hs1 hs2 hb
          go_wp2_with fail
          go_ret2
          exact ⟨Av, cv, A2, c2, rfl, HQ.out.1, HQ.out.2.1, HQ.out.2.2⟩
end Go.Proofs.YtmgbjgjlddifaaaGreat.Inf
set_option linter.unusedVariables false
set_option linter.unusedSimpArgs false
namespace Go.Proofs.YtmgbjgjlddifaaaGreat.Inf
open Go.RowKit K Bits Pfx Def Wrt Bak Ref RefR RefT RefX

theorem Tab.mono {lo lo2 : Nat} {w : World} {l : List Int} {c : Array Value} (h : Tab lo w l c) (hl : lo2 ≤ lo) : Tab lo2 w l c := by
  obtain ⟨vs, h1, h2⟩ := h.cells
  refine ⟨h.size, h.short, vs, h1, fun j j1 j2 => ?_⟩
  obtain ⟨A, cap, e, hs, hq⟩ := h2 j j1 j2
  exact ⟨A, cap, e, hs, fun b off s e2 => Nat.le_trans hl (hq b off s e2)⟩
/-- a reader's state in block q, its stream, the two rows of lengths -/
structure Sit (w W : World) (q : Nat) (x : List Int) (A : Option Addr) (c : Nat) (most : Int) (a : Nat) (L D : List Int) (AL AD : Option Addr) (nl nd : Nat) : Prop where
  six : Six W q 58 (.slice A x.length c) (.bool false) (.int .i64 (a : Int)) (.slice none 0 0) (.int .i64 most) (.int .i64 0)
  x : SI W .u8 A x.length x
  l : SI W .i64 AL nl L
  d : SI W .i64 AD nd D
  bel : Below w.heap.size w W
section
variable {w W W2 : World} {q : Nat} {x : List Int} {A : Option Addr} {c : Nat} {most : Int} {a : Nat} {L D : List Int} {AL AD : Option Addr} {nl nd : Nat}
theorem Sit.below (h : Sit w W q x A c most a L D AL AD nl nd) (hb : Below W.heap.size W W2) : Sit w W2 q x A c most a L D AL AD nl nd :=
  ⟨h.six.block (hb.block _ h.six.lt), h.x.below hb (Nat.le_refl _), h.l.below hb (Nat.le_refl _), h.d.below hb (Nat.le_refl _), h.bel.trans (hb.mono h.bel.size)⟩
theorem Sit.cells (h : Sit w W q x A c most a L D AL AD nl nd) : W.cell? ⟨q, 0, none⟩ = some (.slice A x.length c) ∧ W.cell? ⟨q, 1, none⟩ = some (.bool false) ∧ W.cell? ⟨q, 2, none⟩ = some (.int .i64 (a : Int)) ∧ W.cell? ⟨q, 3, none⟩ = some (.slice none 0 0) ∧ W.cell? ⟨q, 4, none⟩ = some (.int .i64 most) ∧ W.cell? ⟨q, 5, none⟩ = some (.int .i64 0) := (cells6 h.six).1
def SymsS (W : World) (x : List Int) (A : Option Addr) (c : Nat) (most : Int) (a2 : Int) (b : List Int) (e : Ending) (w' : World) : Prop :=
  ∃ A1 c1, e = .returned (.agg #[.slice A x.length c, .bool false, .int .i64 a2, .slice A1 b.length c1, .int .i64 most, .int .i64 0]) ∧ SI w' .u8 A1 b.length b ∧ Below W.heap.size W w' ∧ ∀ g off s, A1 = some ⟨g, off, s⟩ → W.heap.size ≤ g
theorem symbols_sit {lo lo2 : Nat} {cL cD : Array Value} {ps : List Pc} {b : List Int} (h : Sit w W q x A c most a L D AL AD nl nd) (hTL : Tab lo W L cL) (hTD : Tab lo2 W D cD) (hwf : ∀ y ∈ x, 0 ≤ y ∧ y < 256)
    (hL : checkedOf L = 0) (hD : checkedOf D = 0) (hok : OkPs [] ps) (hex : expand [] ps = b) (hu : Use L D ps) (hbits : BitsAt x a (bodyBits L D ps)) (hmost : (b.length : Int) ≤ most) (hmb : most ≤ 2000000) :
    Calls Tryz.prog 29 #[.agg #[.slice A x.length c, .bool false, .int .i64 (a : Int), .slice none 0 0, .int .i64 most, .int .i64 0], .agg cL, .agg cD] W (SymsS W x A c most ((a : Int) + ((bodyBits L D ps).length : Int)) b) := by
  have h0 := symbols_any (lo := 0) (base := W.heap.size) (out := []) (Ao := none) (co := 0) (c := c) (most := most) W W (Tab.mono hTL (Nat.zero_le _)) (Tab.mono hTD (Nat.zero_le _)) h.x hwf (Below.refl _ _) (Nat.le_refl _) (Nat.le_refl _) (World.ownsRow_nil _ _ _ _) hL hD hok hu hbits (by rw [hex]; exact hmost) hmb
  refine h0.mono ?_
  rintro e w' ⟨A1, c1, rfl, ho⟩
  rw [hex] at ho ⊢
  refine ⟨A1, c1, by rw [Int.natCast_add]; rfl, SI.of_own ho.own (by show _ * 1 ≤ _; omega), ho.chg.below (Nat.le_refl _) (fun i hi => by cases hi), fun g off s e => ?_⟩
  rcases ho.own.2 with ⟨hv, -⟩ | ⟨g', cap, cur, hv, hb, -⟩
  · injection hv with hv; rw [hv] at e; cases e
  · injection hv with hv; rw [hv] at e; injection e with e; injection e with e; omega
end
end Go.Proofs.YtmgbjgjlddifaaaGreat.Inf
set_option linter.unusedVariables false
set_option linter.unusedSimpArgs false
namespace Go.Proofs.YtmgbjgjlddifaaaGreat.Def
open Go.RowKit K Bits Wrt Bak Pfx

/-- a code's bits, the highest first -/
def emitV (code : Int) (n : Nat) : List Int := (List.range n).map (fun j => code / 2 ^ (n - 1 - j) % 2)
theorem emitV_get (code : Int) {n j : Nat} (hj : j < n) : (emitV code n)[j]? = some (code / 2 ^ (n - 1 - j) % 2) := by
  unfold emitV; rw [List.getElem?_map, List.getElem?_range hj]; rfl
theorem emitV_len (code : Int) (n : Nat) : (emitV code n).length = n := by simp [emitV]
theorem codeBits_emit (l : List Int) (s : Nat) : codeBits l s = emitV (codeAt l s) (l.getD s 0).toNat := rfl
def EmitPost (w : World) (q base : Nat) (A : Option Addr) (bs : List Int) (e : Ending) (w' : World) : Prop :=
  e = .returned (.tuple #[]) ∧ Ps w w' q base A bs false
set_option maxHeartbeats 1000000 in
theorem emit_any {q base : Nat} {A : Option Addr} {bs : List Int} {code : Int} {n : Nat} (w0 w : World) (HP : Ps w0 w q base A bs false) (h0 : 0 ≤ code) (h1 : code < 4294967296) (hn : n ≤ 32) (hbig : bs.length + n ≤ 281474976710656) :
    Calls Tryz.prog 41 #[.pointer (some ⟨q, 0, none⟩), .int .u32 code, .int .i64 n] w (EmitPost w0 q base A (bs ++ emitV code n)) := by
  have HP0 : Hid (Ps w0 w q base A (bs ++ (emitV code n).take 0) false) := by show Ps _ _ _ _ _ _ _; simpa using HP
  clear HP
  go_enter Tryz.func41, Tryz.ntmps41
  go_wp2
  go_loopw [6] (fun si wr => ∃ j : Nat, j ≤ n ∧ si = .int .i64 ((n : Int) - 1 - j) ∧ Ps w0 wr q base A (bs ++ (emitV code n).take j) false) (fun si _ => (intOf si + 1).toNat)
  case atStart => exact ⟨0, by omega, by go_num, HP0.out⟩
  case round =>
    clear HP0
    obtain ⟨j, hj, rfl, hP⟩ := hrel
    have HP := Lib.hid hP
    obtain ⟨⟨A9, c9, B9, hW9, ho9⟩, hC9⟩ := hP
    by_cases hjl : j < n
    · have d3 : decide (0 ≤ (n : Int) - 1 - (j : Int)) = true := decide_eq_true (by omega)
      have d3' : decide (1 ≤ (n : Int) - (j : Int)) = true := decide_eq_true (by omega)
      have z1 : 0 ≤ (n : Int) - 1 - (j : Int) := by omega
      have z2 : (n : Int) - 1 - (j : Int) ≤ 31 := by omega
      have z3 : ((n : Int) - 1 - (j : Int)).toNat = n - 1 - j := by omega
      have hp0 : 0 ≤ code / 2 ^ (n - 1 - j) := Int.ediv_nonneg h0 (Int.pow_nonneg (by decide))
      have hp1 : code / 2 ^ (n - 1 - j) < 4294967296 := by
        have := Int.ediv_le_self (b := 2 ^ (n - 1 - j)) (a := code) h0
        omega
      have hlen9 : (bs ++ (emitV code n).take j).length + 1 ≤ 281474976710656 := by
        rw [List.length_append, List.length_take, emitV_len]; omega
      have HT := Lib.hid (take_snoc (emitV_get code hjl))
      have HW9 := Lib.hid hW9
      have HO9 := Lib.hid ho9
      have HC9 := Lib.hid hC9
      clear hW9 ho9 hC9
      go_wp2_with fail
      refine (put_any (n := 1) _ HW9.out hp0 hp1 (by omega) hlen9).mono ?_
      rintro e w10 ⟨rfl, A10, c10, B10, hW10, hC10, hO10⟩
      have hPs := Ps.step HC9.out HO9.out hW10 hC10 hO10
      rw [putV_one, List.append_assoc, ← HT.out] at hPs
      have HPs := Lib.hid hPs
      clear hW10 hC10 hO10 hPs z1 z2 z3 hp0 hp1
      go_wp2
      go_roundw
      case rel => exact ⟨j + 1, by omega, by go_num, HPs.out⟩
      case measure => simp [intOf]; omega
    · have d3 : decide (0 ≤ (n : Int) - 1 - (j : Int)) = false := decide_eq_false (by omega)
      have d3' : decide (1 ≤ (n : Int) - (j : Int)) = false := decide_eq_false (by omega)
      obtain rfl : j = n := by omega
      have HP2 : Hid (Ps w0 wr q base A (bs ++ emitV code j) false) := by
        show Ps _ _ _ _ _ _ _
        have := HP.out
        rwa [List.take_of_length_le (by rw [emitV_len]; exact Nat.le_refl _)] at this
      clear hW9 ho9 hC9
      go_wp2
      go_end0
      exact ⟨rfl, HP2.out⟩
end Go.Proofs.YtmgbjgjlddifaaaGreat.Def
set_option linter.unusedVariables false
set_option linter.unusedSimpArgs false
namespace Go.Proofs.YtmgbjgjlddifaaaGreat.Def
open Go.RowKit K

theorem sym_a {m size u : Nat} (hms : m * size ≤ 320) (hu : u ≤ 1048576) : wrap64 (wrap64 ((m : Int) * (size : Int)) + (u : Int) / 2 ^ m) = ((m * size + u / 2 ^ m : Nat) : Int) := by
  have eM : (m : Int) * (size : Int) = ((m * size : Nat) : Int) := by push_cast; rfl
  have eD : (u : Int) / 2 ^ m = ((u / 2 ^ m : Nat) : Int) := by push_cast; rfl
  have hdu : u / 2 ^ m ≤ u := Nat.div_le_self _ _
  rw [eM, eD]
  generalize m * size = x at *
  generalize u / 2 ^ m = y at *
  rw [IntWalk.wrap64_in (x : Int) (by omega), IntWalk.wrap64_in _ (by omega)]
  push_cast; rfl
theorem wrap_i64 (n : Int) (h0 : 0 ≤ n) (h1 : n < 2 ^ 63) : IntKind.i64.wrap n = n := by
  have e : n % 2 ^ 64 = n := Int.emod_eq_of_lt h0 (by omega)
  simp only [IntKind.wrap, IntKind.bits, IntKind.signed, e]
  rw [if_neg]
  simp; omega
theorem sym_b {m u : Nat} (hm : m ≤ 20) (hu : u ≤ 1048576) : bits .and .i64 (u : Int) (wrap64 (wrap64 (2 ^ m) - 1)) = ((u % 2 ^ m : Nat) : Int) := by
  have h2m : 2 ^ m ≤ 2 ^ 20 := Nat.pow_le_pow_right (by omega) hm
  have e : (2 : Int) ^ m = ((2 ^ m : Nat) : Int) := by push_cast; rfl
  have eQ : wrap64 (wrap64 ((2 : Int) ^ m) - 1) = 2 ^ m - 1 := by
    rw [e]
    generalize 2 ^ m = y at *
    rw [IntWalk.wrap64_in (y : Int) (by omega), IntWalk.wrap64_in _ (by omega)]
  rw [eQ, bits_mask .i64 63 (by decide) wrap_i64 m (by omega) (u : Int) (by omega) (by omega)]
  push_cast; rfl
set_option maxHeartbeats 1000000 in
theorem symbol_any {v size from_ : Nat} (w : World) (hs : 1 ≤ size) (hs2 : size ≤ 16) (hf : from_ ≤ v) (hv : v ≤ 1048576) :
    Calls Tryz.prog 69 #[.int .i64 v, .int .i64 size, .int .i64 from_] w fun e w' => e = .returned (.tuple #[.int .i64 ((symM v size from_).1 : Nat), .int .i64 ((symM v size from_).2.1 : Nat), .int .i64 ((symM v size from_).2.2 : Nat)]) ∧ Below w.heap.size w w' := by
  have HS : Hid (symM v size from_ = if v - from_ < 2 * size then (v - from_, 0, 0) else (((v - from_) / size).log2 * size + (v - from_) / 2 ^ ((v - from_) / size).log2, (v - from_) % 2 ^ ((v - from_) / size).log2, ((v - from_) / size).log2)) := rfl
  generalize symM v size from_ = res at *
  obtain ⟨u, hu⟩ : ∃ u, v = from_ + u := ⟨v - from_, by omega⟩
  have hsub : (v : Int) - (from_ : Int) = (u : Int) := by omega
  have hres : res = if u < 2 * size then (u, 0, 0) else ((u / size).log2 * size + u / 2 ^ (u / size).log2, u % 2 ^ (u / size).log2, (u / size).log2) := by
    rw [HS.out, show v - from_ = u by omega]
  have HR := Lib.hid hres
  have hu2 : u ≤ 1048576 := by omega
  clear HS hres hu
  by_cases h : u < 2 * size
  · have e : Hid (res = (u, 0, 0)) := by show _ = _; rw [HR.out, if_pos h]
    have hd : decide ((u : Int) < 2 * (size : Int)) = true := decide_eq_true (by omega)
    go_enter Tryz.func69, Tryz.ntmps69
    go_wp2
    go_ret3
    rw [e.out]
    exact ⟨rfl, Below.refl _ _⟩
  · have hd : decide ((u : Int) < 2 * (size : Int)) = false := decide_eq_false (by omega)
    go_enter Tryz.func69, Tryz.ntmps69
    go_wp2
    go_loopw [9] (fun si wr => ∃ m : Nat, si = .int .i64 m ∧ size * 2 ^ m ≤ u ∧ w = wr) (fun si _ => 21 - (intOf si).toNat)
    case atStart => exact ⟨0, rfl, by omega, rfl⟩
    case round =>
      obtain ⟨m, rfl, hm, rfl⟩ := hrel
      have hm20 : m ≤ 20 := by
        have h1 : 1 * 2 ^ m ≤ size * 2 ^ m := Nat.mul_le_mul_right _ hs
        have h2 : 2 ^ m < 2 ^ 21 := by omega
        have := (Nat.pow_lt_pow_iff_right (by omega : 1 < 2)).mp h2
        omega
      have h2m : 2 ^ m ≤ 2 ^ 20 := Nat.pow_le_pow_right (by omega) hm20
      have q1 : 0 < size * 2 ^ m := Nat.mul_pos hs (Nat.pow_pos (by omega))
      have q2 : (2 * size) * 2 ^ m = 2 * (size * 2 ^ m) := Nat.mul_assoc _ _ _
      have q3 : (2 * (size : Int) * 2 ^ m) = ((2 * size * 2 ^ m : Nat) : Int) := by push_cast; rfl
      have q4 : wrap64 (2 * (size : Int) * 2 ^ m) = 2 * (size : Int) * 2 ^ m := IntWalk.wrap64_in _ (by rw [q3]; omega)
      by_cases hlt : 2 * size * 2 ^ m ≤ u
      · have hd2 : decide (2 * (size : Int) * 2 ^ m ≤ (u : Int)) = true := decide_eq_true (by rw [q3]; omega)
        clear q2 q3
        go_wp2
        go_roundw
        case rel => exact ⟨m + 1, by go_num, by rw [Nat.pow_succ, ← Nat.mul_assoc]; have := Nat.mul_assoc 2 size (2 ^ m); omega, trivial⟩
        case measure => simp [intOf]; omega
      · have hd2 : decide (2 * (size : Int) * 2 ^ m ≤ (u : Int)) = false := decide_eq_false (by rw [q3]; omega)
        clear q2 q3
        go_wp2
        go_region
        have hl := log2_of hs hm (by omega)
        have er : res = (m * size + u / 2 ^ m, u % 2 ^ m, m) := by rw [HR.out, if_neg h, hl]
        have hms : m * size ≤ 320 := Nat.mul_le_mul hm20 hs2
        have hdu : u / 2 ^ m ≤ u := Nat.div_le_self _ _
        have eA := sym_a (m := m) (size := size) (u := u) hms hu2
        have eB := sym_b (m := m) (u := u) hm20 hu2
        rw [eA, eB]
        clear eA eB hdu hms hl HR q1 q4 hd2
        go_wp2
        go_ret3
        rw [er]
        exact ⟨rfl, (Below.refl _ _).drew⟩
set_option maxRecDepth 20000 in
theorem length_any {n : Nat} (w : World) (h1 : 3 ≤ n) (h2 : n ≤ 258) :
    Calls Tryz.prog 42 #[.int .i64 n] w fun e w' => e = .returned (.tuple #[.int .i64 ((lengthM n).1 : Nat), .int .i64 ((lengthM n).2.1 : Nat), .int .i64 ((lengthM n).2.2 : Nat)]) ∧ Below w.heap.size w w' := by
  by_cases h : n = 258
  · have e : lengthM n = (285, 0, 0) := by unfold lengthM; rw [if_pos h]
    rw [e]
    subst h
    go_enter Tryz.func42, Tryz.ntmps42
    go_wp2
    go_ret3
    exact ⟨rfl, Below.refl _ _⟩
  · have hs := length_fact ⟨n, by omega⟩ h1
    simp only [] at hs
    have e : lengthM n = (257 + (symM n 4 3).1, (symM n 4 3).2.1, (symM n 4 3).2.2) := by unfold lengthM; rw [if_neg h]
    have hd : decide ((n : Int) = 258) = false := decide_eq_false (by omega)
    have HS := Lib.hid (fun w => symbol_any (v := n) (size := 4) (from_ := 3) w (by omega) (by omega) h1 (by omega))
    rw [e]
    generalize symM n 4 3 = res at *
    clear e
    go_enter Tryz.func42, Tryz.ntmps42
    go_wp2_with fail
    refine (HS.out _).mono ?_
    rintro e w1 ⟨rfl, hb⟩
    have HB := Lib.hid hb
    clear hb
    go_wp2
    go_ret3
    exact ⟨by push_cast; rfl, HB.out⟩
theorem distance_any {n : Nat} (w : World) (h1 : 1 ≤ n) (h2 : n ≤ 32768) :
    Calls Tryz.prog 43 #[.int .i64 n] w fun e w' => e = .returned (.tuple #[.int .i64 ((distM n).1 : Nat), .int .i64 ((distM n).2.1 : Nat), .int .i64 ((distM n).2.2 : Nat)]) ∧ Below w.heap.size w w' := by
  have HS := Lib.hid (fun w => symbol_any (v := n) (size := 2) (from_ := 1) w (by omega) (by omega) h1 (by omega))
  unfold distM
  generalize symM n 2 1 = res at *
  go_enter Tryz.func43, Tryz.ntmps43
  go_wp2_with fail
  refine (HS.out _).mono ?_
  rintro e w1 ⟨rfl, hb⟩
  have HB := Lib.hid hb
  clear hb
  go_wp2
  go_ret3
  exact ⟨rfl, HB.out⟩
end Go.Proofs.YtmgbjgjlddifaaaGreat.Def
