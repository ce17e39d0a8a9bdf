/-
  Texts of this claim, joined by program (InfS, InfR, InfQ, InfK). Walks: the reference's Align, Bytes.
-/
import Derived.Test.YtmgbjgjlddifaaaGreatZG13
import Derived.Deep.RegionLaw
import Derived.Test.YtmgbjgjlddifaaaGreatZG7
import Derived.Test.YtmgbjgjlddifaaaGreatZG4
import Derived.Test.YtmgbjgjlddifaaaGreatZG23
import Derived.Deep.RegionHeld3
set_option linter.unusedVariables false
set_option linter.unusedSimpArgs false
namespace Go.Proofs.YtmgbjgjlddifaaaGreat.Inf
open Go.RowKit K Bits Pfx Def Wrt Bak Ref RefR RefT RefX

/-- an append of what is read, in a region that draws its order -/
theorem step_append_sl {P : Program} {ops : Array Oper} {o : Oper} {a : Act} {w : World} {K : Act → World → Prop} {Q : Exit → Act → World → Prop} {E : Prop} (hgd : o.guard = none) (s x : Operand) (t : TypeId)
    (ho : o.op = .call { callee := .builtin .append, args := #[s, x], argTypes := #[t, t] }) (base e size bytes : Nat) (z : Value) (ht : P.underlying t = some (.slice e))
    (hinfo : (P.info? e).map (fun i => (i.zero, i.size, i.bytes)) = some (some z, size, bytes)) (hzs : z.cells.size = size) (hsz : 0 < size)
    (v : Value) (n : Nat) (xs : List Value) (hs : a.eval s = v) (hown : w.ownsRow base e size v n xs)
    (A : Option Addr) (m c : Nat) (news : List Value) (hx : a.eval x = .slice A m c) (hl : news.length = m * size) (hr : Sl w A news) (h1 : ∀ u ∈ news, u.oneCell' = true)
    (h63 : n + m ≤ maxLen) (hbytes : (n + m) * bytes ≤ 140737488355328) (hbase : base ≤ w.heap.size)
    (h : ∀ v' w', w'.ownsRow base e size v' (n + m) (xs ++ news) → w.grownBy w' v.ownBlock → (v'.ownBlock = v.ownBlock ∨ v'.ownBlock = some w.heap.size) → K (a.put o.dst v') w') :
    if Region.wanted o (yielded ops a.tmps) = true then Oper.wp P o a w K Q else E := by
  have hw : Region.wanted o (yielded ops a.tmps) = true := by simp [Region.wanted, hgd]
  rw [if_pos hw]
  obtain ⟨i, hi, hz, hz1, hz2⟩ := info_parts hinfo
  obtain ⟨v', w', hrun, g1, g2, g3⟩ : ∃ v' w', (Builtin.append_ #[t, t] o.type #[v, .slice A m c]).run P w = .ok v' w' ∧ w'.ownsRow base e size v' (n + m) (xs ++ news) ∧ w.grownBy w' v.ownBlock ∧ (v'.ownBlock = v.ownBlock ∨ v'.ownBlock = some w.heap.size) := by
    rcases Nat.eq_zero_or_pos m with hm | hm
    · subst hm
      have hn0 : news = [] := List.eq_nil_of_length_eq_zero (by simpa using hl)
      subst hn0
      refine ⟨v, w, ?_, by simpa using hown, World.grownBy.refl w _, .inl rfl⟩
      rcases hown.2 with ⟨rfl, rfl⟩ | ⟨g, cap, cur, rfl, _, _, hnc, _⟩
      · cases A <;> simp [Builtin.append_, run_underlying ht, sizeOf, typeInfo, hi, Builtin.lenOf, Builtin.firstCells, loadCells, loadCellsFrom]
      · cases A <;> simp [Builtin.append_, run_underlying ht, sizeOf, typeInfo, hi, Builtin.lenOf, Builtin.firstCells, hnc, storeCells, loadCells, loadCellsFrom]
    · have h0 : 0 < news.length := by rw [hl]; exact Nat.mul_pos hm hsz
      obtain ⟨b, off, rfl, _⟩ := hr 0 news[0] (List.getElem?_eq_getElem h0)
      obtain ⟨v', w', hr1, h2, h3, _, h5⟩ := run_append_own_at (P := P) w base t o.type e i z size bytes ht hi hz hz1 hz2 hzs hsz v n xs hown ⟨b, off, none⟩ m c news hl (fun j u hu => by
        obtain ⟨b', off', e', hc⟩ := hr j u hu
        injection e' with e'
        injection e' with e1 e2
        subst e1 e2
        rw [Addr.add_lit]
        exact hc) h1 h63 hbytes hbase
      exact ⟨v', w', hr1, h2, h3, h5⟩
  unfold Oper.wp execOp
  simp only [ho, resolve, invoke, builtin, Sem.run_bind, Sem.run_pure, Result.andThen_ok, List.map_toArray, List.map_cons, List.map_nil, hs, hx, hrun]
  exact h _ _ g1 g2 g3
def AlignP (w : World) (A : Option Addr) (n c a : Nat) (e : Ending) (w' : World) : Prop := e = .returned (.agg #[.slice A n c, .bool false, .int .i64 ((8 * ((a + 7) / 8) : Nat) : Int)]) ∧ Below w.heap.size w w'
set_option maxHeartbeats 1000000 in
theorem ralign_any {A : Option Addr} {n c a : Nat} (w : World) (hn : n ≤ 140737488351232) (ha : a ≤ 8 * n) :
    Calls Tryz.prog 58 #[.agg #[.slice A n c, .bool false, .int .i64 a]] w (AlignP w A n c a) := by
  have e1 : (((a : Int) + 7).tdiv 8) = (((a + 7) / 8 : Nat) : Int) := by rw [Int.tdiv_eq_ediv_of_nonneg (by omega)]; omega
  go_enter Tryz.func58, Tryz.ntmps58
  go_wp2
  refine bodyPost_ret (v := .agg #[.slice A n c, .bool false, .int .i64 ((8 * ((a + 7) / 8) : Nat) : Int)]) ?_ rfl ⟨rfl, ?_⟩
  · simp [results, Tryz.results58, go_sem]
    omega
  · exact ((Below.refl _ _).alloc (Nat.le_refl _) _).alloc (by simp) _
def RBytesP (w : World) (A : Option Addr) (x : List Int) (c p n : Nat) (e : Ending) (w' : World) : Prop :=
  ∃ A1 c1, e = .returned (.tuple #[.agg #[.slice A x.length c, .bool false, .int .i64 (8 * ((p : Int) + (n : Int)))], .slice A1 n c1, .int .i64 0]) ∧ SI w' .u8 A1 n ((x.drop p).take n) ∧ Below w.heap.size w w' ∧ ∀ g q s, A1 = some ⟨g, q, s⟩ → w.heap.size ≤ g
theorem own_lo {w : World} {base e sz n c m : Nat} {A : Option Addr} {xs : List Value} (h : w.ownsRow base e sz (.slice A n c) m xs) : ∀ g q s, A = some ⟨g, q, s⟩ → base ≤ g := fun g q s e => by
  rcases h.2 with ⟨hv, -⟩ | ⟨g', cap, cur, hv, hb, -⟩
  · injection hv with hv; rw [hv] at e; cases e
  · injection hv with hv; rw [hv] at e; injection e with e; injection e with e; omega
theorem drop_sl {w : World} {b off p n : Nat} {x : List Int} (h : SI w .u8 (some ⟨b, off, none⟩) x.length x) (hp : p + n ≤ x.length) (q : Nat) (hq : 0 < n → q = off + p) : SI w .u8 (some ⟨b, q, none⟩) n ((x.drop p).take n) := by
  have hbig := h.bigb
  refine ⟨by rw [List.length_take, List.length_drop]; omega, by show _ * 1 ≤ _; omega, fun j u hu => ?_⟩
  rw [List.getElem?_map, List.getElem?_take] at hu
  by_cases hj : j < n
  · rw [if_pos hj, List.getElem?_drop] at hu
    obtain ⟨b', o', e, hc⟩ := h.sl (p + j) u (by rw [List.getElem?_map]; exact hu)
    injection e with e
    injection e with e1 e2
    subst e1 e2
    refine ⟨b, q, rfl, ?_⟩
    rw [hq (by omega), Nat.add_assoc]; exact hc
  · rw [if_neg hj] at hu; cases hu
theorem cells3 {w : World} {q T : Nat} {x0 x1 x2 : Value} (h : w.heap[q]? = some (.cells #[x0, x1, x2] T (0, 0))) :
    (w.cell? ⟨q, 0, none⟩ = some x0 ∧ w.cell? ⟨q, 1, none⟩ = some x1 ∧ w.cell? ⟨q, 2, none⟩ = some x2) ∧ w.frozen? ⟨q, 0, none⟩ = false ∧ w.frozen? ⟨q, 1, none⟩ = false ∧ w.frozen? ⟨q, 2, none⟩ = false := by
  simp [World.cell?, World.frozen?, h]
theorem made_block {W w5 : World} {o : Obj} {v : Value} {q : Nat} (hg : (W.drew.alloc o).grownBy w5 v.ownBlock) (hv : v.ownBlock = some W.heap.size) (hq : q < W.heap.size) : w5.heap[q]? = W.heap[q]? := by
  rw [hg.block q (by rw [World.size_alloc]; show q < W.heap.size + 1; omega) (fun e => by rw [hv] at e; injection e with e; omega)]
  exact Below.heap_alloc _ _ _ hq
theorem made_below {W w5 : World} {o : Obj} {v : Value} (hg : (W.drew.alloc o).grownBy w5 v.ownBlock) (hv : v.ownBlock = some W.heap.size) : Below W.heap.size W w5 :=
  ((Below.refl _ W).drew.alloc (Nat.le_refl _) o).grown hg (by rw [World.size_alloc]; show W.heap.size ≤ W.heap.size + 1; omega) (fun b e => by rw [hv] at e; injection e with e; show W.heap.size ≤ b; omega)
theorem made_at {W : World} {o : Obj} {v v' : Value} (h : v'.ownBlock = v.ownBlock ∨ v'.ownBlock = some (W.drew.alloc o).heap.size) (hv : v.ownBlock = some W.heap.size := by rfl) : ∀ g, v'.ownBlock = some g → W.heap.size ≤ g := fun g e => by
  rcases h with q | q
  · rw [q, hv] at e; injection e with e; omega
  · rw [q] at e; injection e with e; rw [← e, World.size_alloc]; show W.heap.size ≤ W.heap.size + 1; omega
theorem set3_block {W : World} {q T : Nat} {x0 x1 x2 : Value} (h : W.heap[q]? = some (.cells #[x0, x1, x2] T (0, 0))) (y0 y1 y2 : Value) :
    ∃ W2, W2 = ((W.setCell ⟨q, 0, none⟩ y0).setCell ⟨q, 1, none⟩ y1).setCell ⟨q, 2, none⟩ y2 ∧ W2.heap[q]? = some (.cells #[y0, y1, y2] T (0, 0)) ∧ W.grownBy W2 (some q) := by
  have hr : W.rowIs q T 3 (fun i => match i with | 0 => x0 | 1 => x1 | _ => x2) := ⟨_, h, rfl, fun i hi => by
    have : i = 0 ∨ i = 1 ∨ i = 2 := by omega
    rcases this with rfl | rfl | rfl <;> rfl⟩
  refine ⟨_, rfl, ?_, ((set_grown _ _ _ _).trans (set_grown _ _ _ _)).trans (set_grown _ _ _ _)⟩
  obtain ⟨c, h1, h2, h3⟩ := ((hr.set 0 y0).set 1 y1).set 2 y2
  have e : c = #[y0, y1, y2] := by
    apply Array.ext'
    apply List.ext_getElem?
    intro i
    by_cases hi : i < 3
    · have h4 := h3 i hi
      rw [Array.getElem?_toList, h4]
      have : i = 0 ∨ i = 1 ∨ i = 2 := by omega
      rcases this with rfl | rfl | rfl <;> rfl
    · rw [List.getElem?_eq_none (by simp; omega), List.getElem?_eq_none (by simp; omega)]
  rw [h1, e]
set_option maxRecDepth 20000 in
set_option maxHeartbeats 2000000 in
theorem rbytes_any {A : Option Addr} {c p n : Nat} {x : List Int} (w : World) (HX : SI w .u8 A x.length x) (hc : x.length ≤ c) (hc2 : c ≤ 9223372036854775807) (hp : p + n ≤ x.length) (h0 : 0 < x.length) :
    Calls Tryz.prog 59 #[.agg #[.slice A x.length c, .bool false, .int .i64 (8 * (p : Int))], .int .i64 n] w (RBytesP w A x c p n) := by
  obtain ⟨b, off, -, rfl, -⟩ := HX.cells (i := 0) h0
  have hbig := HX.bigb
  have HXX := Lib.hid HX
  clear HX
  have e1 : (8 * (p : Int) + 7) / 8 = (p : Int) := by omega
  have d1 : decide ((n : Int) < 0) = false := decide_eq_false (by omega)
  have d2 : decide ((x.length : Int) - (p : Int) < (n : Int)) = false := decide_eq_false (by omega)
  go_enter Tryz.func59, Tryz.ntmps59
  go_wp2
  have HB : Hid (Below w.heap.size w ((w.alloc (.cells #[.slice (some ⟨b, off, none⟩) x.length c, .bool false, .int .i64 (8 * ((p : Int) + (n : Int)))] 56)).alloc (.cells #[.slice none 0 0, .bool false, .int .i64 0] 56))) :=
    ((Below.refl _ _).alloc (Nat.le_refl _) _).alloc (by simp) _
  have hr0 : Hid (((w.alloc (.cells #[.slice (some ⟨b, off, none⟩) x.length c, .bool false, .int .i64 (8 * ((p : Int) + (n : Int)))] 56)).alloc (.cells #[.slice none 0 0, .bool false, .int .i64 0] 56)).heap[w.heap.size]? = some (.cells #[.slice (some ⟨b, off, none⟩) x.length c, .bool false, .int .i64 (8 * ((p : Int) + (n : Int)))] 56 (0, 0))) := heap_two w _ _ _
  have hr1 : Hid (((w.alloc (.cells #[.slice (some ⟨b, off, none⟩) x.length c, .bool false, .int .i64 (8 * ((p : Int) + (n : Int)))] 56)).alloc (.cells #[.slice none 0 0, .bool false, .int .i64 0] 56)).heap[w.heap.size + 1]? = some (.cells #[.slice none 0 0, .bool false, .int .i64 0] 56 (0, 0))) := by
    have := heap_alloc_new (w.alloc (.cells #[.slice (some ⟨b, off, none⟩) x.length c, .bool false, .int .i64 (8 * ((p : Int) + (n : Int)))] 56)) (.cells #[.slice none 0 0, .bool false, .int .i64 0] 56)
    rwa [World.size_alloc] at this
  generalize hW : ((w.alloc (.cells #[.slice (some ⟨b, off, none⟩) x.length c, .bool false, .int .i64 (8 * ((p : Int) + (n : Int)))] 56)).alloc (.cells #[.slice none 0 0, .bool false, .int .i64 0] 56)) = W at HB hr0 hr1
  try rw [hW]
  clear hW
  have hz0 : w.heap.size < W.heap.size := (Array.getElem?_eq_some_iff.1 hr0.out).1
  have hz1 : w.heap.size + 1 < W.heap.size := (Array.getElem?_eq_some_iff.1 hr1.out).1
  obtain ⟨⟨a0, a1, a2⟩, f0, f1, f2⟩ := cells3 hr0.out
  obtain ⟨⟨d0, d1', d2'⟩, g0, g1, g2⟩ := cells3 hr1.out
  have s1 : IntKind.i64.wrap ((p : Int) + (n : Int)) = (p : Int) + (n : Int) := IntWalk.i64_in _ (by omega)
  have s2 : ((p : Int) + (n : Int)).toNat = p + n := by omega
  have s3 : (0 : Int) ≤ (p : Int) + (n : Int) := by omega
  have s4 : (p : Int) + (n : Int) ≤ (c : Int) := by omega
  have s5 : (p : Int) ≤ (p : Int) + (n : Int) := by omega
  have s6 : p + n - p = n := by omega
  have HLEN : Hid ((((x.drop p).take n).map (Value.int .u8)).length = n * 1) := by show _ = _; rw [List.length_map, List.length_take, List.length_drop]; omega
  by_cases hcp : c = p
  · subst hcp
    have s7 : (c : Int) + (n : Int) ≤ (c : Int) := by omega
    go_region_law (
      refine step_append_sl (by rfl) (.tmp 29) (.tmp 36) _ (by rfl) w.heap.size 5 1 1 _ Tryz.underlying22 infoU8 rfl (by omega) (.slice (some ⟨W.heap.size, 0, none⟩) 0 0) 0 [] (by rfl) (World.ownsRow_made W.drew #[] 0 (by show _ ≤ W.heap.size; omega) (by simp [maxLen]) rfl) (some ⟨b, off, none⟩) n 0 (((x.drop c).take n).map (.int .u8)) (by rfl) HLEN.out (((drop_sl (HXX.out.below HB.out (Nat.le_refl _)) hp off (fun h => by omega)).below (Below.refl _ W).drew (Nat.le_refl _)).alloc _).sl (ones _ _) (by unfold maxLen; omega) (by omega) (by simp; omega) ?_
      intro v' w5 hown5 hg5 hat5
      obtain ⟨A5, c5, rfl⟩ := own_form hown5
      have hr5 := Lib.hid ((made_block hg5 rfl hz1).trans hr1.out)
      have HB5 := Lib.hid (HB.out.trans ((made_below hg5 rfl).mono HB.out.size))
      have HO5 := Lib.hid hown5
      have HA5 := Lib.hid (made_at hat5)
      have hz5 := Lib.hid hg5.size
      obtain ⟨⟨k0, k1, k2⟩, l0, l1, l2⟩ := cells3 ((made_block hg5 rfl hz0).trans hr0.out)
      obtain ⟨⟨q0, q1, q2⟩, m0, m1, m2⟩ := cells3 hr5.out
      clear hown5 hg5 hat5)
    all_goals (
      obtain ⟨W6, hW6, hr6, hg6⟩ := set3_block hr5.out (.slice (some ⟨b, off, none⟩) x.length c) (.bool false) (.int .i64 (8 * ((c : Int) + (n : Int))))
      rw [← hW6]
      have HS6 : Hid (SI W6 .u8 A5 n ((x.drop c).take n)) := SI.of_own (base := w.heap.size) (by simpa using own_frame HO5.out (fun g hg => hg6.block g (HO5.out.lt g hg).2 (fun e => by have := HA5.out g hg; injection e with e; omega))) (by show _ * 1 ≤ _; omega)
      have HB6 := Lib.hid (HB5.out.grown hg6 (by have := HB5.out.size; omega) (fun b e => by injection e with e; omega))
      clear hW6 hg6 q0 q1 q2 m0 m1 m2 k0 k1 k2 l0 l1 l2
      obtain ⟨⟨q0, q1, q2⟩, -⟩ := cells3 hr6
      have hz6 : w.heap.size + 1 < W6.heap.size := (Array.getElem?_eq_some_iff.1 hr6).1
      have HR6 := Lib.hid hr6
      clear hr6
      go_wp2_with fail
      refine bodyPost_ret (v := .tuple #[.agg #[.slice (some ⟨b, off, none⟩) x.length c, .bool false, .int .i64 (8 * ((c : Int) + (n : Int)))], .slice A5 n c5, .int .i64 0]) ?_ rfl ⟨A5, c5, rfl, HS6.out, HB6.out, own_lo HO5.out⟩
      simp [results, Tryz.results59, go_sem, q0, q1, q2, hz6])
  · go_region_law (
      refine step_append_sl (by rfl) (.tmp 29) (.tmp 36) _ (by rfl) w.heap.size 5 1 1 _ Tryz.underlying22 infoU8 rfl (by omega) (.slice (some ⟨W.heap.size, 0, none⟩) 0 0) 0 [] (by rfl) (World.ownsRow_made W.drew #[] 0 (by show _ ≤ W.heap.size; omega) (by simp [maxLen]) rfl) (some ⟨b, off + p, none⟩) n (c - p) (((x.drop p).take n).map (.int .u8)) (by rfl) HLEN.out (((drop_sl (HXX.out.below HB.out (Nat.le_refl _)) hp (off + p) (fun _ => rfl)).below (Below.refl _ W).drew (Nat.le_refl _)).alloc _).sl (ones _ _) (by unfold maxLen; omega) (by omega) (by simp; omega) ?_
      intro v' w5 hown5 hg5 hat5
      obtain ⟨A5, c5, rfl⟩ := own_form hown5
      have hr5 := Lib.hid ((made_block hg5 rfl hz1).trans hr1.out)
      have HB5 := Lib.hid (HB.out.trans ((made_below hg5 rfl).mono HB.out.size))
      have HO5 := Lib.hid hown5
      have HA5 := Lib.hid (made_at hat5)
      have hz5 := Lib.hid hg5.size
      obtain ⟨⟨k0, k1, k2⟩, l0, l1, l2⟩ := cells3 ((made_block hg5 rfl hz0).trans hr0.out)
      obtain ⟨⟨q0, q1, q2⟩, m0, m1, m2⟩ := cells3 hr5.out
      clear hown5 hg5 hat5)
    all_goals (
      obtain ⟨W6, hW6, hr6, hg6⟩ := set3_block hr5.out (.slice (some ⟨b, off, none⟩) x.length c) (.bool false) (.int .i64 (8 * ((p : Int) + (n : Int))))
      rw [← hW6]
      have HS6 : Hid (SI W6 .u8 A5 n ((x.drop p).take n)) := SI.of_own (base := w.heap.size) (by simpa using own_frame HO5.out (fun g hg => hg6.block g (HO5.out.lt g hg).2 (fun e => by have := HA5.out g hg; injection e with e; omega))) (by show _ * 1 ≤ _; omega)
      have HB6 := Lib.hid (HB5.out.grown hg6 (by have := HB5.out.size; omega) (fun b e => by injection e with e; omega))
      clear hW6 hg6 q0 q1 q2 m0 m1 m2 k0 k1 k2 l0 l1 l2
      obtain ⟨⟨q0, q1, q2⟩, -⟩ := cells3 hr6
      have hz6 : w.heap.size + 1 < W6.heap.size := (Array.getElem?_eq_some_iff.1 hr6).1
      have HR6 := Lib.hid hr6
      clear hr6
      go_wp2_with fail
      refine bodyPost_ret (v := .tuple #[.agg #[.slice (some ⟨b, off, none⟩) x.length c, .bool false, .int .i64 (8 * ((p : Int) + (n : Int)))], .slice A5 n c5, .int .i64 0]) ?_ rfl ⟨A5, c5, rfl, HS6.out, HB6.out, own_lo HO5.out⟩
      simp [results, Tryz.results59, go_sem, q0, q1, q2, hz6])
end Go.Proofs.YtmgbjgjlddifaaaGreat.Inf
set_option linter.unusedVariables false
set_option linter.unusedSimpArgs false
namespace Go.Proofs.YtmgbjgjlddifaaaGreat.Inf
open Go.RowKit K Bits Pfx Def Wrt Bak Ref RefR

theorem BitsAt.sub {x pre m post : List Int} (e : x = pre ++ (m ++ post)) : BitsAt x (8 * pre.length) (bitsOf m) := by
  subst e
  refine ⟨by rw [bitsOf_len]; simp; omega, fun j y hy => ?_⟩
  have hj : j < 8 * m.length := by rw [← bitsOf_len]; exact (List.getElem?_eq_some_iff.1 hy).1
  have hm : m[j / 8]? = some m[j / 8] := List.getElem?_eq_getElem (by omega)
  have hx : (pre ++ (m ++ post))[(8 * pre.length + j) / 8]? = some m[j / 8] := by
    rw [show (8 * pre.length + j) / 8 = pre.length + j / 8 by omega, List.getElem?_append_right (by omega), Nat.add_sub_cancel_left, List.getElem?_append_left (by omega)]; exact hm
  rw [bit_lo _ _ _ hx, show (8 * pre.length + j) % 8 = j % 8 by omega]
  have := bitsOf_get m j hj
  rw [getD_of hy, getD_of hm] at this
  exact this.symm
theorem bits0 : bitsOf [0] = putV false 0 1 ++ (putV false 0 2 ++ putV false 0 5) := by decide
theorem bits1 : bitsOf [1] = putV false 1 1 ++ (putV false 0 2 ++ putV false 0 5) := by decide
/-- a stored block at byte p of a stream -/
structure ChunkAt (x : List Int) (p : Nat) (last : Int) (d : List Int) : Prop where
  one : takeV x false (8 * p) 1 = last
  kind : takeV x false (8 * p + 1) 2 = 0
  n : takeV x false (8 * (p + 1)) 16 = (d.length : Int)
  m : takeV x false (8 * (p + 3)) 16 = 65535 - (d.length : Int)
  le : p + 5 + d.length ≤ x.length
  short : d.length ≤ 65535
  data : (x.drop (p + 5)).take d.length = d
theorem chunk_at {x pre d post : List Int} {last : Int} (hl : last = 0 ∨ last = 1) (hd : d.length ≤ 65535) (e : x = pre ++ (chunk last d ++ post)) : ChunkAt x pre.length last d := by
  have e1 : x = pre ++ ([last] ++ ([(d.length : Int) % 256, (d.length : Int) / 256, (65535 - (d.length : Int)) % 256, (65535 - (d.length : Int)) / 256] ++ d ++ post)) := by rw [e]; simp [chunk]
  have e2 : x = (pre ++ [last]) ++ ([(d.length : Int) % 256, (d.length : Int) / 256] ++ ([(65535 - (d.length : Int)) % 256, (65535 - (d.length : Int)) / 256] ++ d ++ post)) := by rw [e]; simp [chunk]
  have e3 : x = (pre ++ [last, (d.length : Int) % 256, (d.length : Int) / 256]) ++ ([(65535 - (d.length : Int)) % 256, (65535 - (d.length : Int)) / 256] ++ (d ++ post)) := by rw [e]; simp [chunk]
  have e4 : x = (pre ++ [last, (d.length : Int) % 256, (d.length : Int) / 256, (65535 - (d.length : Int)) % 256, (65535 - (d.length : Int)) / 256]) ++ (d ++ post) := by rw [e]; simp [chunk]
  have b1 := BitsAt.sub e1
  have b2 := BitsAt.sub e2
  have b3 := BitsAt.sub e3
  rw [← put16 _ (by omega) (by omega)] at b2 b3
  simp only [List.length_append, List.length_cons, List.length_nil, Nat.zero_add] at b2 b3
  have hb : takeV x false (8 * pre.length) 1 = last ∧ takeV x false (8 * pre.length + 1) 2 = 0 := by
    rcases hl with rfl | rfl
    · rw [bits0] at b1
      have b4 := b1.right
      rw [show (putV false 0 1).length = 1 from by simp [putV]] at b4
      exact ⟨take_at b1.left (by omega) (by decide), take_at b4.left (by omega) (by decide)⟩
    · rw [bits1] at b1
      have b4 := b1.right
      rw [show (putV false 1 1).length = 1 from by simp [putV]] at b4
      exact ⟨take_at b1.left (by omega) (by decide), take_at b4.left (by omega) (by decide)⟩
  refine ⟨hb.1, hb.2, take_at b2 (by omega) (by omega), take_at b3 (by omega) (by omega), ?_, hd, ?_⟩
  · have := congrArg List.length e4
    simp only [List.length_append, List.length_cons, List.length_nil] at this
    omega
  · have h5 : pre.length + 5 = (pre ++ [last, (d.length : Int) % 256, (d.length : Int) / 256, (65535 - (d.length : Int)) % 256, (65535 - (d.length : Int)) / 256]).length := by simp
    rw [h5, e4, List.drop_left, List.take_left]
/-- what is left of a stored stream: r is still to be read from byte p on; the stream's m bytes begin the row -/
def RestAt (x : List Int) (m p : Nat) (r : List Int) : Prop := ∃ f pre post, x = pre ++ (storedF f r ++ post) ∧ pre.length = p ∧ r.length ≤ 65535 * f ∧ 0 < f ∧ m + post.length = x.length
theorem RestAt.le {x : List Int} {m p : Nat} {r : List Int} (h : RestAt x m p r) : m ≤ x.length := by
  obtain ⟨f, pre, post, -, -, -, -, h⟩ := h; omega
theorem rest_on (b z : List Int) : RestAt (storedB b ++ z) (storedB b).length 0 b := ⟨b.length / 65535 + 1, [], z, rfl, rfl, by omega, by omega, by rw [List.length_append]⟩
theorem rest_start (b : List Int) : RestAt (storedB b) (storedB b).length 0 b := by
  have := rest_on b []
  rwa [List.append_nil] at this
theorem RestAt.next {x r : List Int} {m p : Nat} (h : RestAt x m p r) :
    (ChunkAt x p 1 r ∧ m = p + 5 + r.length) ∨ (65535 < r.length ∧ ChunkAt x p 0 (r.take 65535) ∧ RestAt x m (p + 65540) (r.drop 65535)) := by
  obtain ⟨f, pre, post, hx, rfl, hr, hf, hm⟩ := h
  obtain ⟨f, rfl⟩ : ∃ g, f = g + 1 := ⟨f - 1, by omega⟩
  rw [storedF] at hx
  by_cases hl : r.length ≤ 65535
  · rw [if_pos hl] at hx
    refine .inl ⟨chunk_at (post := post) (.inr rfl) hl hx, ?_⟩
    have h2 := congrArg List.length hx
    unfold chunk at h2; simp at h2; omega
  · rw [if_neg hl] at hx
    have ht : (r.take 65535).length = 65535 := by rw [List.length_take]; omega
    rw [List.append_assoc] at hx
    refine .inr ⟨by omega, chunk_at (.inl rfl) (by omega) hx, f, pre ++ chunk 0 (r.take 65535), post, by rw [hx, List.append_assoc], ?_, by rw [List.length_drop]; omega, by omega, hm⟩
    rw [List.length_append]; unfold chunk
    rw [List.length_append, ht]; simp
end Go.Proofs.YtmgbjgjlddifaaaGreat.Inf
set_option linter.unusedVariables false
set_option linter.unusedSimpArgs false
namespace Go.Proofs.YtmgbjgjlddifaaaGreat.Inf
open Go.RowKit K Bits Pfx Def Wrt Bak Ref RefR RefT RefX

/-- stored's memory: the state, the result -/
structure TS (w W : World) (S : Nat → Prop) (A : Option Addr) (n c : Nat) (a : Int) (Ao : Option Addr) (no co : Nat) (most : Int) : Prop where
  chg : Chg w W S
  st : Six W w.heap.size 58 (.slice A n c) (.bool false) (.int .i64 a) (.slice Ao no co) (.int .i64 most) (.int .i64 0)
  rs : Six W (w.heap.size + 1) 58 (.slice none 0 0) (.bool false) (.int .i64 0) (.slice none 0 0) (.int .i64 0) (.int .i64 0)
section
variable {w W W2 : World} {S : Nat → Prop} {A Ao : Option Addr} {n c no co : Nat} {a most : Int}
theorem TS.lt (h : TS w W S A n c a Ao no co most) : w.heap.size + 1 < W.heap.size := h.rs.lt
theorem TS.below (h : TS w W S A n c a Ao no co most) (hb : Below W.heap.size W W2) : TS w W2 S A n c a Ao no co most := by
  have hl := h.lt
  exact ⟨h.chg.trans (Chg.of_below hb) (fun _ _ h => h), h.st.block (hb.block _ (by omega)), h.rs.block (hb.block _ (by omega))⟩
theorem TS.set {f : Nat → Value} (h : TS w W S A n c a Ao no co most) (hg : W.grownBy W2 (some w.heap.size)) {a2 : Int} {A2 : Option Addr} {no2 co2 : Nat}
    (hs : Six W2 w.heap.size 58 (.slice A n c) (.bool false) (.int .i64 a2) (.slice A2 no2 co2) (.int .i64 most) (.int .i64 0)) : TS w W2 S A n c a2 A2 no2 co2 most := by
  have hl := h.lt
  exact ⟨⟨hg.os.trans h.chg.os, hg.tape.trans h.chg.tape, hg.output.trans h.chg.output, Nat.le_trans h.chg.size hg.size, fun i hi hn => (hg.block i (Nat.lt_of_lt_of_le hi h.chg.size) (fun e => by injection e with e; omega)).trans (h.chg.block i hi hn)⟩,
    hs, h.rs.block (hg.block _ (by omega) (by simp))⟩
theorem TS.store (h : TS w W S A n c a Ao no co most) (a2 : Int) (A2 : Option Addr) (no2 co2 : Nat) :
    ∃ W2, W2 = ((((((W.setCell ⟨w.heap.size, 0, none⟩ (.slice A n c)).setCell ⟨w.heap.size, 1, none⟩ (.bool false)).setCell ⟨w.heap.size, 2, none⟩ (.int .i64 a2)).setCell ⟨w.heap.size, 3, none⟩ (.slice A2 no2 co2)).setCell ⟨w.heap.size, 4, none⟩ (.int .i64 most)).setCell ⟨w.heap.size, 5, none⟩ (.int .i64 0)) ∧ TS w W2 S A n c a2 A2 no2 co2 most := by
  obtain ⟨W2, e, h1, h2⟩ := h.st.all (.slice A n c) (.bool false) (.int .i64 a2) (.slice A2 no2 co2) (.int .i64 most) (.int .i64 0)
  exact ⟨W2, e, h.set (f := fun _ => .bool false) h2 h1⟩
theorem TS.three (h : TS w W S A n c a Ao no co most) (a2 : Int) :
    ∃ W2, W2 = (((W.setCell ⟨w.heap.size, 0, none⟩ (.slice A n c)).setCell ⟨w.heap.size, 1, none⟩ (.bool false)).setCell ⟨w.heap.size, 2, none⟩ (.int .i64 a2)) ∧ TS w W2 S A n c a2 Ao no co most ∧ W.grownBy W2 (some w.heap.size) := by
  obtain ⟨W2, e, h1, h2⟩ := h.st.three (.slice A n c) (.bool false) (.int .i64 a2)
  exact ⟨W2, e, h.set (f := fun _ => .bool false) h2 h1, h2⟩
theorem TS.out (h : TS w W S A n c a Ao no co most) (A2 : Option Addr) (no2 co2 : Nat) : TS w (W.setCell ⟨w.heap.size, 3, none⟩ (.slice A2 no2 co2)) S A n c a A2 no2 co2 most :=
  h.set (f := fun _ => .bool false) (set_grown W w.heap.size 3 (.slice A2 no2 co2)) (Six.of_row (h.st.row.set 3 _))
theorem TS.mono {S2 : Nat → Prop} (h : TS w W S A n c a Ao no co most) (hS : ∀ i, S i → S2 i) : TS w W S2 A n c a Ao no co most := ⟨h.chg.mono (fun i _ hi => hS i hi), h.st, h.rs⟩
theorem TS.grown {row : Option Nat} (h : TS w W S A n c a Ao no co most) (hg : W.grownBy W2 row) (hr : ∀ b, row = some b → b < w.heap.size → S b) (hr2 : ∀ b, row = some b → b ≠ w.heap.size ∧ b ≠ w.heap.size + 1) : TS w W2 S A n c a Ao no co most := by
  have hl := h.lt
  exact ⟨⟨hg.os.trans h.chg.os, hg.tape.trans h.chg.tape, hg.output.trans h.chg.output, Nat.le_trans h.chg.size hg.size, fun i hi hn => (hg.block i (Nat.lt_of_lt_of_le hi h.chg.size) (fun e => hn (hr i e.symm hi))).trans (h.chg.block i hi hn)⟩,
    h.st.block (hg.block _ (by omega) (fun e => (hr2 _ e.symm).1 rfl)), h.rs.block (hg.block _ (by omega) (fun e => (hr2 _ e.symm).2 rfl))⟩
theorem TS.start (w : World) (S : Nat → Prop) (A : Option Addr) (n c : Nat) (a : Int) (Ao : Option Addr) (no co : Nat) (most : Int) :
    TS w ((w.alloc (.cells #[.slice A n c, .bool false, .int .i64 a, .slice Ao no co, .int .i64 most, .int .i64 0] 58)).alloc (.cells #[.slice none 0 0, .bool false, .int .i64 0, .slice none 0 0, .int .i64 0, .int .i64 0] 58)) S A n c a Ao no co most := by
  refine ⟨Chg.of_below (((Below.refl _ _).alloc (Nat.le_refl _) _).alloc (by simp) _), heap_two w _ _ _, ?_⟩
  have := heap_alloc_new (w.alloc (.cells #[.slice A n c, .bool false, .int .i64 a, .slice Ao no co, .int .i64 most, .int .i64 0] 58)) (.cells #[.slice none 0 0, .bool false, .int .i64 0, .slice none 0 0, .int .i64 0, .int .i64 0] 58)
  rwa [World.size_alloc] at this
theorem TS.ne (h : TS w W S A n c a Ao no co most) {base m cap : Nat} {B : Option Addr} {xs : List Value} (ho : W.ownsRow base 5 1 (.slice B m cap) m xs) :
    ∀ g, (Value.slice B m cap).ownBlock = some g → g ≠ w.heap.size ∧ g ≠ w.heap.size + 1 := fun g hg => by
  obtain ⟨cur, hc⟩ : ∃ cur, W.heap[g]? = some (.cells cur 5 (0, 0)) := by
    rcases ho.2 with ⟨hv, -⟩ | ⟨g', cap', cur, hv, -, h2, -⟩
    · rw [hv] at hg; cases hg
    · rw [hv] at hg
      injection hg with hg
      subst hg
      exact ⟨cur, h2⟩
  refine ⟨fun e => ?_, fun e => ?_⟩
  · subst e
    have := hc.symm.trans h.st
    injection this with this
    injection this with _ h2
    exact absurd h2 (by decide)
  · subst e
    have := hc.symm.trans h.rs
    injection this with this
    injection this with _ h2
    exact absurd h2 (by decide)
end
def StoredP (w : World) (A : Option Addr) (n c : Nat) (a : Int) (Ao : Option Addr) (base : Nat) (out : List Int) (most : Int) (e : Ending) (w' : World) : Prop :=
  ∃ A1 c1, e = .returned (.agg (stV A n c a A1 out.length c1 most 0)) ∧ OutP w Ao base out A1 c1 w'
set_option maxRecDepth 20000 in
set_option maxHeartbeats 8000000 in
theorem rstored_any {p base : Nat} {x o d : List Int} {last : Int} {A Ao : Option Addr} {c co : Nat} {most : Int} (w : World) (HX : SI w .u8 A x.length x) (hwf : ∀ y ∈ x, 0 ≤ y ∧ y < 256) (hc : x.length ≤ c) (hc2 : c ≤ 9223372036854775807) (hch : ChunkAt x p last d)
    (hown : w.ownsRow base 5 1 (.slice Ao o.length co) o.length (o.map (.int .u8))) (hbw : base ≤ w.heap.size) (hm : (o.length : Int) + (d.length : Int) ≤ most) (hmb : most ≤ 2000000) :
    Calls Tryz.prog 27 #[.agg (stV A x.length c (8 * (p : Int) + 3) Ao o.length co most 0)] w (StoredP w A x.length c (8 * ((p : Int) + 5 + (d.length : Int))) Ao base (o ++ d) most) := by
  have HXX := Lib.hid HX
  have HWF := Lib.hid hwf
  have HCH := Lib.hid hch
  have HOW := Lib.hid hown
  have hbig := HX.bigb
  have hle := hch.le
  have hsh := hch.short
  clear HX hwf hch hown
  unfold stV
  go_enter Tryz.func27, Tryz.ntmps27
  go_wp2_with fail
  have HT := Lib.hid (TS.start w (fun _ => False) A x.length c (8 * (p : Int) + 3) Ao o.length co most)
  generalize (World.alloc (World.alloc w _) _) = W at HT ⊢
  have HBE : Hid (∀ W, Chg w W (fun _ => False) → Below w.heap.size w W) := fun W h => h.below (Nat.le_refl _) (fun i hi => hi.elim)
  obtain ⟨⟨a0, a1, a2, a3, a4, a5⟩, f0, f1, f2, f3, f4, f5⟩ := cells6 HT.out.st
  have hcall : Calls Tryz.prog 58 #[.agg #[.slice A x.length c, .bool false, .int .i64 (8 * (p : Int) + 3)]] W fun e w' => e = .returned (.agg #[.slice A x.length c, .bool false, .int .i64 (8 * (p : Int) + 8)]) ∧ Below W.heap.size W w' := by
    have h := ralign_any (A := A) (n := x.length) (c := c) (a := 8 * p + 3) W hbig (by omega)
    unfold AlignP at h
    rw [show ((8 * p + 3 : Nat) : Int) = 8 * (p : Int) + 3 from by push_cast; rfl, show ((8 * ((8 * p + 3 + 7) / 8) : Nat) : Int) = 8 * (p : Int) + 8 from by omega] at h
    exact h
  have HCALL := Lib.hid hcall
  clear hcall
  refine HCALL.out.mono ?_
  rintro e w1 ⟨rfl, hb1⟩
  have HT1 := Lib.hid (HT.out.below hb1)
  clear hb1 HT HCALL a0 a1 a2 a3 a4 a5 f0 f1 f2 f3 f4 f5
  obtain ⟨⟨a0, a1, a2, a3, a4, a5⟩, f0, f1, f2, f3, f4, f5⟩ := cells6 HT1.out.st
  go_upto_region 2 with (fail)
  obtain ⟨W2, hW2, ht2, -⟩ := HT1.out.three (8 * (p : Int) + 8)
  rw [← hW2]
  have HT2 := Lib.hid ht2
  clear hW2 ht2 HT1 a0 a1 a2 a3 a4 a5 f0 f1 f2 f3 f4 f5
  obtain ⟨⟨a0, a1, a2, a3, a4, a5⟩, f0, f1, f2, f3, f4, f5⟩ := cells6 HT2.out.st
  have HCALL : Hid (Calls Tryz.prog 26 #[.agg #[.slice A x.length c, .bool false, .int .i64 (8 * (p : Int) + 8), .slice Ao o.length co, .int .i64 most, .int .i64 0], .int .i64 16] W2 fun e w' =>
      e = .returned (.tuple #[.agg #[.slice A x.length c, .bool false, .int .i64 (8 * (p : Int) + 24), .slice Ao o.length co, .int .i64 most, .int .i64 0], .int .i64 (d.length : Int)]) ∧ Below W2.heap.size W2 w') := by
    show Calls _ _ _ _ _
    have h := itake_any (a := 8 * (p + 1)) (k := 16) (Ao := Ao) (no := o.length) (co := co) (c := c) (most := most) W2 (HXX.out.below (HBE.out _ HT2.out.chg) (Nat.le_refl _)) HWF.out (by omega) (by omega)
    unfold TakeP stV at h
    rw [HCH.out.n, show ((8 * (p + 1) : Nat) : Int) = 8 * (p : Int) + 8 from by omega, show (8 * (p : Int) + 8 + ((16 : Nat) : Int)) = 8 * (p : Int) + 24 from by omega] at h
    exact h
  go_wp2_with fail
  refine HCALL.out.mono ?_
  rintro e w3 ⟨rfl, hb3⟩
  have HT3 := Lib.hid (HT2.out.below hb3)
  clear hb3 HT2 HCALL a0 a1 a2 a3 a4 a5 f0 f1 f2 f3 f4 f5
  obtain ⟨⟨a0, a1, a2, a3, a4, a5⟩, f0, f1, f2, f3, f4, f5⟩ := cells6 HT3.out.st
  go_upto_region 4 with (fail)
  obtain ⟨W4, hW4, ht4⟩ := HT3.out.store (8 * (p : Int) + 24) Ao o.length co
  rw [← hW4]
  have HT4 := Lib.hid ht4
  clear hW4 ht4 HT3 a0 a1 a2 a3 a4 a5 f0 f1 f2 f3 f4 f5
  obtain ⟨⟨a0, a1, a2, a3, a4, a5⟩, f0, f1, f2, f3, f4, f5⟩ := cells6 HT4.out.st
  have HCALL : Hid (Calls Tryz.prog 26 #[.agg #[.slice A x.length c, .bool false, .int .i64 (8 * (p : Int) + 24), .slice Ao o.length co, .int .i64 most, .int .i64 0], .int .i64 16] W4 fun e w' =>
      e = .returned (.tuple #[.agg #[.slice A x.length c, .bool false, .int .i64 (8 * (p : Int) + 40), .slice Ao o.length co, .int .i64 most, .int .i64 0], .int .i64 (65535 - (d.length : Int))]) ∧ Below W4.heap.size W4 w') := by
    show Calls _ _ _ _ _
    have h := itake_any (a := 8 * (p + 3)) (k := 16) (Ao := Ao) (no := o.length) (co := co) (c := c) (most := most) W4 (HXX.out.below (HBE.out _ HT4.out.chg) (Nat.le_refl _)) HWF.out (by omega) (by omega)
    unfold TakeP stV at h
    rw [HCH.out.m, show ((8 * (p + 3) : Nat) : Int) = 8 * (p : Int) + 24 from by omega, show (8 * (p : Int) + 24 + ((16 : Nat) : Int)) = 8 * (p : Int) + 40 from by omega] at h
    exact h
  go_wp2_with fail
  refine HCALL.out.mono ?_
  rintro e w5 ⟨rfl, hb5⟩
  have HT5 := Lib.hid (HT4.out.below hb5)
  clear hb5 HT4 HCALL a0 a1 a2 a3 a4 a5 f0 f1 f2 f3 f4 f5
  obtain ⟨⟨a0, a1, a2, a3, a4, a5⟩, f0, f1, f2, f3, f4, f5⟩ := cells6 HT5.out.st
  go_upto_region 7 with (fail)
  obtain ⟨W6, hW6, ht6⟩ := HT5.out.store (8 * (p : Int) + 40) Ao o.length co
  rw [← hW6]
  have HT6 := Lib.hid ht6
  clear hW6 ht6 HT5 a0 a1 a2 a3 a4 a5 f0 f1 f2 f3 f4 f5
  obtain ⟨⟨a0, a1, a2, a3, a4, a5⟩, f0, f1, f2, f3, f4, f5⟩ := cells6 HT6.out.st
  have hdm : decide (most - (o.length : Int) < (d.length : Int)) = false := decide_eq_false (by omega)
  have hne : ((65535 - (d.length : Int)) != (65535 - (d.length : Int))) = false := by simp
  have HCALL : Hid (Calls Tryz.prog 59 #[.agg #[.slice A x.length c, .bool false, .int .i64 (8 * (p : Int) + 40)], .int .i64 (d.length : Int)] W6 fun e w' =>
      ∃ A1 c1, e = .returned (.tuple #[.agg #[.slice A x.length c, .bool false, .int .i64 (8 * ((p : Int) + 5 + (d.length : Int)))], .slice A1 d.length c1, .int .i64 0]) ∧ SI w' .u8 A1 d.length d ∧ Below W6.heap.size W6 w' ∧ ∀ g q s, A1 = some ⟨g, q, s⟩ → W6.heap.size ≤ g) := by
    show Calls _ _ _ _ _
    have h := rbytes_any (p := p + 5) (n := d.length) (c := c) W6 (HXX.out.below (HBE.out _ HT6.out.chg) (Nat.le_refl _)) hc hc2 hle (by omega)
    unfold RBytesP at h
    rw [HCH.out.data, show (8 * ((p + 5 : Nat) : Int)) = 8 * (p : Int) + 40 from by omega, show (((p + 5 : Nat) : Int)) = (p : Int) + 5 from by omega] at h
    exact h
  go_wp2_with fail
  refine HCALL.out.mono ?_
  rintro e w7 ⟨A7, c7, rfl, hs7, hb7, hl7⟩
  have hz6 := HT6.out.lt
  have HL7 : Hid (∀ g q s, A7 = some ⟨g, q, s⟩ → g ≠ w.heap.size) := fun g q s e => by have := hl7 g q s e; omega
  clear hl7
  have HT7 := Lib.hid (HT6.out.below hb7)
  have HS7 := Lib.hid hs7
  clear hb7 hs7 HT6 HCALL a0 a1 a2 a3 a4 a5 f0 f1 f2 f3 f4 f5
  have hz7 : w.heap.size + 1 < w7.heap.size := HT7.out.lt
  have hz7' : w.heap.size < w7.heap.size := by omega
  go_upto_region 16 with (fail)
  have HT8 : Hid (TS w (w7.alloc (.cells #[.slice A x.length c, .bool false, .int .i64 (8 * ((p : Int) + 5 + (d.length : Int)))] 56)) (fun _ => False) A x.length c (8 * (p : Int) + 40) Ao o.length co most) := HT7.out.below ((Below.refl _ _).alloc (Nat.le_refl _) _)
  have HS8 := Lib.hid (HS7.out.below ((Below.refl _ w7).alloc (Nat.le_refl _) (.cells #[.slice A x.length c, .bool false, .int .i64 (8 * ((p : Int) + 5 + (d.length : Int)))] 56)) (Nat.le_refl _))
  have HR8 : Hid ((w7.alloc (.cells #[.slice A x.length c, .bool false, .int .i64 (8 * ((p : Int) + 5 + (d.length : Int)))] 56)).heap[w7.heap.size]? = some (.cells #[.slice A x.length c, .bool false, .int .i64 (8 * ((p : Int) + 5 + (d.length : Int)))] 56 (0, 0))) := heap_alloc_new _ _
  generalize hW8 : w7.alloc (.cells #[.slice A x.length c, .bool false, .int .i64 (8 * ((p : Int) + 5 + (d.length : Int)))] 56) = W8 at HT8 HS8 HR8
  try rw [hW8]
  clear hW8
  obtain ⟨⟨a0, a1, a2, a3, a4, a5⟩, f0, f1, f2, f3, f4, f5⟩ := cells6 HT8.out.st
  obtain ⟨⟨k0, k1, k2⟩, -⟩ := cells3 HR8.out
  have hz8 : w7.heap.size < W8.heap.size := (Array.getElem?_eq_some_iff.1 HR8.out).1
  go_upto_region 20 with (fail)
  obtain ⟨W9, hW9, ht9, hg9⟩ := HT8.out.three (8 * ((p : Int) + 5 + (d.length : Int)))
  rw [← hW9]
  have HT9 := Lib.hid ht9
  have HS9 := Lib.hid (SI.grown HS8.out hg9 HL7.out)
  have HOW9 : Hid (W9.ownsRow base 5 1 (.slice Ao o.length co) o.length (o.map (.int .u8))) := own_frame HOW.out (fun g hg => ht9.chg.block g (HOW.out.lt g hg).2 (fun h => h))
  clear hW9 ht9 hg9 HT8 HS8 HR8 a0 a1 a2 a3 a4 a5 f0 f1 f2 f3 f4 f5 k0 k1 k2
  obtain ⟨⟨a0, a1, a2, a3, a4, a5⟩, f0, f1, f2, f3, f4, f5⟩ := cells6 HT9.out.st
  have hz9 := HT9.out.lt
  go_wp2_with (at_builtin; refine wpList_append_sl _ rfl (.tmp 61) (.tmp 62) _ rfl base 5 1 1 _ Tryz.underlying22 infoU8 rfl (by omega) (.slice Ao o.length co) o.length _ rfl HOW9.out A7 d.length c7 (d.map (.int .u8)) rfl ?c1 HS9.out.sl (ones _ _) ?c2 ?c3 ?c4 ?_)
  case c1 => simp
  case c2 => unfold maxLen; omega
  case c3 => omega
  case c4 => omega
  intro v' w10 hown10 hg10 hat10
  obtain ⟨A10, c10, rfl⟩ := own_form hown10
  have HT10 : Hid (TS w w10 (fun b => Wrt.own Ao = some b) A x.length c (8 * ((p : Int) + 5 + (d.length : Int))) Ao o.length co most) :=
    TS.grown (HT9.out.mono (fun _ h => h.elim)) hg10 (fun b e _ => by rw [ownBlock_eq] at e; exact e) (fun b e => HT9.out.ne HOW9.out b e)
  have HN10 := Lib.hid (HT10.out.ne hown10)
  have HOW10 := Lib.hid hown10
  have HAT : Hid (Wrt.own A10 = Wrt.own Ao ∨ ∀ b, Wrt.own A10 = some b → w.heap.size ≤ b) := by
    rw [ownBlock_eq, ownBlock_eq] at hat10
    rcases hat10 with q | q
    · exact .inl q
    · refine .inr (fun b e => ?_)
      rw [q] at e; injection e with e; omega
  clear hown10 hg10 hat10 a0 a1 a2 a3 a4 a5 f0 f1 f2 f3 f4 f5
  obtain ⟨⟨a0, a1, a2, a3, a4, a5⟩, f0, f1, f2, f3, f4, f5⟩ := cells6 HT10.out.st
  obtain ⟨⟨b0, b1, b2, b3, b4, b5⟩, g0, g1, g2, g3, g4, g5⟩ := cells6 HT10.out.rs
  have hz10 := HT10.out.lt
  have hz10' : w.heap.size < w10.heap.size := by omega
  go_wp2_with fail
  have ht11 := HT10.out.out A10 (o.length + d.length) c10
  have hg11 := set_grown w10 w.heap.size 3 (.slice A10 (o.length + d.length) c10)
  obtain ⟨W3, hW3, hs3, hg3⟩ := ht11.rs.all (.slice A x.length c) (.bool false) (.int .i64 (8 * ((p : Int) + 5 + (d.length : Int)))) (.slice A10 (o.length + d.length) c10) (.int .i64 most) (.int .i64 0)
  rw [← hW3]
  obtain ⟨⟨e0, e1, e2, e3, e4, e5⟩, -⟩ := cells6 hs3
  have hl3 := hs3.lt
  have hol : (o ++ d).length = o.length + d.length := List.length_append
  refine bodyPost_ret (v := .agg (stV A x.length c (8 * ((p : Int) + 5 + (d.length : Int))) A10 (o.length + d.length) c10 most 0)) ?_ rfl ⟨A10, c10, by rw [hol], ?_, Chg.grow2 ht11.chg hg3 (fun b e hlt => by injection e with e; omega), HAT.out⟩
  · simp [results, Tryz.results27, go_sem, e0, e1, e2, e3, e4, e5, hl3, stV]
  · rw [hol, List.map_append]
    refine own_frame (own_frame HOW10.out (fun g hg => hg11.block g (HOW10.out.lt g hg).2 (fun e => by injection e with e; exact (HN10.out g hg).1 e))) (fun g hg => hg3.block g (Nat.lt_of_lt_of_le (HOW10.out.lt g hg).2 hg11.size) (fun e => by injection e with e; exact (HN10.out g hg).2 e))
end Go.Proofs.YtmgbjgjlddifaaaGreat.Inf
set_option linter.unusedVariables false
set_option linter.unusedSimpArgs false
namespace Go.Proofs.YtmgbjgjlddifaaaGreat.Inf
open Go.RowKit K Bits Pfx Def Wrt Bak Ref RefR RefT RefX

/-- one block more of a stored stream -/
theorem RestAt.step {x r : List Int} {m p : Nat} (h : RestAt x m p r) : ∃ (l : Nat) (d r' : List Int), ChunkAt x p (l : Int) d ∧ d ++ r' = r ∧ ((l = 1 ∧ r' = [] ∧ m = p + 5 + d.length) ∨ (l = 0 ∧ RestAt x m (p + 5 + d.length) r')) := by
  rcases h.next with ⟨h1, h2⟩ | ⟨h1, h2, h3⟩
  · exact ⟨1, r, [], h1, List.append_nil r, .inl ⟨rfl, rfl, h2⟩⟩
  · have ht : (r.take 65535).length = 65535 := by rw [List.length_take]; omega
    exact ⟨0, r.take 65535, r.drop 65535, h2, List.take_append_drop _ _, .inr ⟨rfl, by rw [ht, show p + 5 + 65535 = p + 65540 by omega]; exact h3⟩⟩
/-- take, in the words of a walk -/
theorem take_form {x : List Int} {A Ao : Option Addr} {c no co a k : Nat} {a0 a1 kk v most : Int} (W : World) (HX : SI W .u8 A x.length x) (hwf : ∀ y ∈ x, 0 ≤ y ∧ y < 256) (hk : k ≤ 32) (hl : a + k ≤ 8 * x.length) (h0 : (a : Int) = a0) (hkk : (k : Int) = kk) (h1 : a0 + kk = a1) (hv : takeV x false a k = v) :
    Calls Tryz.prog 26 #[.agg #[.slice A x.length c, .bool false, .int .i64 a0, .slice Ao no co, .int .i64 most, .int .i64 0], .int .i64 kk] W fun e w' =>
      e = .returned (.tuple #[.agg #[.slice A x.length c, .bool false, .int .i64 a1, .slice Ao no co, .int .i64 most, .int .i64 0], .int .i64 v]) ∧ Below W.heap.size W w' := by
  subst h0 hkk h1 hv
  exact itake_any W HX hwf hk hl
theorem set_row3 {W : World} {q T : Nat} {x0 x1 x2 : Value} (h : W.heap[q]? = some (.cells #[x0, x1, x2] T (0, 0))) :
    (∀ v, (W.setCell ⟨q, 0, none⟩ v).heap[q]? = some (.cells #[v, x1, x2] T (0, 0))) ∧ ∀ v, (W.setCell ⟨q, 1, none⟩ v).heap[q]? = some (.cells #[x0, v, x2] T (0, 0)) := by
  have hq := (Array.getElem?_eq_some_iff.1 h).1
  constructor <;> intro v <;> simp [World.setCell, Array.getElem?_modify, h]
end Go.Proofs.YtmgbjgjlddifaaaGreat.Inf
