/-
  The walk of the law PrefixBack: what is written by the codes is read by the decoder.
-/
import Derived.Test.YtpecemkjoklhfaaOwnA
import Derived.Test.YtpecemkjoklhfaaWakA
import Derived.Test.YtpecemkjoklhfaaWrtB
import Derived.Test.YtpecemkjoklhfaaBakM
set_option linter.unusedVariables false
set_option linter.unusedSimpArgs false
namespace Go.Proofs.Ytpecemkjoklhfaa.LawK
open Go.RowKit K Pfx Bits Bld Wak Own Bak Wrt

theorem own_chg {w w' : World} {base e sz n : Nat} {v : Value} {xs : List Value} (h : w.ownsRow base e sz v n xs) (hb : ∀ b, v.ownBlock = some b → w'.heap[b]? = w.heap[b]?) : w'.ownsRow base e sz v n xs := by
  refine ⟨h.1, ?_⟩
  rcases h.2 with hl | ⟨g, cap, cur, hv, h1, h2, h3⟩
  · exact .inl hl
  · exact .inr ⟨g, cap, cur, hv, h1, (hb g (by rw [hv]; rfl)).trans h2, h3⟩
theorem Wt.keepG {w w' : World} {q base : Nat} {A : Option Addr} {c : Nat} {B bs : List Int} {up : Bool} {row : Option Nat} (h : Wt w q base A c B bs up) (hg : w.grownBy w' row) (hq : some q ≠ row) (hA : ∀ b, Wrt.own A = some b → some b ≠ row) : Wt w' q base A c B bs up :=
  ⟨h.row.of_block (hg.block q h.row.lt hq), h.own.kept hg (by
    cases e : (Value.slice A B.length c).ownBlock with
    | none => exact .inl rfl
    | some b => exact .inr (hA b (by rw [← own_eq A B.length c]; exact e))), h.apart, Nat.le_trans h.hi hg.size, h.pk, h.big⟩
def flat (l : List Int) (S : List Nat) : List Int := S.flatMap (codeBits l)
theorem flat_snoc (l : List Int) (S : List Nat) (s : Nat) : flat l (S ++ [s]) = flat l S ++ codeBits l s := by unfold flat; rw [List.flatMap_append]; simp
theorem flat_len (l : List Int) (S : List Nat) (h : ∀ s ∈ S, (l.getD s 0).toNat ≤ 16) : (flat l S).length ≤ 16 * S.length := by
  induction S with
  | nil => simp [flat]
  | cons s S ih =>
    have h1 := h s (by simp)
    have h2 := ih (fun t ht => h t (by simp [ht]))
    unfold flat at h2 ⊢
    rw [List.flatMap_cons, List.length_append, codeBits_len, List.length_cons]; omega
theorem flat_at {l : List Int} {S : List Nat} {i s : Nat} (h : S[i]? = some s) : flat l (S.take (i + 1)) = flat l (S.take i) ++ codeBits l s ∧ ∃ r, flat l S = flat l (S.take i) ++ (codeBits l s ++ r) := by
  rw [take_snoc h, flat_snoc]
  refine ⟨rfl, flat l (S.drop (i + 1)), ?_⟩
  have hi : i < S.length := by
    rcases Nat.lt_or_ge i S.length with h1 | h1
    · exact h1
    · rw [List.getElem?_eq_none h1] at h; cases h
  rw [List.getElem?_eq_getElem hi] at h
  injection h with h
  have : S = S.take i ++ s :: S.drop (i + 1) := by rw [← h, ← List.drop_eq_getElem_cons hi, List.take_append_drop]
  conv => lhs; rw [this]
  unfold flat
  rw [List.flatMap_append, List.flatMap_cons]
theorem flat_get {l : List Int} {S : List Nat} {i s j : Nat} (h : S[i]? = some s) (hj : j < (codeBits l s).length) : (flat l S).getD ((flat l (S.take i)).length + j) 0 = (codeBits l s).getD j 0 := by
  obtain ⟨-, r, hr⟩ := flat_at (l := l) h
  rw [hr, List.getD_eq_getElem?_getD, List.getElem?_append_right (by omega), Nat.add_sub_cancel_left, List.getElem?_append_left hj, List.getD_eq_getElem?_getD]
/-- while writing -/
structure K1 (w5 wr : World) (l : List Int) (up : Bool) (q k : Nat) (v : Value) (S : List Nat) (Aw : Option Addr) (cw : Nat) (Bw : List Int) : Prop where
  bel : Below q w5 wr
  wt : Wt wr q (q + 1) Aw cw Bw (flat l S) up
  sent : wr.ownsRow (q + 1) 3 1 v S.length (S.map (fun s : Nat => .int .i64 s))
  dis : ∀ b, Wrt.own Aw = some b → v.ownBlock ≠ some b
  ok : ∀ s ∈ S, ∃ x, l[s]? = some x ∧ x ≠ 0
  ln : S.length ≤ k
/-- the writer and the list of what was sent, side by side -/
structure Km (w5 wr : World) (up : Bool) (q : Nat) (v : Value) (S : List Nat) (bs : List Int) (Aw : Option Addr) (cw : Nat) (Bw : List Int) : Prop where
  bel : Below q w5 wr
  wt : Wt wr q (q + 1) Aw cw Bw bs up
  sent : wr.ownsRow (q + 1) 3 1 v S.length (S.map (fun s : Nat => .int .i64 s))
  dis : ∀ b, Wrt.own Aw = some b → v.ownBlock ≠ some b
theorem K1.km {w5 wr : World} {l : List Int} {up : Bool} {q k : Nat} {v : Value} {S : List Nat} {Aw : Option Addr} {cw : Nat} {Bw : List Int} (h : K1 w5 wr l up q k v S Aw cw Bw) : Km w5 wr up q v S (flat l S) Aw cw Bw := ⟨h.bel, h.wt, h.sent, h.dis⟩
theorem Km.push {w5 wr w7 : World} {up : Bool} {q : Nat} {v v7 : Value} {S : List Nat} {bs : List Int} {Aw : Option Addr} {cw : Nat} {Bw : List Int} {s : Nat} {o : Obj} (h : Km w5 wr up q v S bs Aw cw Bw) (hq5 : q ≤ w5.heap.size)
    (hown : w7.ownsRow (q + 1) 3 1 v7 (S.length + 1) (S.map (fun s : Nat => .int .i64 s) ++ [.int .i64 (s : Int)])) (hg : (wr.alloc o).grownBy w7 v.ownBlock) (hor : v7.ownBlock = v.ownBlock ∨ v7.ownBlock = some (wr.heap.size + 1)) : Km w5 w7 up q v7 (S ++ [s]) bs Aw cw Bw := by
  have hge : ∀ b, v.ownBlock = some b → q + 1 ≤ b ∧ b < wr.heap.size := fun b e => h.sent.lt b e
  have hhi := h.wt.hi
  have hs := hg.size
  simp at hs
  have hW0 : Wt (wr.alloc o) q (q + 1) Aw cw Bw bs up := ⟨h.wt.row.alloc o, h.wt.own.alloc o, h.wt.apart, by simp; omega, h.wt.pk, h.wt.big⟩
  refine ⟨?_, Wt.keepG hW0 hg (fun e => by have := hge q e.symm; omega) (fun b e e2 => h.dis b e e2.symm), by rw [List.length_append, List.map_append]; exact hown, fun b e e2 => ?_⟩
  · exact (h.bel.alloc (by omega) o).grown hg (by simp; omega) (fun b e => by have := hge b e; omega)
  · rcases hor with e3 | e3
    · rw [e3] at e2; exact h.dis b e e2
    · rw [e3] at e2; injection e2 with e2
      have := (h.wt.own.lt b (by rw [own_eq]; exact e)).2
      omega
theorem Km.put {w5 wi wr : World} {up : Bool} {q : Nat} {v : Value} {S : List Nat} {bs bs2 : List Int} {Aw : Option Addr} {cw : Nat} {Bw : List Int} (h : Km w5 wi up q v S bs Aw cw Bw) (hP : Ps wi wr q (q + 1) Aw bs2 up) : ∃ A c B, Km w5 wr up q v S bs2 A c B := by
  obtain ⟨⟨A, c, B, hW, ho⟩, hC⟩ := hP
  have hge : ∀ b, v.ownBlock = some b → q + 1 ≤ b ∧ b < wi.heap.size := fun b e => h.sent.lt b e
  have hga : ∀ b, Wrt.own Aw = some b → q + 1 ≤ b := fun b e => (h.wt.own.lt b (by rw [own_eq]; exact e)).1
  have hhi := h.wt.hi
  refine ⟨A, c, B, h.bel.trans (hC.below (by omega) (fun i hi => ?_)), hW, own_chg h.sent (fun b e => hC.block b (hge b e).2 (fun hS => ?_)), fun b e e2 => ?_⟩
  · rcases hi with e | e
    · omega
    · have := hga i e; omega
  · rcases hS with e2 | e2
    · have := hge b e; omega
    · exact h.dis b e2 e
  · rcases ho with e3 | e3
    · exact h.dis b (by rw [← e3]; exact e) e2
    · have := e3 b e; have := hge b e2; omega
theorem codeAt_bd (l : List Int) (i : Nat) : 0 ≤ codeAt l i ∧ codeAt l i < 4294967296 := by
  unfold codeAt; simp only []
  split <;> omega
theorem codeBits_get {l : List Int} {s L j : Nat} (hs : l[s]? = some (L : Int)) (hj : j < L) : (codeBits l s)[j]? = some (codeAt l s / 2 ^ (L - 1 - j) % 2) := by
  unfold codeBits
  rw [getD_of hs, Int.toNat_natCast, List.getElem?_map, List.getElem?_range hj]; rfl
theorem SIg {w w' : World} {k : IntKind} {A : Option Addr} {n : Nat} {l : List Int} {p : Nat} (h : SI w k A n l) (hg : w.grownBy w' (some p)) (hp : ∀ b off s, A = some ⟨b, off, s⟩ → b ≠ p) : SI w' k A n l :=
  ⟨h.len, h.sz, fun j u hu => by
    obtain ⟨b, off, rfl, hc⟩ := h.sl j u hu
    exact ⟨b, off, rfl, (World.cell?_of_block (a := ⟨b, off + j, none⟩) (hg.block b (World.block_lt_of_cell? w _ hc) (fun e => by injection e with e; exact hp b off none rfl e))).trans hc⟩⟩
theorem keepD {w w' : World} {d : Nat} {l : List Int} {A : Option Addr} {c : Nat} {row : Option Nat} (hD : Dc w d l A c) (hg : w.grownBy w' row) (h1 : some d ≠ row) (h2 : ∀ b off s, A = some ⟨b, off, s⟩ → some b ≠ row) : Dc w' d l A c :=
  hD.keep (hg.block d hD.row.lt h1) (fun b off s e hlt => hg.block b hlt (h2 b off s e))
theorem sym_val (x : Int) (n : Nat) (hn : 0 < n) (hb : n ≤ 140737488351232) : ∃ s : Nat, wrap64 ((IntKind.u64.wrap x).tmod (n : Int)) = (s : Int) ∧ s < n := by
  have h0 : 0 ≤ IntKind.u64.wrap x := by rw [IntKind.wrap_u64]; omega
  have h1 : 0 ≤ (IntKind.u64.wrap x).tmod (n : Int) := Int.tmod_nonneg _ h0
  have h2 : (IntKind.u64.wrap x).tmod (n : Int) < n := Int.tmod_lt_of_pos _ (by omega)
  generalize (IntKind.u64.wrap x).tmod (n : Int) = y at *
  refine ⟨y.toNat, ?_, by omega⟩
  rw [IntWalk.wrap64_in y ⟨by omega, by omega⟩]; omega
def LawPost (w : World) (e : Ending) (w' : World) : Prop := e = .returned (.bool true) ∧ Below w.heap.size w w'
set_option maxRecDepth 20000 in
set_option maxHeartbeats 4000000 in
theorem prefixBack_any {A As : Option Addr} {n c m cs : Nat} {l ss : List Int} {up : Bool} (w : World) (HA : SI w .i64 A n l) (HS : SI w .i64 As m ss) :
    Calls Try.prog 9 #[.slice A n c, .slice As m cs, .bool up] w (LawPost w) := by
  have hbig := HA.big
  have hbigs := HS.big
  have hlen := Lib.hid HA.len
  have hlens := Lib.hid HS.len
  have HAO := Lib.hid HA
  have HSO := Lib.hid HS
  go_enter Try.func9, Try.ntmps9
  go_wp2_with fail
  refine (wakes_any _).mono ?_
  rintro e w1 ⟨rfl, hb1⟩
  have HA1 := HA.below hb1 (Nat.le_refl _)
  clear HA HS
  go_wp2_with fail
  refine (own_any _ HA1).mono ?_
  rintro e w2 ⟨A2, c2, rfl, hown2, hb2⟩
  have hs2 : SI w2 .i64 A2 n l := SI.of_own hown2 hbig
  have Hb2 := hb1.trans (hb2.mono hb1.size)
  clear hown2 hb2 HA1 hb1
  go_wp2_with fail
  refine (codes_any _ hs2).mono ?_
  rintro e w3 ⟨Xc, nc, cc, rfl, h3⟩
  have Hb3 := Hb2.trans (h3.bel.mono Hb2.size)
  have HA3 := HAO.out.below Hb3 (Nat.le_refl _)
  have HC3 := Lib.hid h3
  clear hs2 Hb2 h3
  go_wp2_with fail
  refine (own_any _ HA3).mono ?_
  rintro e w4 ⟨A4, c4, rfl, hown4, hb4⟩
  have hs4 : SI w4 .i64 A4 n l := SI.of_own hown4 hbig
  have Hb4 := Hb3.trans (hb4.mono Hb3.size)
  have HB34 := Lib.hid hb4
  clear hown4 hb4 HA3 Hb3
  go_wp2_with fail
  refine (new_any _ hs4).mono ?_
  rintro e w5 ⟨D, rfl, h5⟩
  have Hb5 := Lib.hid (Hb4.trans (h5.bel.mono Hb4.size))
  have HC5 := Lib.hid h5
  clear hs4 Hb4 h5
  have q1 : (checkedOf l != checkedOf l) = false := by simp
  by_cases hc : checkedOf l = 0
  · obtain ⟨rfl, Ad, cd, hD5, hAd⟩ := HC5.out.ok hc
    have q2 : (checkedOf l != 0) = false := by simp [hc]
    by_cases hn : n = 0
    · have q3 : ((n : Int) == 0) = true := by simp [hn]
      clear hc hn
      go_wp2
      go_ret
      exact ⟨rfl, Hb5.out⟩
    have q3 : ((n : Int) == 0) = false := by rw [beq_eq_false_iff_ne]; omega
    have hnc : nc = n := by have := HC3.out.len; rwa [if_pos hc] at this
    subst hnc
    have q4 : ((nc : Int) != (nc : Int)) = false := by simp
    have HC := Lib.hid hc
    have HD5 := Lib.hid hD5
    have HAd := Lib.hid (show ∀ b off s, Ad = some ⟨b, off, s⟩ → b < w5.heap.size from fun b off s e => (hAd b off s e).2)
    have hd5 : w4.heap.size < w5.heap.size := hD5.row.lt
    have HSH : Hid (l.length ≤ 4096) := (checked_zero hc).1
    have HCV : Hid (∀ j, j < nc → ∃ b, Xc = some ⟨b, 0, none⟩ ∧ b < w5.heap.size ∧ w5.cell? ⟨b, j, none⟩ = some (.int .u32 (codeAt l j))) := fun j hj => by
      obtain ⟨b, e, h⟩ := HC3.out.val j hj
      have h1 := HC3.out.lo b (by rw [e]; rfl)
      have hb := HB34.out.trans (HC5.out.bel.mono HB34.out.size)
      exact ⟨b, e, by have := hb.size; omega, (hb.cell (p := ⟨b, j, none⟩) h1.2).trans h⟩
    clear hc hD5 hAd
    go_wp2_with fail
    refine (newWriter_any _ up).mono ?_
    rintro e w6 ⟨rfl, hW6, hb6⟩
    have HK : Hid (K1 w5 w6 l up w5.heap.size 0 (.slice none 0 0) [] none 0 []) := ⟨hb6, hW6, World.ownsRow_nil _ _ _ _, fun b e => by simp [Wrt.own, Value.ownBlock] at e, (fun s hs => by cases hs), by simp⟩
    have HL5 : Hid (w.heap.size ≤ w5.heap.size) := Hb5.out.size
    clear hW6 hb6
    generalize hq : w5.heap.size = q at *
    have HQ := Lib.hid hq
    clear hq
    go_wp2
    go_loopw [12, 13, 14, 15, 60] (fun v _ _ _ si wr => ∃ (k : Nat) (S : List Nat) (Aw : Option Addr) (cw : Nat) (Bw : List Int), k ≤ m ∧ si = .int .i64 k ∧ K1 w5 wr l up q k v S Aw cw Bw) (fun _ _ _ _ si _ => m - (intOf si).toNat)
    case atStart => exact ⟨0, [], none, 0, [], by omega, rfl, HK.out⟩
    case round =>
      clear HK
      obtain ⟨k, S, Aw, cw, Bw, hk, rfl, hK⟩ := hrel
      have hbel : Below w.heap.size w wr := Hb5.out.trans (hK.bel.mono HL5.out)
      have HAr := Lib.hid (HAO.out.below hbel (Nat.le_refl _))
      have HSr := HSO.out.below hbel (Nat.le_refl _)
      obtain ⟨Av, cv, rfl⟩ := own_form hK.sent
      have HK := Lib.hid hK
      have hln := hK.ln
      have hqs : q + 1 ≤ wr.heap.size := hK.wt.hi
      clear hK hbel
      by_cases hlt : k < m
      · have d1 : decide ((k : Int) < (m : Int)) = true := by simp; omega
        obtain ⟨b1, o1, x, rfl, hc1, hx, -⟩ := HSr.cells hlt
        clear HSr
        go_upto_region 15 with (fail)
        obtain ⟨s, hs, hsn⟩ := sym_val x nc (by omega) (by omega)
        rw [hs]
        clear hs
        obtain ⟨b2, o2, y, rfl, hc2, hy, -⟩ := HAr.out.cells hsn
        by_cases hy0 : y = 0
        · have t1 : (y == 0) = true := by simp [hy0]
          have HK2 : Hid (K1 w5 wr l up q (k + 1) (.slice Av S.length cv) S Aw cw Bw) := ⟨HK.out.bel, HK.out.wt, HK.out.sent, HK.out.dis, HK.out.ok, by omega⟩
          clear hy0
          go_wp2
          go_roundw
          case rel => exact ⟨k + 1, S, Aw, cw, Bw, by omega, by go_num, HK2.out⟩
          case measure => simp [intOf]; omega
        · have t1 : (y == 0) = false := by simp [hy0]
          have hso := HK.out.sent
          have HY0 := Lib.hid hy0
          clear hy0
          go_wp2_with (at_builtin; refine wpList_append_sl _ rfl (.tmp 78) (.tmp 80) _ rfl (q + 1) 3 1 8 _ Try.underlying22 infoInt rfl (by omega) (.slice Av S.length cv) S.length _ rfl (hso.alloc _) _ 1 1 [.int .i64 s] rfl rfl (Sl.one wr _ _) ?c1 ?c2 ?c3 ?c4 ?_)
          case c1 => simp [Value.oneCell']
          case c2 => unfold maxLen; omega
          case c3 => omega
          case c4 => simp; omega
          intro v7 w7 hown7 hg7 hor7
          have hq5 : q ≤ w5.heap.size := Nat.le_of_eq HQ.out.symm
          have HM := Lib.hid (HK.out.km.push hq5 hown7 hg7 hor7)
          have hyb := len_of (checked_zero HC.out).2.1 hy.out
          have hyp : 0 < y := by have := HY0.out; omega
          obtain ⟨L, rfl⟩ : ∃ L : Nat, y = L := ⟨y.toNat, by omega⟩
          have hbw := HAO.out.below (Hb5.out.trans (HM.out.bel.mono HL5.out)) (Nat.le_refl _)
          have hc2' : w7.cell? ⟨b2, o2 + s, none⟩ = some (.int .i64 L) := by
            obtain ⟨b', o', y', e, hc, hy', -⟩ := hbw.cells hsn
            injection e with e; injection e with e5 e6
            subst e5 e6
            have := hy'.out
            rw [hy.out] at this; injection this with this
            rw [hc, this]
          obtain ⟨A8, c8, rfl⟩ := own_form hown7
          have h5 := codeAt_bd l s
          have hfl : (flat l S).length ≤ 16 * S.length := flat_len l S (fun u hu => by
            obtain ⟨x', h1, -⟩ := HK.out.ok u hu
            have := len_of (checked_zero HC.out).2.1 h1
            rw [getD_of h1]; omega)
          have hPs0 : Hid (Ps w7 w7 q (q + 1) Aw (flat l S ++ (codeBits l s).take 0) up) := ⟨⟨Aw, cw, Bw, by simpa using HM.out.wt, .inl rfl⟩, Chg.refl _ _⟩
          obtain ⟨bc, rfl, hbc, hcc5⟩ := HCV.out s hsn
          have hcc7 : w7.cell? ⟨bc, s, none⟩ = some (.int .u32 (codeAt l s)) := (HM.out.bel.cell (p := ⟨bc, s, none⟩) hbc).trans hcc5
          have HC7 := Lib.hid hcc7
          clear hown7 hg7 hor7 hso hc1 hc2 hbw hcc5 hcc7
          go_wp2
          go_loopw [15] (fun sk wr => ∃ j : Nat, j ≤ L ∧ sk = .int .i64 ((L : Int) - 1 - j) ∧ Ps w7 wr q (q + 1) Aw (flat l S ++ (codeBits l s).take j) up) (fun sk _ => (intOf sk + 1).toNat)
          case atStart => exact ⟨0, by omega, by go_num, hPs0.out⟩
          case round =>
            clear hPs0
            obtain ⟨j, hj, rfl, hP⟩ := hrel
            have HP := Lib.hid hP
            obtain ⟨⟨A9, c9, B9, hW9, ho9⟩, hC9⟩ := hP
            by_cases hjl : j < L
            · have d3 : decide (0 ≤ (L : Int) - 1 - (j : Int)) = true := decide_eq_true (by omega)
              have d3' : decide (1 ≤ (L : Int) - (j : Int)) = true := decide_eq_true (by omega)
              have z1 : 0 ≤ (L : Int) - 1 - (j : Int) := by omega
              have z2 : (L : Int) - 1 - (j : Int) ≤ 31 := by omega
              have z3 : ((L : Int) - 1 - (j : Int)).toNat = L - 1 - j := by omega
              have kcc := hC9.cell HC7.out (fun hS => by
                rcases hS with e | e
                · have : bc = q := e; omega
                · have := (HM.out.wt.own.lt bc (by rw [own_eq]; exact e)).1; omega)
              have hp0 : 0 ≤ codeAt l s / 2 ^ (L - 1 - j) := Int.ediv_nonneg h5.1 (Int.pow_nonneg (by decide))
              have hp1 : codeAt l s / 2 ^ (L - 1 - j) < 4294967296 := by
                have := Int.ediv_le_self (b := 2 ^ (L - 1 - j)) (a := codeAt l s) h5.1
                omega
              have hlen9 : (flat l S ++ (codeBits l s).take j).length + 1 ≤ 281474976710656 := by
                rw [List.length_append, List.length_take]; omega
              have HT := Lib.hid (take_snoc (codeBits_get hy.out hjl))
              have HW9 := Lib.hid hW9
              have HO9 := Lib.hid ho9
              have HC9 := Lib.hid hC9
              clear hW9 ho9 hC9
              go_wp2_with fail
              refine (put_any (n := 1) _ HW9.out hp0 hp1 (by omega) hlen9).mono ?_
              rintro e w10 ⟨rfl, A10, c10, B10, hW10, hC10, hO10⟩
              have hPs := Ps.step HC9.out HO9.out hW10 hC10 hO10
              rw [putV_one, List.append_assoc, ← HT.out] at hPs
              have HPs := Lib.hid hPs
              clear hW10 hC10 hO10 hPs kcc z1 z2 z3 hp0 hp1
              go_wp2
              go_roundw
              case rel => exact ⟨j + 1, by omega, by go_num, HPs.out⟩
              case measure => simp [intOf]; omega
            · have d3 : decide (0 ≤ (L : Int) - 1 - (j : Int)) = false := decide_eq_false (by omega)
              have d3' : decide (1 ≤ (L : Int) - (j : Int)) = false := decide_eq_false (by omega)
              obtain rfl : j = L := by omega
              have hall : (codeBits l s).take j = codeBits l s := List.take_of_length_le (by rw [codeBits_len, getD_of hy.out]; omega)
              obtain ⟨A9', c9', B9', hKm⟩ := HM.out.put HP.out
              have HK2 : Hid (K1 w5 wr l up q (k + 1) (.slice A8 (S.length + 1) c8) (S ++ [s]) A9' c9' B9') := ⟨hKm.bel, by rw [flat_snoc, ← hall]; exact hKm.wt, hKm.sent, hKm.dis, fun u hu => by
                rw [List.mem_append] at hu
                rcases hu with hu | hu
                · exact HK.out.ok u hu
                · simp at hu; subst hu; exact ⟨_, hy.out, HY0.out⟩, by rw [List.length_append]; simp; omega⟩
              clear hall hKm hW9 ho9 hC9
              go_wp2
              go_roundw
              case rel => exact ⟨k + 1, S ++ [s], A9', c9', B9', by omega, by go_num, HK2.out⟩
              case measure => simp [intOf]; omega
      · have d1 : decide ((k : Int) < (m : Int)) = false := by simp; omega
        obtain rfl : k = m := by omega
        have hsl : SI wr .i64 Av S.length (S.map (fun s : Nat => (s : Int))) := by
          refine SI.of_own (c := cv) (base := q + 1) (e := 3) ?_ (by show _ * 8 ≤ _; omega)
          rw [List.map_map]; exact HK.out.sent
        have hAv : ∀ b off s, Av = some ⟨b, off, s⟩ → b < wr.heap.size := fun b off s e => (HK.out.sent.lt b (by rw [e]; rfl)).2
        have hAw : ∀ b, Wrt.own Aw = some b → b < wr.heap.size := fun b e => (HK.out.wt.own.lt b (by rw [own_eq]; exact e)).2
        have HAV := Lib.hid hAv
        have HAW := Lib.hid hAw
        have hqlt : q < wr.heap.size := HK.out.wt.row.lt
        have hbl := HK.out.wt.len_le
        have hpk := HK.out.wt.pk
        have HPK := Lib.hid hpk
        clear HSr hAv hAw hpk
        go_wp2_with fail
        refine (wbytes_any _ HK.out.wt).mono ?_
        rintro e w11 ⟨A11, c11, rfl, hown11, hb11⟩
        have hs11 : SI w11 .u8 A11 Bw.length Bw := SI.of_own hown11 (by show _ * 1 ≤ _; omega)
        have s11 := hb11.size
        clear hown11
        go_wp2_with fail
        refine (newReader_any _ hs11 up HPK.out.q.wf).mono ?_
        rintro e w12 ⟨p, Ar, cr, rfl, hp, -, hR12, hb12⟩
        have s12 := hb12.size
        have hb1112 : Below wr.heap.size wr w12 := hb11.trans (hb12.mono s11)
        have hb5w : Below q w5 w12 := HK.out.bel.trans (hb1112.mono (by omega))
        have hD12 : Dc w12 w4.heap.size l Ad cd := HD5.out.keep (hb5w.block _ hd5) (fun b off s e _ => hb5w.block b (HAd.out b off s e))
        have hsl12 := hsl.below hb1112 (Nat.le_refl _)
        have hW12 : Wt w12 q (q + 1) Aw cw Bw (flat l S) up := Wt.keepG HK.out.wt (grown_below hb1112 none) (by simp) (fun _ _ => by simp)
        have HB12 : Hid (Below w.heap.size w w12) := Hb5.out.trans (hb5w.mono HL5.out)
        have HD12 := Lib.hid hD12
        have HSL := Lib.hid hsl12
        have HW12 := Lib.hid hW12
        have HR12 := Lib.hid hR12
        have HOKS := Lib.hid HK.out.ok
        have hlw := HL5.out
        clear hb11 hb12 hb1112 hb5w hD12 hsl12 hsl hW12 hR12 hs11
        go_wp2
        go_loopw [17, 18, 19, 107] (fun _ _ _ si wr => ∃ i : Nat, i ≤ S.length ∧ si = .int .i64 i ∧ Rdr wr p Ar cr Bw (flat l (S.take i)).length up ∧ w12.grownBy wr (some p)) (fun _ _ _ si _ => S.length - (intOf si).toNat)
        case atStart => exact ⟨0, by omega, rfl, HR12.out, World.grownBy.refl _ _⟩
        case round =>
          clear HR12
          obtain ⟨i, hi, rfl, hR, hg⟩ := hrel
          by_cases hil : i < S.length
          · have d3 : decide ((i : Int) < (S.length : Int)) = true := by simp; omega
            have hSi : S[i]? = some S[i] := List.getElem?_eq_getElem hil
            generalize S[i] = s at hSi
            have HSI := Lib.hid hSi
            obtain ⟨x, hx, hx0⟩ := HOKS.out s (List.mem_of_getElem? hSi)
            have hxb := len_of (checked_zero HC.out).2.1 hx
            have hcl : (codeBits l s).length = x.toNat := by rw [codeBits_len, getD_of hx]
            obtain ⟨ht1, r, hr⟩ := flat_at (l := l) hSi
            have hrl : (flat l S).length = (flat l (S.take i)).length + x.toNat + r.length := by rw [hr, List.length_append, List.length_append, hcl]; omega
            have hle := HPK.out.q.le
            have hdec : nextM l (bitAt Bw up) (8 * Bw.length) (flat l (S.take i)).length = ((s : Int), 0, (flat l (S.take i)).length + x.toNat) :=
              Bak.decode HC.out hx hx0 (bitAt Bw up) (fun j => (bitAt_bd Bw up j).1) _ _ (fun j hj => by
                rw [HPK.out.q.bit _ (by omega), flat_get hSi (by omega)]) (by omega)
            have HDEC := Lib.hid hdec
            have ht2 : (flat l (S.take (i + 1))).length = (flat l (S.take i)).length + x.toNat := by rw [ht1, List.length_append, hcl]
            have HT2 := Lib.hid ht2
            have hpd : w4.heap.size ≠ p := by omega
            have hpA : ∀ b off s, Ad = some ⟨b, off, s⟩ → b ≠ p := fun b off s e => by have := HAd.out b off s e; omega
            have HPA := Lib.hid hpA
            have hD := keepD HD12.out hg (fun e => by injection e with e; omega) (fun b off s e e2 => by injection e2 with e2; exact hpA b off s e e2)
            have HG := Lib.hid hg
            clear hdec ht1 hr ht2 hpA hg hx hSi hx0 hcl
            go_wp2_with fail
            refine (next_any _ hD hR hpd HPA.out).mono ?_
            rintro e w13 ⟨rfl, hR13, hg13⟩
            rw [HDEC.out] at hR13 ⊢
            have HG13 := Lib.hid (grown_trans HG.out hg13)
            have hsl13 := SIg HSL.out HG13.out (fun b off s e => by have := HAV.out b off s e; omega)
            obtain ⟨b3, o3, z, rfl, hc3, hz, -⟩ := hsl13.cells hil
            have hzs : z = (s : Int) := by
              have := hz.out
              rw [List.getElem?_map, HSI.out] at this
              injection this with this; exact this.symm
            subst hzs
            have HR13 : Hid (Rdr w13 p Ar cr Bw (flat l (S.take (i + 1))).length up) := by show Rdr _ _ _ _ _ _ _; rw [HT2.out]; exact hR13
            have t5 : ((s : Int) != (s : Int)) = false := by simp
            clear hD hR hR13 hg13 hsl13
            go_wp2
            go_roundw
            case rel => exact ⟨i + 1, by omega, by go_num, HR13.out, HG13.out⟩
            case measure => simp [intOf]; omega
          · have d3 : decide ((i : Int) < (S.length : Int)) = false := by simp; omega
            obtain rfl : i = S.length := by omega
            have HG := Lib.hid hg
            have hWf := Wt.keepG HW12.out hg (fun e => by injection e with e; omega) (fun b e e2 => by injection e2 with e2; have := HAW.out b e; omega)
            rw [List.take_length] at hR
            have t6 : (((flat l S).length : Int) == ((flat l S).length : Int)) = true := by simp
            clear hg
            go_wp2_with fail
            refine (place_of _ hR).mono ?_
            rintro e w14 ⟨rfl, rfl⟩
            go_wp2_with fail
            refine (wlen_any _ hWf).mono ?_
            rintro e w15 ⟨rfl, rfl⟩
            clear hR hWf
            go_wp2
            go_ret
            exact ⟨rfl, HB12.out.trans (below_grown HG.out (by omega) HB12.out.size)⟩
  · have q2 : (checkedOf l != 0) = true := by simp [hc]
    obtain rfl : D = none := HC5.out.bad hc
    clear hc
    go_wp2
    go_ret
    exact ⟨rfl, Hb5.out⟩
end Go.Proofs.Ytpecemkjoklhfaa.LawK
