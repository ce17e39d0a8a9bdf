/-
  Walks: the reference's more and Next.
-/
import Derived.Test.YtmgbjgjlddifaaaGreatZG2
import Derived.Test.YtmgbjgjlddifaaaGreatZG4
import Derived.Deep.DeepCutAuto
set_option linter.unusedVariables false
set_option linter.unusedSimpArgs false
namespace Go.Proofs.YtmgbjgjlddifaaaGreat.RefX
open Go.RowKit K Pfx Ref RefT RefR Bits

theorem Tab.row {lo : Nat} {w : World} {l : List Int} {c : Array Value} (h : Tab lo w l c) (w0 : World) : ∃ vs, (w0.alloc (.cells c 66)).rowIs w0.heap.size 66 37 (tabF l 17 vs (anyM l)) ∧ ∀ j, 1 ≤ j → j ≤ 16 → ∃ A cap, vs j = .slice A (cnt l j l.length) cap ∧ SI w .i64 A (cnt l j l.length) (idx l j l.length) := by
  obtain ⟨vs, h1, h2⟩ := h.cells
  refine ⟨vs, ?_, fun j j1 j2 => by obtain ⟨A, cap, e, hs, -⟩ := h2 j j1 j2; exact ⟨A, cap, e, hs⟩⟩
  have := World.rowIs_alloc w0 c 66 (tabF l 17 vs (anyM l)) (fun i hi => h1 i (by rw [h.size] at hi; exact hi))
  rw [h.size] at this
  exact this
theorem moreF_step {l : List Int} {v : Int} {n k : Nat} {b : Bool} (hk : k ≤ 16) (H : moreF l v n (17 - k) k = b) : (moreK l v n k || moreF l v n (17 - (k + 1)) (k + 1)) = b := by
  rw [show 17 - k = (17 - (k + 1)) + 1 by omega] at H
  rw [← H, moreF]
attribute [local irreducible] first tabB deepB startB moreF
theorem moreF_end (l : List Int) (v : Int) (n k : Nat) : moreF l v n 0 k = false := by unfold moreF; rfl
set_option maxRecDepth 20000 in
set_option maxHeartbeats 2000000 in
theorem more_any {lo : Nat} {l : List Int} {c : Array Value} {v : Int} {n : Nat} (w : World) (HT : Tab lo w l c) (h0 : 0 ≤ v) (h1 : v ≤ 131072) (n1 : 1 ≤ n) (n2 : n ≤ 16) :
    Calls Tryz.prog 100 #[.agg c, .int .i64 v, .int .i64 n] w fun e w' => e = .returned (.bool (moreM l v n)) ∧ Below w.heap.size w w' := by
  obtain ⟨vs, hrow, hvs⟩ := Tab.row HT w
  have hb0 := Lib.hid ((Below.refl w.heap.size w).alloc (Nat.le_refl _) (.cells c 66))
  have HV := Lib.hid hvs
  have hsh := Lib.hid HT.short
  have HM : Hid (moreF l v n (17 - (n + 1)) (n + 1) = moreM l v n) := by show _ = _; unfold moreM; rw [show 17 - (n + 1) = 16 - n by omega]
  generalize moreM l v n = res at *
  clear hvs HT
  go_enter Tryz.func100, Tryz.ntmps100
  go_wp2
  have HR := Lib.hid hrow
  clear hrow
  generalize hW : w.alloc (.cells c 66) = W at *
  clear hW
  go_loopw [7, 8, 9] (fun sk _ _ wr => ∃ k q : Nat, n + 1 ≤ k ∧ k ≤ 17 ∧ sk = .int .i64 k ∧ W.drewN q = wr ∧ Hid (moreF l v n (17 - k) k = res)) (fun sk _ _ _ => 17 - (intOf sk).toNat)
  case atStart => exact ⟨n + 1, 0, by omega, by omega, by go_num, rfl, HM⟩
  case round =>
    clear HM
    obtain ⟨k, q, hk1, hk2, rfl, rfl, HM⟩ := hrel
    by_cases hk : k ≤ 16
    · have hd : decide ((k : Int) ≤ 16) = true := by simp; omega
      have cF := HR.out.cell (i := k) (by omega)
      rw [tabF_lo (by omega), if_pos (by omega)] at cF
      have cO := HR.out.cell (i := 18 + k) (by omega)
      rw [tabF_mid (by omega) (by omega), show 18 + k - 18 = k by omega] at cO
      obtain ⟨A, cap, hv, -⟩ := HV.out k (by omega) hk
      rw [hv] at cO
      have hcl := cnt_le l k l.length
      have hs := hsh.out
      have hfl := first_le l k (by omega) hs
      have hp := pow_le16 (k := k - n) (by omega)
      have hp0 := pow_pos' (k - n)
      have hm0 : 0 ≤ v * 2 ^ (k - n) := Int.mul_nonneg h0 (by omega)
      have hm1 : v * 2 ^ (k - n) ≤ 131072 * 65536 := Int.mul_le_mul h1 hp (by omega) (by omega)
      have HM2 := Lib.hid (moreF_step hk HM.out)
      have HK : Hid (moreK l v n k = (decide (0 < cnt l k l.length) && (decide (v * 2 ^ (k - n) ≤ (first l k : Int) + cnt l k l.length - 1) && decide ((first l k : Int) ≤ v * 2 ^ (k - n) + 2 ^ (k - n) - 1)))) := rfl
      clear hv HM
      go_wp2
      generalize v * 2 ^ (k - n) = X at *
      generalize (2 : Int) ^ (k - n) = Y at *
      by_cases g1 : 0 < cnt l k l.length
      · by_cases g2 : X ≤ (first l k : Int) + cnt l k l.length - 1
        · by_cases g3 : (first l k : Int) ≤ X + Y - 1
          · have e : Hid (true = res) := by
              show _ = _
              rw [← HM2.out, HK.out, decide_eq_true g1, decide_eq_true g2, decide_eq_true g3]; rfl
            have t1 : decide (0 < cnt l k l.length) = true := by simpa using g1
            have t2 : decide (X ≤ (first l k : Int) + cnt l k l.length - 1) = true := by simpa using g2
            have t3 : decide ((first l k : Int) ≤ X + Y - 1) = true := by simpa using g3
            clear g2 g3 HK HM2
            go_quiet (fail)
            go_wp2
            go_ret
            rw [← e.out]
            exact ⟨rfl, below_drewN (below_drewN hb0.out _) _⟩
          · have HM3 : Hid (moreF l v n (17 - (k + 1)) (k + 1) = res) := by
              show _ = _
              rw [← HM2.out, HK.out, decide_eq_true g1, decide_eq_true g2, decide_eq_false g3]; simp
            have t1 : decide (0 < cnt l k l.length) = true := by simpa using g1
            have t2 : decide (X ≤ (first l k : Int) + cnt l k l.length - 1) = true := by simpa using g2
            have t3 : decide ((first l k : Int) ≤ X + Y - 1) = false := by simp; omega
            clear g2 g3 HK HM2
            go_quiet (fail)
            go_wp2
            go_roundw
            case rel => exact ⟨k + 1, _, by omega, by omega, by go_num, rfl, HM3⟩
            case measure => simp [intOf]; omega
        · have HM3 : Hid (moreF l v n (17 - (k + 1)) (k + 1) = res) := by
            show _ = _
            rw [← HM2.out, HK.out, decide_eq_true g1, decide_eq_false g2]; simp
          have t1 : decide (0 < cnt l k l.length) = true := by simpa using g1
          have t2 : decide (X ≤ (first l k : Int) + cnt l k l.length - 1) = false := by simp; omega
          clear g2 HK HM2
          go_quiet (fail)
          go_wp2
          go_roundw
          case rel => exact ⟨k + 1, _, by omega, by omega, by go_num, rfl, HM3⟩
          case measure => simp [intOf]; omega
      · have HM3 : Hid (moreF l v n (17 - (k + 1)) (k + 1) = res) := by
          show _ = _
          rw [← HM2.out, HK.out, decide_eq_false g1]; simp
        have t1 : decide (0 < cnt l k l.length) = false := by simpa using g1
        clear HK HM2
        go_quiet (fail)
        go_wp2
        go_roundw
        case rel => exact ⟨k + 1, _, by omega, by omega, by go_num, rfl, HM3⟩
        case measure => simp [intOf]; omega
    · have hd : decide ((k : Int) ≤ 16) = false := by simp; omega
      obtain rfl : k = 17 := by omega
      have e : Hid (false = res) := by show _ = _; rw [← HM.out, moreF_end]
      go_wp2
      go_ret
      rw [← e.out]
      exact ⟨rfl, below_drewN hb0.out _⟩
theorem rnx_end {l : List Int} {bit : Nat → Int} {total f n : Nat} {v : Int} {at_ : Nat} (h : total ≤ at_) : rnx l bit total (f+1) n v at_ = (0, 5, at_) := by
  rw [rnx, if_pos h]
theorem rnx_hit {l : List Int} {bit : Nat → Int} {total f n : Nat} {v : Int} {at_ : Nat} (h : ¬ total ≤ at_) (h2 : (first l n : Int) ≤ 2 * v + bit at_) (h3 : 2 * v + bit at_ < (first l n : Int) + cnt l n l.length) :
    rnx l bit total (f+1) n v at_ = ((idx l n l.length).getD (2 * v + bit at_ - first l n).toNat 0, 0, at_ + 1) := by
  rw [rnx, if_neg h]; simp only []; rw [if_pos ⟨h2, h3⟩]
theorem rnx_out {l : List Int} {bit : Nat → Int} {total f n : Nat} {v : Int} {at_ : Nat} (h : ¬ total ≤ at_) (h2 : ¬ ((first l n : Int) ≤ 2 * v + bit at_ ∧ 2 * v + bit at_ < (first l n : Int) + cnt l n l.length)) (h3 : moreM l (2 * v + bit at_) n = false) :
    rnx l bit total (f+1) n v at_ = (0, 32, at_ + 1) := by
  rw [rnx, if_neg h]; simp only []; rw [if_neg h2, if_pos h3]
theorem rnx_more {l : List Int} {bit : Nat → Int} {total f n : Nat} {v : Int} {at_ : Nat} (h : ¬ total ≤ at_) (h2 : ¬ ((first l n : Int) ≤ 2 * v + bit at_ ∧ 2 * v + bit at_ < (first l n : Int) + cnt l n l.length)) (h3 : moreM l (2 * v + bit at_) n = true) :
    rnx l bit total (f+1) n v at_ = rnx l bit total f (n+1) (2 * v + bit at_) (at_ + 1) := by
  rw [rnx, if_neg h]; simp only []; rw [if_neg h2, if_neg (by rw [h3]; simp)]
/-- the three blocks of the reference's Next: the table, the reader, the result -/
structure N1 (w wr : World) (tc : Array Value) (A : Option Addr) (n c : Nat) (up : Bool) (a : Nat) : Prop where
  bel : Below w.heap.size w wr
  tbl : wr.heap[w.heap.size]? = some (.cells tc 66 (0, 0))
  rdr : wr.rowIs (w.heap.size + 1) 56 3 (rrF A n c a up)
  res : wr.rowIs (w.heap.size + 1 + 1) 56 3 (rrF none 0 0 0 false)
section
variable {w wr w2 : World} {tc : Array Value} {A : Option Addr} {n c : Nat} {up : Bool} {a : Nat}
theorem N1.start (w : World) (tc : Array Value) (A : Option Addr) (n c : Nat) (up : Bool) (a : Nat) :
    N1 w (((w.alloc (.cells tc 66)).alloc (.cells #[.slice A n c, .bool up, .int .i64 a] 56)).alloc (.cells #[.slice none 0 0, .bool false, .int .i64 0] 56)) tc A n c up a := by
  refine ⟨(((Below.refl _ _).alloc (Nat.le_refl _) _).alloc (by simp) _).alloc (by simp; omega) _, ?_, ?_, ?_⟩
  · rw [Below.heap_alloc _ _ _ (by simp; omega), Below.heap_alloc _ _ _ (by simp)]
    show (w.heap.push _)[w.heap.size]? = _
    simp
  · have := rrF_row A n c a up (w.alloc (.cells tc 66))
    rw [World.size_alloc] at this
    exact this.alloc _
  · have := rrF_row none 0 0 0 false ((w.alloc (.cells tc 66)).alloc (.cells #[.slice A n c, .bool up, .int .i64 a] 56))
    rw [World.size_alloc, World.size_alloc] at this
    exact this
theorem N1.lt (h : N1 w wr tc A n c up a) : w.heap.size + 1 + 1 < wr.heap.size := h.res.lt
theorem N1.below (h : N1 w wr tc A n c up a) (hb : Below wr.heap.size wr w2) : N1 w w2 tc A n c up a :=
  have hl := h.lt
  ⟨h.bel.trans (hb.mono (by omega)), by rw [hb.block _ (by omega)]; exact h.tbl, h.rdr.of_block (hb.block _ (by omega)), h.res.of_block (hb.block _ (by omega))⟩
theorem N1.alloc (h : N1 w wr tc A n c up a) (o : Obj) : N1 w (wr.alloc o) tc A n c up a := h.below ((Below.refl _ _).alloc (Nat.le_refl _) o)
theorem N1.drewN (h : N1 w wr tc A n c up a) (k : Nat) : N1 w (wr.drewN k) tc A n c up a := h.below (below_drewN (Below.refl _ _) k)
theorem N1.adv (h : N1 w wr tc A n c up a) (b : Nat) (x : Int) (hx : x = b) : ∃ W, W = (((wr.setCell ⟨w.heap.size + 1, 0, none⟩ (.slice A n c)).setCell ⟨w.heap.size + 1, 1, none⟩ (.bool up)).setCell ⟨w.heap.size + 1, 2, none⟩ (.int .i64 x)) ∧ N1 w W tc A n c up b := by
  subst hx
  exact ⟨_, rfl, ((h.bel.setCell (by simp) _).setCell (by simp) _).setCell (by simp) _, by
    rw [Below.heap_setCell _ _ _ _ (by simp), Below.heap_setCell _ _ _ _ (by simp), Below.heap_setCell _ _ _ _ (by simp)]; exact h.tbl,
   (((h.rdr.set 0 (.slice A n c)).set 1 (.bool up)).set 2 (.int .i64 b)).congr (fun j hj => by
    have : j = 0 ∨ j = 1 ∨ j = 2 := by omega
    rcases this with rfl | rfl | rfl <;> rfl), ((h.res.setOther (by simp) _).setOther (by simp) _).setOther (by simp) _⟩
theorem N1.table {lo : Nat} {l : List Int} (h : N1 w wr tc A n c up a) (HT : Tab lo w l tc) : ∃ vs, wr.rowIs w.heap.size 66 37 (tabF l 17 vs (anyM l)) ∧ ∀ j, 1 ≤ j → j ≤ 16 → ∃ A' cap, vs j = .slice A' (cnt l j l.length) cap ∧ SI w .i64 A' (cnt l j l.length) (idx l j l.length) := by
  obtain ⟨vs, h1, h2⟩ := HT.cells
  exact ⟨vs, ⟨tc, h.tbl, HT.size, h1⟩, fun j j1 j2 => by obtain ⟨A', cap, e, hs, -⟩ := h2 j j1 j2; exact ⟨A', cap, e, hs⟩⟩
structure NF (w W : World) (A : Option Addr) (n c : Nat) (up : Bool) (x : Int) : Prop where
  bel : Below w.heap.size w W
  c0 : W.cell? ⟨w.heap.size + 1 + 1, 0, none⟩ = some (.slice A n c)
  c1 : W.cell? ⟨w.heap.size + 1 + 1, 1, none⟩ = some (.bool up)
  c2 : W.cell? ⟨w.heap.size + 1 + 1, 2, none⟩ = some (.int .i64 x)
theorem NF.alloc {w W : World} {A : Option Addr} {n c : Nat} {up : Bool} {x : Int} (h : NF w W A n c up x) (o : Obj) : NF w (W.alloc o) A n c up x :=
  have k : ∀ i v, W.cell? ⟨w.heap.size + 1 + 1, i, none⟩ = some v → (W.alloc o).cell? ⟨w.heap.size + 1 + 1, i, none⟩ = some v := fun i v hv =>
    ((Below.refl W.heap.size W).alloc (Nat.le_refl _) o).cell (p := ⟨w.heap.size + 1 + 1, i, none⟩) (World.block_lt_of_cell? W _ hv) |>.trans hv
  ⟨h.bel.alloc h.bel.size _, k _ _ h.c0, k _ _ h.c1, k _ _ h.c2⟩
theorem NF.drewN {w W : World} {A : Option Addr} {n c : Nat} {up : Bool} {x : Int} (h : NF w W A n c up x) (k : Nat) : NF w (W.drewN k) A n c up x := ⟨below_drewN h.bel k, h.c0, h.c1, h.c2⟩
theorem N1.fin (h : N1 w wr tc A n c up a) (x : Int) : ∃ W, W = (((wr.setCell ⟨w.heap.size + 1 + 1, 0, none⟩ (.slice A n c)).setCell ⟨w.heap.size + 1 + 1, 1, none⟩ (.bool up)).setCell ⟨w.heap.size + 1 + 1, 2, none⟩ (.int .i64 x)) ∧ NF w W A n c up x := by
  have r1 := ((h.res.set 0 (.slice A n c)).set 1 (.bool up)).set 2 (.int .i64 x)
  exact ⟨_, rfl, ((h.bel.setCell (by simp; omega) _).setCell (by simp; omega) _).setCell (by simp; omega) _, r1.cell (i := 0) (by omega), r1.cell (i := 1) (by omega), r1.cell (i := 2) (by omega)⟩
theorem N1.cells (h : N1 w wr tc A n c up a) : wr.cell? ⟨w.heap.size + 1, 0, none⟩ = some (.slice A n c) ∧ wr.cell? ⟨w.heap.size + 1, 1, none⟩ = some (.bool up) ∧ wr.cell? ⟨w.heap.size + 1, 2, none⟩ = some (.int .i64 a) ∧
    wr.frozen? ⟨w.heap.size + 1, 0, none⟩ = false ∧ wr.frozen? ⟨w.heap.size + 1, 1, none⟩ = false ∧ wr.frozen? ⟨w.heap.size + 1, 2, none⟩ = false :=
  ⟨h.rdr.cell (i := 0) (by omega), h.rdr.cell (i := 1) (by omega), h.rdr.cell (i := 2) (by omega), h.rdr.frozen 0, h.rdr.frozen 1, h.rdr.frozen 2⟩
theorem N1.rcells (h : N1 w wr tc A n c up a) : wr.cell? ⟨w.heap.size + 1 + 1, 0, none⟩ = some (.slice none 0 0) ∧ wr.cell? ⟨w.heap.size + 1 + 1, 1, none⟩ = some (.bool false) ∧ wr.cell? ⟨w.heap.size + 1 + 1, 2, none⟩ = some (.int .i64 0) ∧
    wr.frozen? ⟨w.heap.size + 1 + 1, 0, none⟩ = false ∧ wr.frozen? ⟨w.heap.size + 1 + 1, 1, none⟩ = false ∧ wr.frozen? ⟨w.heap.size + 1 + 1, 2, none⟩ = false :=
  ⟨h.res.cell (i := 0) (by omega), h.res.cell (i := 1) (by omega), h.res.cell (i := 2) (by omega), h.res.frozen 0, h.res.frozen 1, h.res.frozen 2⟩
end
def RNextPost (w : World) (A : Option Addr) (c : Nat) (rl : List Int) (up : Bool) (res : Int × Int × Nat) (e : Ending) (w' : World) : Prop :=
  e = .returned (.tuple #[.agg #[.slice A rl.length c, .bool up, .int .i64 (res.2.2 : Nat)], .int .i64 res.1, .int .i64 res.2.1]) ∧ Below w.heap.size w w'
set_option maxRecDepth 20000 in
set_option maxHeartbeats 4000000 in
theorem rnext_any {lo : Nat} {l rl : List Int} {tc : Array Value} {A : Option Addr} {c at_ : Nat} {up : Bool} (w : World) (HT : Tab lo w l tc) (HA : SI w .u8 A rl.length rl) (hwf : ∀ x ∈ rl, 0 ≤ x ∧ x < 256) (hat : at_ ≤ 8 * rl.length) :
    Calls Tryz.prog 87 #[.agg tc, .agg #[.slice A rl.length c, .bool up, .int .i64 at_]] w (RNextPost w A c rl up (rnextM l (bitAt rl up) (8 * rl.length) at_)) := by
  have hbig := HA.bigb
  have HN := Lib.hid (N1.start w tc A rl.length c up at_)
  obtain ⟨vs, hrow0, hvs⟩ := Tab.row HT w
  have HV := Lib.hid hvs
  have HROW := Lib.hid hrow0
  have HSZ := Lib.hid HT.size
  have hsh := HT.short
  have HTT := Lib.hid HT
  have HAA := Lib.hid HA
  have HWF := Lib.hid hwf
  clear HT HA hwf hvs hrow0
  have hrn : Hid (rnextM l (bitAt rl up) (8 * rl.length) at_ = if anyM l then rnx l (bitAt rl up) (8 * rl.length) 16 1 0 at_ else (0, 32, at_)) := rfl
  generalize rnextM l (bitAt rl up) (8 * rl.length) at_ = res at *
  have cany : tc[36]? = some (.bool (anyM l)) := by
    obtain ⟨vs, h1, -⟩ := HTT.out.cells
    rw [h1 36 (by omega), tabF_hi (by omega)]
  cases hany : anyM l with
  | false =>
    rw [hany] at cany
    have hr2 := hrn.out
    rw [hany, if_neg (by simp)] at hr2
    have HR := Lib.hid hr2
    clear hr2 hrn hany
    go_enter Tryz.func87, Tryz.ntmps87
    go_wp2_with fail
    have hb : Below w.heap.size w (((w.alloc (.cells tc 66)).alloc (.cells #[.slice A rl.length c, .bool up, .int .i64 at_] 56)).alloc (.cells #[.slice A rl.length c, .bool up, .int .i64 at_] 56)) :=
      (((Below.refl _ _).alloc (Nat.le_refl _) _).alloc (by simp) _).alloc (by simp; omega) _
    refine bodyPost_ret (v := .tuple #[.agg #[.slice A rl.length c, .bool up, .int .i64 at_], .int .i64 0, .int .i64 32]) ?_ rfl ⟨by rw [HR.out], hb⟩
    simp [results, Tryz.results87, go_sem]
  | true =>
    rw [hany] at cany
    have hr2 := hrn.out
    rw [hany, if_pos rfl] at hr2
    have HR := Lib.hid hr2
    clear hr2 hrn
    have HANY := Lib.hid hany
    clear hany
    go_enter Tryz.func87, Tryz.ntmps87
    go_wp2_with fail
    generalize (((w.alloc (.cells tc 66)).alloc (.cells #[.slice A rl.length c, .bool up, .int .i64 at_] 56)).alloc (.cells #[.slice none 0 0, .bool false, .int .i64 0] 56)) = W at *
    go_loopw [7, 8, 9, 10, 11] (fun sv sn _ _ _ wr => ∃ (m : Nat) (v : Int) (a : Nat), 1 ≤ m ∧ m ≤ 17 ∧ 0 ≤ v ∧ v < 2 ^ (m - 1) ∧ a ≤ 8 * rl.length ∧ sn = .int .i64 m ∧ sv = .int .i64 v ∧ N1 w wr tc A rl.length c up a ∧
        Hid (res = rnx l (bitAt rl up) (8 * rl.length) (17 - m) m v a)) (fun _ sn _ _ _ _ => 17 - (intOf sn).toNat)
    case atStart => exact ⟨1, 0, at_, by omega, by omega, by omega, by decide, hat, rfl, rfl, HN.out, HR⟩
    case round =>
      clear HN HR cany
      obtain ⟨m, v, a, hm1, hm2, hv0, hv1, ha, rfl, rfl, hN, HR⟩ := hrel
      obtain ⟨p0, p1, p2, f0, f1, f2⟩ := hN.cells
      obtain ⟨r0, r1, r2, g0, g1, g2⟩ := hN.rcells
      have hlt := hN.lt
      by_cases hm : m ≤ 16
      · have hmd : decide ((m : Int) ≤ 16) = true := by simp; omega
        have hf : 17 - m = (17 - (m + 1)) + 1 := by omega
        rw [hf] at HR
        clear hf
        have HA1 := Lib.hid (HAA.out.below hN.bel (Nat.le_refl _))
        by_cases hend : 8 * rl.length ≤ a
        · have hres := HR.out
          rw [rnx_end hend] at hres
          subst hres
          obtain rfl : a = 8 * rl.length := by omega
          go_wp2_with fail
          refine (rtake_end (at_ := 8 * rl.length) _ hbig 1 (by omega) (by omega) (by omega)).mono ?_
          rintro e w1 ⟨rfl, hb1⟩
          have hN1 := hN.below hb1
          clear hb1 hN p0 p1 p2 f0 f1 f2 r0 r1 r2 g0 g1 g2
          obtain ⟨r0, r1, r2, g0, g1, g2⟩ := hN1.rcells
          have hlt1 := hN1.lt
          have HN1 := Lib.hid hN1
          clear hN1
          go_wp2_with fail
          obtain ⟨W2, hW2, hN2⟩ := HN1.out.fin (8 * (rl.length : Int))
          rw [← hW2]
          clear hW2
          obtain ⟨hb2, e0, e1, e2⟩ := hN2.alloc (.cells #[.slice A rl.length c, .bool up, .int .i64 (8 * (rl.length : Int))] 56)
          generalize W2.alloc _ = W3 at *
          refine bodyPost_ret (v := .tuple #[.agg #[.slice A rl.length c, .bool up, .int .i64 (8 * (rl.length : Int))], .int .i64 0, .int .i64 5]) ?_ rfl ⟨by simp, hb2⟩
          simp [results, Tryz.results87, go_sem, e0, e1, e2]
        · have hbt := bitAt_bd rl up a
          have htk : Hid (takeV rl up a 1 = bitAt rl up a) := by
            show takeV rl up a 1 = _
            cases up <;> simp [takeV]
          have hfl := first_le l m (by omega) hsh
          have hcl := cnt_le l m l.length
          have hp := pow_le16 (k := m - 1) (by omega)
          have hpm : (2 : Int) ^ m = 2 * 2 ^ (m - 1) := by
            obtain ⟨q, rfl⟩ : ∃ q, m = q + 1 := ⟨m - 1, by omega⟩
            rw [Nat.add_sub_cancel, Int.pow_succ]; omega
          have Hpm := Lib.hid hpm
          have hp16 := pow_le16 (k := m) hm
          have hv2 : 2 * v + bitAt rl up a ≤ 131072 := by omega
          clear hpm hp16
          go_wp2_with fail
          refine (rtake_any (at_ := a) _ HA1.out HWF.out 1 (by omega) (by omega)).mono ?_
          rintro e w1 ⟨rfl, hb1⟩
          rw [htk.out]
          have hN1 := hN.below hb1
          have HVW := Lib.hid (HTT.out.below (hN.bel.trans (hb1.mono hN.bel.size)) (Nat.le_refl _))
          clear hb1 hN p0 p1 p2 f0 f1 f2 r0 r1 r2 g0 g1 g2
          obtain ⟨p0, p1, p2, f0, f1, f2⟩ := hN1.cells
          have hlt1 := hN1.lt
          have hlt2 : w.heap.size + 1 < w1.heap.size := by omega
          have hlt3 : w.heap.size < w1.heap.size := by omega
          have HN1 := Lib.hid hN1
          clear hN1
          generalize hX : bitAt rl up a = x at *
          have HX := Lib.hid hX
          clear hX
          obtain ⟨Wa, hWa, hNa⟩ := HN1.out.adv (a + 1) ((a : Int) + 1) (by omega)
          go_upto_region 12 with (fail)
          rw [← hWa]
          clear hWa p0 p1 p2 f0 f1 f2
          have hN3 := hNa.alloc (.cells #[.slice A rl.length c, .bool up, .int .i64 ((a : Int) + 1)] 56)
          clear hNa
          generalize Wa.alloc _ = w3 at *
          have HI : Hid ((Tryz.prog.info? 66).map (·.size) = some tc.size) := by show _ = _; rw [HSZ.out]; exact info57
          obtain ⟨vs3, hrow3, hvs3⟩ := hN3.table HTT.out
          have cF := hrow3.cell (i := m) (by omega)
          rw [tabF_lo (by omega), if_pos (by omega)] at cF
          have cO := hrow3.cell (i := 18 + m) (by omega)
          rw [tabF_mid (by omega) (by omega), show 18 + m - 18 = m by omega] at cO
          obtain ⟨A3, cap3, hv3, hs3⟩ := hvs3 m hm1 hm
          rw [hv3] at cO
          have HS3 := Lib.hid hs3
          clear hv3 hs3 hvs3 hrow3
          by_cases q1 : (first l m : Int) ≤ 2 * v + x
          · have t1 : decide ((first l m : Int) ≤ 2 * v + x) = true := by simpa using q1
            by_cases q2 : 2 * v + x < (first l m : Int) + cnt l m l.length
            · have t2 : decide (2 * v + x < (first l m : Int) + cnt l m l.length) = true := by simpa using q2
              have hh := Lib.hid (rnx_hit (l := l) (bit := bitAt rl up) (n := m) (v := v) (f := 17 - (m + 1)) hend (by rw [HX.out]; exact q1) (by rw [HX.out]; exact q2))
              obtain ⟨q, hq⟩ : ∃ q : Nat, 2 * v + x - (first l m : Int) = q := ⟨(2 * v + x - (first l m : Int)).toNat, by omega⟩
              have hqs : q < cnt l m l.length := by omega
              obtain ⟨b, off, y, rfl, hc0, hy, hbl⟩ := HS3.out.cells hqs
              have hc : w3.cell? ⟨b, off + q, none⟩ = some (.int .i64 y) := (hN3.bel.cell (p := ⟨b, off + q, none⟩) hbl).trans hc0
              have hbn : ¬ b = w.heap.size + 1 + 1 := by omega
              clear hc0
              have hres := HR.out
              rw [hh.out, HX.out, show (2 * v + x - (first l m : Int)).toNat = q by omega, getD_of hy.out] at hres
              subst hres
              clear hh
              go_quiet (fail)
              obtain ⟨p0, p1, p2, f0, f1, f2⟩ := hN3.cells
              obtain ⟨r0, r1, r2, g0, g1, g2⟩ := hN3.rcells
              have HN3 := Lib.hid hN3
              clear hN3
              go_wp2
              go_region
              go_wp2
              obtain ⟨W2, hW2, hN2⟩ := (HN3.out.drewN (nq + 1)).fin ((a : Int) + 1)
              rw [← hW2]
              clear hW2
              obtain ⟨hb2, e0, e1, e2⟩ := hN2
              refine bodyPost_ret (v := .tuple #[.agg #[.slice A rl.length c, .bool up, .int .i64 ((a : Int) + 1)], .int .i64 y, .int .i64 0]) ?_ rfl ⟨by simp, hb2⟩
              simp [results, Tryz.results87, go_sem, e0, e1, e2]
            · have t2 : decide (2 * v + x < (first l m : Int) + cnt l m l.length) = false := by simp; omega
              have Q : Hid (¬ ((first l m : Int) ≤ 2 * v + x ∧ 2 * v + x < (first l m : Int) + cnt l m l.length)) := fun h => q2 h.2
              clear q2
              go_quiet (fail)
              have hN4 := hN3.drewN nq
              have HT4 := Lib.hid (HTT.out.below hN4.bel (Nat.le_refl _))
              have HB4 := Lib.hid hN4.tbl
              have HN4 := Lib.hid hN4
              clear hN3 hN4
              cases hmo : moreM l (2 * v + x) m with
              | true =>
                have hres := Lib.hid (rnx_more (l := l) (bit := bitAt rl up) (n := m) (v := v) (f := 17 - (m + 1)) hend (by rw [HX.out]; exact Q.out) (by rw [HX.out]; exact hmo))
                go_wp2_with (first
                  | (refine wpList_load_row rfl 66 (.tmp 2) rfl w.heap.size rfl 66 tc (0, 0) _ HB4.out Tryz.underlying66 rfl HI.out ?_)
                  | (go_at_call 100; refine (more_any _ HT4.out (by omega) hv2 hm1 hm).mono ?_; rintro e w5 ⟨rfl, hb5⟩))
                have hN5 := HN4.out.below hb5
                clear hmo hb5
                go_wp2
                go_roundw
                case rel => exact ⟨m + 1, 2 * v + x, a + 1, by omega, by omega, by omega, by have := Hpm.out; rw [Nat.add_sub_cancel]; omega, by omega, by go_num, rfl, hN5, by
                  show _ = _
                  rw [HR.out, hres.out, HX.out]⟩
                case measure => simp [intOf]; omega
              | false =>
                have hres := HR.out
                rw [rnx_out hend (by rw [HX.out]; exact Q.out) (by rw [HX.out]; exact hmo)] at hres
                subst hres
                go_wp2_with (refine wpList_load_row rfl 66 (.tmp 2) rfl w.heap.size rfl 66 tc (0, 0) _ HB4.out Tryz.underlying66 rfl HI.out ?_)
                refine (more_any _ HT4.out (by omega) hv2 hm1 hm).mono ?_
                rintro e w5 ⟨rfl, hb5⟩
                rw [hmo]
                have hN5 := HN4.out.below hb5
                obtain ⟨p0, p1, p2, f0, f1, f2⟩ := hN5.cells
                obtain ⟨r0, r1, r2, g0, g1, g2⟩ := hN5.rcells
                obtain ⟨W2, hW2', hb2⟩ := hN5.fin ((a : Int) + 1)
                have HW2 := Lib.hid hW2'
                clear hmo hb5 hW2'
                go_wp2
                rw [← HW2.out]
                obtain ⟨hb6, e0, e1, e2⟩ := hb2
                refine bodyPost_ret (v := .tuple #[.agg #[.slice A rl.length c, .bool up, .int .i64 ((a : Int) + 1)], .int .i64 0, .int .i64 32]) ?_ rfl ⟨by simp, hb6⟩
                simp [results, Tryz.results87, go_sem, e0, e1, e2]
          · have t1 : decide ((first l m : Int) ≤ 2 * v + x) = false := by simp; omega
            have Q : Hid (¬ ((first l m : Int) ≤ 2 * v + x ∧ 2 * v + x < (first l m : Int) + cnt l m l.length)) := fun h => q1 h.1
            clear q1
            go_quiet (fail)
            have hN4 := hN3.drewN nq
            have HT4 := Lib.hid (HTT.out.below hN4.bel (Nat.le_refl _))
            have HB4 := Lib.hid hN4.tbl
            have HN4 := Lib.hid hN4
            clear hN3 hN4
            cases hmo : moreM l (2 * v + x) m with
            | true =>
              have hres := Lib.hid (rnx_more (l := l) (bit := bitAt rl up) (n := m) (v := v) (f := 17 - (m + 1)) hend (by rw [HX.out]; exact Q.out) (by rw [HX.out]; exact hmo))
              go_wp2_with (first
                | (refine wpList_load_row rfl 66 (.tmp 2) rfl w.heap.size rfl 66 tc (0, 0) _ HB4.out Tryz.underlying66 rfl HI.out ?_)
                | (go_at_call 100; refine (more_any _ HT4.out (by omega) hv2 hm1 hm).mono ?_; rintro e w5 ⟨rfl, hb5⟩))
              have hN5 := HN4.out.below hb5
              clear hmo hb5
              go_wp2
              go_roundw
              case rel => exact ⟨m + 1, 2 * v + x, a + 1, by omega, by omega, by omega, by have := Hpm.out; rw [Nat.add_sub_cancel]; omega, by omega, by go_num, rfl, hN5, by
                show _ = _
                rw [HR.out, hres.out, HX.out]⟩
              case measure => simp [intOf]; omega
            | false =>
              have hres := HR.out
              rw [rnx_out hend (by rw [HX.out]; exact Q.out) (by rw [HX.out]; exact hmo)] at hres
              subst hres
              go_wp2_with (refine wpList_load_row rfl 66 (.tmp 2) rfl w.heap.size rfl 66 tc (0, 0) _ HB4.out Tryz.underlying66 rfl HI.out ?_)
              refine (more_any _ HT4.out (by omega) hv2 hm1 hm).mono ?_
              rintro e w5 ⟨rfl, hb5⟩
              rw [hmo]
              have hN5 := HN4.out.below hb5
              obtain ⟨p0, p1, p2, f0, f1, f2⟩ := hN5.cells
              obtain ⟨r0, r1, r2, g0, g1, g2⟩ := hN5.rcells
              obtain ⟨W2, hW2', hb2⟩ := hN5.fin ((a : Int) + 1)
              have HW2 := Lib.hid hW2'
              clear hmo hb5 hW2'
              go_wp2
              rw [← HW2.out]
              obtain ⟨hb6, e0, e1, e2⟩ := hb2
              refine bodyPost_ret (v := .tuple #[.agg #[.slice A rl.length c, .bool up, .int .i64 ((a : Int) + 1)], .int .i64 0, .int .i64 32]) ?_ rfl ⟨by simp, hb6⟩
              simp [results, Tryz.results87, go_sem, e0, e1, e2]
      · have hmd : decide ((m : Int) ≤ 16) = false := by simp; omega
        obtain rfl : m = 17 := by omega
        have hres : res = (0, 32, a) := HR.out
        subst hres
        have HN5 := Lib.hid hN
        clear hN
        go_wp2
        obtain ⟨W2, hW2, hb2⟩ := HN5.out.fin (a : Int)
        rw [← hW2]
        obtain ⟨hb6, e0, e1, e2⟩ := hb2
        refine bodyPost_ret (v := .tuple #[.agg #[.slice A rl.length c, .bool up, .int .i64 (a : Int)], .int .i64 0, .int .i64 32]) ?_ rfl ⟨by simp, hb6⟩
        simp [results, Tryz.results87, go_sem, e0, e1, e2]
end Go.Proofs.YtmgbjgjlddifaaaGreat.RefX
