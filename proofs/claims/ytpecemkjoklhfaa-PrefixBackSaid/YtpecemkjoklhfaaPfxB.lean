/-
  Walks: prefix.Codes.
-/
import Derived.Test.YtpecemkjoklhfaaPfxA
set_option linter.unusedVariables false
set_option linter.unusedSimpArgs false
namespace Go.Proofs.Ytpecemkjoklhfaa.Pfx
open Go.RowKit K

theorem infoU32 : (Try.prog.info? 35).map (fun i => (i.zero, i.size, i.bytes)) = some (some (.int .u32 0), 1, 4) := by kernel_rfl

/-- after k lengths: the counts -/
structure C1 (w wr : World) (l : List Int) (k : Nat) : Prop where
  bel : Below w.heap.size w wr
  sz : wr.heap.size = w.heap.size + 1
  row : wr.rowIs w.heap.size 67 18 (fun j => .int .u32 (if j = 0 then 0 else (cnt l j k : Int)))
/-- before length m: the first codes up to m -/
structure C2 (w wr : World) (l : List Int) (m : Nat) : Prop where
  bel : Below w.heap.size w wr
  sz : wr.heap.size = w.heap.size + 2
  row : wr.rowIs w.heap.size 67 18 (fun j => .int .u32 (if j = 0 then 0 else (cnt l j l.length : Int)))
  nxt : wr.rowIs (w.heap.size + 1) 67 18 (fun j => .int .u32 (if j ≤ m then ((first l j : Nat) : Int) % 4294967296 else 0))
/-- after k symbols: the next codes, and the codes given -/
structure C3 (w wr : World) (l : List Int) (k : Nat) : Prop where
  bel : Below w.heap.size w wr
  sz : wr.heap.size = w.heap.size + 3
  nxt : wr.rowIs (w.heap.size + 1) 67 18 (fun j => .int .u32 (if j = 0 then 0 else ((first l j + cnt l j k : Nat) : Int) % 4294967296))
  out : wr.rowIs (w.heap.size + 2) 35 l.length (fun i => .int .u32 (if i < k then codeAt l i else 0))

theorem C1.start (w : World) (l : List Int) : C1 w (w.alloc (.cells (Array.replicate 18 (.int .u32 0)) 67)) l 0 :=
  ⟨(Below.refl _ _).alloc (Nat.le_refl _) _, by simp, World.rowIs_alloc w _ _ _ (fun i hi => by
    simp only [Array.size_replicate] at hi
    rw [Array.getElem?_replicate, if_pos hi, cnt_zero]; simp)⟩
theorem C1.step {w wr : World} {l : List Int} {k : Nat} {x : Int} (h : C1 w wr l k) (hx : l[k]? = some x) (h0 : 0 < x) (h1 : x ≤ 16) :
    C1 w (wr.setCell ⟨w.heap.size, x.toNat, none⟩ (.int .u32 ((cnt l x.toNat k : Int) + 1))) l (k + 1) :=
  ⟨h.bel.setCell (by simp) _, by simp [h.sz], (h.row.set x.toNat _).congr (fun j hj => by
    by_cases e : j = x.toNat
    · subst e; rw [if_pos rfl, if_neg (by omega), cnt_succ _ hx, if_pos (by omega)]; simp
    · rw [if_neg e]
      by_cases e0 : j = 0
      · rw [if_pos e0, if_pos e0]
      · rw [if_neg e0, if_neg e0, cnt_succ _ hx, if_neg (by omega)]; simp)⟩
theorem C1.skip {w wr : World} {l : List Int} {k : Nat} {x : Int} (h : C1 w wr l k) (hx : l[k]? = some x) (h0 : ¬ 0 < x) : C1 w wr l (k + 1) :=
  ⟨h.bel, h.sz, h.row.congr (fun j hj => by
    by_cases e : j = 0
    · rw [if_pos e, if_pos e]
    · rw [if_neg e, if_neg e, cnt_succ _ hx, if_neg (by omega)]; simp)⟩
theorem C2.start {w wr : World} {l : List Int} (h : C1 w wr l l.length) : C2 w (wr.alloc (.cells (Array.replicate 18 (.int .u32 0)) 67)) l 1 :=
  ⟨h.bel.alloc (by rw [h.sz]; omega) _, by simp [h.sz], h.row.alloc _, by
    have := World.rowIs_alloc wr (Array.replicate 18 (.int .u32 0)) 67 (fun j => .int .u32 (if j ≤ 1 then ((first l j : Nat) : Int) % 4294967296 else 0)) (fun i hi => by
      simp only [Array.size_replicate] at hi
      rw [Array.getElem?_replicate, if_pos hi]
      split
      · rename_i h; rcases Nat.le_one_iff_eq_zero_or_eq_one.1 h with rfl | rfl <;> rfl
      · rfl)
    rw [h.sz] at this
    simpa using this⟩
theorem C2.step {w wr : World} {l : List Int} {m : Nat} {v : Int} (h : C2 w wr l m) (h1 : 1 ≤ m) (hv : v = ((first l (m+1) : Nat) : Int) % 4294967296) :
    C2 w ((wr.setCell ⟨w.heap.size + 1, m + 1, none⟩ (.int .u32 v)).drew) l (m + 1) :=
  ⟨(h.bel.setCell (by simp) _).drew, by simp [h.sz], (h.row.setOther (by simp) _).drew, ((h.nxt.set (m+1) _).drew).congr (fun j hj => by
    by_cases e : j = m + 1
    · subst e; rw [if_pos rfl, if_pos (by omega), hv]
    · rw [if_neg e]; by_cases e2 : j ≤ m
      · rw [if_pos e2, if_pos (by omega)]
      · rw [if_neg e2, if_neg (by omega)])⟩
theorem C3.start {w wr : World} {l : List Int} (h : C2 w wr l 17) : C3 w (wr.alloc (.cells (madeCells #[.int .u32 0] l.length) 35)) l 0 :=
  ⟨h.bel.alloc (by rw [h.sz]; omega) _, by simp [h.sz], (h.nxt.alloc _).congr (fun j hj => by
      rw [if_pos (by omega), cnt_zero]
      by_cases e : j = 0
      · subst e; rfl
      · rw [if_neg e]; rfl), by
    have := World.rowIs_made wr (.int .u32 0) l.length 35
    rw [h.sz] at this
    exact this.congr (fun i hi => by rw [if_neg (by omega)])⟩
theorem C3.step {w wr : World} {l : List Int} {k : Nat} {x : Int} {u : Int} (h : C3 w wr l k) (hx : l[k]? = some x) (h0 : 0 < x) (h1 : x ≤ 16)
    (hu : u = ((first l x.toNat + cnt l x.toNat (k+1) : Nat) : Int) % 4294967296) :
    C3 w ((wr.setCell ⟨w.heap.size + 2, k, none⟩ (.int .u32 (((first l x.toNat + cnt l x.toNat k : Nat) : Int) % 4294967296))).setCell ⟨w.heap.size + 1, x.toNat, none⟩ (.int .u32 u)) l (k + 1) :=
  ⟨(h.bel.setCell (by simp) _).setCell (by simp) _, by simp [h.sz],
   ((h.nxt.setOther (by simp) _).set x.toNat _).congr (fun j hj => by
    by_cases e : j = x.toNat
    · subst e; rw [if_pos rfl, if_neg (by omega), hu]
    · rw [if_neg e]
      by_cases e0 : j = 0
      · rw [if_pos e0, if_pos e0]
      · rw [if_neg e0, if_neg e0, cnt_succ _ hx, if_neg (by omega)]; simp),
   ((h.out.set k _).setOther (by simp) _).congr (fun i hi => by
    by_cases e : i = k
    · subst e; rw [if_pos rfl, if_pos (by omega)]
      unfold codeAt; simp only [getD_of hx]; rw [if_pos h0]
    · rw [if_neg e]; by_cases e2 : i < k
      · rw [if_pos e2, if_pos (by omega)]
      · rw [if_neg e2, if_neg (by omega)])⟩
theorem C3.skip {w wr : World} {l : List Int} {k : Nat} {x : Int} (h : C3 w wr l k) (hx : l[k]? = some x) (h0 : ¬ 0 < x) : C3 w wr l (k + 1) :=
  ⟨h.bel, h.sz, h.nxt.congr (fun j hj => by
    by_cases e : j = 0
    · rw [if_pos e, if_pos e]
    · rw [if_neg e, if_neg e, cnt_succ _ hx, if_neg (by omega)]; simp),
   h.out.congr (fun i hi => by
    by_cases e : i = k
    · subst e; rw [if_neg (by omega), if_pos (by omega)]
      unfold codeAt; simp only [getD_of hx]; rw [if_neg h0]
    · by_cases e2 : i < k
      · rw [if_pos e2, if_pos (by omega)]
      · rw [if_neg e2, if_neg (by omega)])⟩

theorem checked_zero {l : List Int} (h : checkedOf l = 0) : l.length ≤ 4096 ∧ l.any badLen = false ∧ 0 ≤ roomAt l l.length := by
  have h2 : (roomRes l).2 = 0 := by
    unfold checkedOf at h; split at h
    · omega
    · exact h
  have hl : l.length ≤ 4096 := by
    rcases Nat.lt_or_ge 4096 l.length with h3 | h3
    · rw [res_long h3] at h2; simp at h2
    · exact h3
  have hb : l.any badLen = false := by
    cases hb : l.any badLen with
    | false => rfl
    | true => rw [res_bad hl hb] at h2; simp at h2
  refine ⟨hl, hb, ?_⟩
  rw [checkedOf, res_ok hl hb] at h
  simp at h
  omega
theorem len_of {l : List Int} {k : Nat} {x : Int} (hb : l.any badLen = false) (hx : l[k]? = some x) : 0 ≤ x ∧ x ≤ 16 :=
  bad_of (by rw [List.any_eq_false] at hb; simpa using hb x (List.mem_of_getElem? hx))

set_option maxHeartbeats 1000000 in
theorem codes_err {A : Option Addr} {n c : Nat} {l : List Int} (w : World) (HA : SI w .i64 A n l) (h : checkedOf l ≠ 0) :
    Calls Try.prog 14 #[.slice A n c] w fun e w' => e = .returned (.tuple #[.slice none 0 0, .int .i64 (checkedOf l)]) ∧ w = w' := by
  have hb : (checkedOf l != 0) = true := by simp [h]
  go_enter Try.func14, Try.ntmps14
  go_wp2_with (go_at_call 30; refine (checked_any _ HA).mono ?_; rintro e w' ⟨rfl, rfl⟩)
  go_ret2
  exact ⟨rfl, rfl⟩

set_option maxHeartbeats 2000000 in
theorem codes_ok {A : Option Addr} {n c : Nat} {l : List Int} (w : World) (HA : SI w .i64 A n l) (h : checkedOf l = 0) :
    Calls Try.prog 14 #[.slice A n c] w fun e w' => e = .returned (.tuple #[.slice (some ⟨w.heap.size + 2, 0, none⟩) n n, .int .i64 0]) ∧ C3 w w' l n := by
  have hlen := Lib.hid HA.len
  have hn : n ≤ 4096 := by have := (checked_zero h).1; rw [hlen.out] at this; exact this
  have Hgood := Lib.hid (checked_zero h).2.1
  have H := Lib.hid h
  clear h
  have hmk := fun w => run_make_row' (P := Try.prog) 30 35 (.int .u32 0) 4 Try.underlying30 infoU32 rfl .i64 .i64 n (by omega) (by omega) w
  go_enter Try.func14, Try.ntmps14
  go_wp2_with (go_at_call 30; refine (checked_any _ HA).mono ?_; rintro e w' ⟨rfl, rfl⟩; rw [H.out])
  go_loopw [7, 20] (fun _ i wr => ∃ k : Nat, k ≤ n ∧ i = .int .i64 k ∧ C1 w wr l k) (fun _ i _ => n - (intOf i).toNat)
  case atStart => exact ⟨0, Nat.zero_le _, rfl, C1.start w l⟩
  case round =>
    obtain ⟨k, hk, rfl, h1⟩ := hrel
    by_cases hlt : k < n
    · obtain ⟨b, off, x, rfl, hc0, hx, hbl⟩ := HA.cells hlt
      have hc : wr.cell? ⟨b, off + k, none⟩ = some (.int .i64 x) := (h1.bel.cell (p := ⟨b, off+k, none⟩) hbl).trans hc0
      have hx0 := len_of Hgood.out hx.out
      have hlt' : (k : Int) < n := by omega
      by_cases hp : 0 < x
      · have hcl := cnt_le l x.toNat k
        have hr1 := h1.row.cell (i := x.toNat) (by omega)
        have hr2 := h1.row.frozen x.toNat
        rw [if_neg (by omega)] at hr1
        go_wp2
        go_roundw
        case rel => exact ⟨k + 1, by omega, by go_num, h1.step hx.out hp hx0.2⟩
        case measure => simp [intOf]; omega
      · go_wp2
        go_roundw
        case rel => exact ⟨k + 1, by omega, by go_num, h1.skip hx.out hp⟩
        case measure => simp [intOf]; omega
    · obtain rfl : k = n := by omega
      have h2 : C2 w (wr.alloc (.cells (Array.replicate 18 (.int .u32 0)) 67)) l 1 := C2.start (by rw [hlen.out]; exact h1)
      have hs := h1.sz
      go_wp2
      go_loopw [9] (fun i wr => ∃ m : Nat, 1 ≤ m ∧ m ≤ 17 ∧ i = .int .i64 m ∧ C2 w wr l m) (fun i _ => 17 - (intOf i).toNat)
      case atStart => exact ⟨1, by omega, by omega, rfl, h2⟩
      case round =>
        clear h2 h1 hs
        obtain ⟨m, hm1, hm2, rfl, h2⟩ := hrel
        by_cases hlt2 : m ≤ 16
        · have a1 := h2.row.cell (i := m) (by omega)
          have a2 := h2.nxt.cell (i := m) (by omega)
          have a3 := h2.nxt.cell (i := m + 1) (by omega)
          have a4 := h2.nxt.frozen (m + 1)
          rw [if_neg (by omega)] at a1
          rw [if_pos (by omega)] at a2
          rw [if_neg (by omega)] at a3
          have hf := Lib.hid (first_succ l m hm1)
          go_wp2
          go_region
          go_wp2
          go_roundw
          case rel => exact ⟨m + 1, by omega, by omega, by go_num, h2.step hm1 (by rw [hf.out]; omega)⟩
          case measure => simp [intOf]; omega
        · obtain rfl : m = 17 := by omega
          have hs := h2.sz
          have h3 : C3 w (wr.alloc (.cells (madeCells #[.int .u32 0] k) 35)) l 0 := by have := C3.start h2; rwa [hlen.out] at this
          clear h2
          go_wp2
          go_loopw [11, 12, 52] (fun _ _ i wr => ∃ m : Nat, m ≤ k ∧ i = .int .i64 m ∧ C3 w wr l m) (fun _ _ i _ => k - (intOf i).toNat)
          case atStart => exact ⟨0, by omega, rfl, h3⟩
          case round =>
            clear h3 hs
            obtain ⟨m, hm, rfl, h3⟩ := hrel
            by_cases hlt3 : m < k
            · obtain ⟨b, off, x, rfl, hc0, hx, hbl⟩ := HA.cells hlt3
              have hc : wr.cell? ⟨b, off + m, none⟩ = some (.int .i64 x) := (h3.bel.cell (p := ⟨b, off+m, none⟩) hbl).trans hc0
              have hx0 := len_of Hgood.out hx.out
              have hlt' : (m : Int) < k := by omega
              by_cases hp : 0 < x
              · have hcs := Lib.hid (cnt_succ x.toNat hx.out)
                have a1 := h3.nxt.cell (i := x.toNat) (by omega)
                have a2 := h3.nxt.frozen x.toNat
                have a3 := h3.out.cell (i := m) (by rw [hlen.out]; omega)
                have a4 := h3.out.frozen m
                rw [if_neg (by omega)] at a1
                rw [if_neg (by omega)] at a3
                go_wp2
                go_roundw
                case rel => exact ⟨m + 1, by omega, by go_num, h3.step hx.out hp hx0.2 (by rw [hcs.out, if_pos (by omega)]; omega)⟩
                case measure => simp [intOf]; omega
              · go_wp2
                go_roundw
                case rel => exact ⟨m + 1, by omega, by go_num, h3.skip hx.out hp⟩
                case measure => simp [intOf]; omega
            · obtain rfl : m = k := by omega
              go_wp2
              go_ret2
              exact ⟨rfl, h3⟩
end Go.Proofs.Ytpecemkjoklhfaa.Pfx
