/-
  A law's shell: a colour, a pair of ints, a piece of work among the arguments, opened.
-/
import Derived.Test.YtogmlcgiajigfaaShlA
import Derived.ShutString
set_option linter.unusedVariables false
set_option linter.unusedSimpArgs false
set_option maxRecDepth 100000
namespace Go.Proofs.Ytogmlcgiajigfaa.Shl
open Go.Joins Go.ChangeShapes Go.WideShapes Go.ChangeAt Go.RowKit Go.Deep

section
variable {H : Type} {enc : TypeId × Value → H} {W : World} {base : Nat}
theorem open_color {v : Value} {d : DataW H} {p : List MemPlace} (hv : Value.okWide Try.prog W .any base 55 v) (h : DataW.Trod enc Try.prog W 0 (fun _ => true) true 55 v d p) :
    ∃ r g b a, v = .agg #[.int .u16 r, .int .u16 g, .int .u16 b, .int .u16 a] ∧ (0 ≤ r ∧ r < 65536) ∧ (0 ≤ g ∧ g < 65536) ∧ (0 ≤ b ∧ b < 65536) ∧ (0 ≤ a ∧ a < 65536) := by
  obtain ⟨v0, v1, v2, v3, y0, y1, y2, y3, n, rfl, rfl, rfl, h0, h1, h2, h3⟩ := open_agg4 Try.underlying55 (by kernel_rfl) (by kernel_rfl) hv h
  obtain ⟨a0, e0, -, w0⟩ := DataW.trod_int Try.underlying53 h0
  obtain ⟨a1, e1, -, w1⟩ := DataW.trod_int Try.underlying53 h1
  obtain ⟨a2, e2, -, w2⟩ := DataW.trod_int Try.underlying53 h2
  obtain ⟨a3, e3, -, w3⟩ := DataW.trod_int Try.underlying53 h3
  injection e0 with e0
  injection e1 with e1
  injection e2 with e2
  injection e3 with e3
  subst e0 e1 e2 e3
  exact ⟨a0, a1, a2, a3, rfl, wf_u16 w0, wf_u16 w1, wf_u16 w2, wf_u16 w3⟩
theorem okWide_array {r : Reach} {b0 n : Nat} {t e : TypeId} {v : Value} (ht : Try.prog.underlying t = some (.array n e)) (hv : Value.okWide Try.prog W r b0 t v) : ∃ cs, v = .agg cs ∧ cs.size = Try.prog.cellsOf t := by
  unfold Value.okWide at hv
  rw [ht] at hv
  obtain ⟨cs, h1, h2, -⟩ := hv
  exact ⟨cs, h1, h2⟩
theorem open_pair {v : Value} {d : DataW H} {p : List MemPlace} (hv : Value.okWide Try.prog W .any base 60 v) (h : DataW.Trod enc Try.prog W 0 (fun _ => true) true 60 v d p) :
    ∃ s0 s1, v = .agg #[.int .i64 s0, .int .i64 s1] := by
  obtain ⟨cs, rfl, hsz⟩ := okWide_array Try.underlying60 hv
  obtain ⟨c0, c1, rfl⟩ := array2 (hsz.trans (show Try.prog.cellsOf 60 = 2 by kernel_rfl))
  obtain ⟨fuel, hf⟩ := h
  obtain ⟨xs, m, -, -, -, hlen, hg⟩ := DataW.trod_array Try.underlying60 hf
  have k : Try.prog.cellsOf 3 = 1 := by kernel_rfl
  have h0 := hg 0 (by omega)
  have h1 := hg 1 (by omega)
  rw [k] at h0 h1
  match xs, hlen with
  | [x0, x1], _ =>
    have h0' : DataW.trod enc Try.prog W 0 (fun _ => true) true m 3 [c0] = some x0 := by simpa [Value.cells] using h0
    have h1' : DataW.trod enc Try.prog W 0 (fun _ => true) true m 3 [c1] = some x1 := by simpa [Value.cells] using h1
    obtain ⟨a0, e0, -, -⟩ := DataW.trod_int Try.underlying3 h0'
    obtain ⟨a1, e1, -, -⟩ := DataW.trod_int Try.underlying3 h1'
    injection e0 with e0
    injection e1 with e1
    subst e0 e1
    exact ⟨a0, a1, rfl⟩
theorem open_work {v : Value} {d : DataW H} {p : List MemPlace} (hv : Value.okWide Try.prog W .any base 48 v) (h : DataW.Trod enc Try.prog W 0 (fun _ => true) true 48 v d p) (hs : ∀ n ∈ d.weights Try.prog 48, n ≤ reachBytes) :
    ∃ op A len cap l x y w h, v = .agg #[.string op, .slice A len cap, .int .i64 x, .int .i64 y, .int .i64 w, .int .i64 h] ∧ K.SI W .i64 A len l ∧ (∀ y ∈ l, -9223372036854775808 ≤ y ∧ y ≤ 9223372036854775807) ∧ len ≤ cap ∧ cap ≤ maxLen := by
  obtain ⟨cs, rfl, hsz⟩ := okWide_struct Try.underlying48 hv
  obtain ⟨ls⟩ := cs
  match ls, hsz.trans (show Try.prog.cellsOf 48 = 6 by kernel_rfl) with
  | [c0, c1, c2, c3, c4, c5], _ =>
    obtain ⟨fuel, hf⟩ := h
    obtain ⟨xs, n, _, hx, _, hlen, hg⟩ := DataW.trod_struct Try.underlying48 hf
    have k0 : Try.prog.cellsOf 9 = 1 := by kernel_rfl
    have k1 : Try.prog.cellsOf 22 = 1 := by kernel_rfl
    have k2 : Try.prog.cellsOf 46 = 4 := by kernel_rfl
    match xs, hlen with
    | [y0, y1, y2], _ =>
      have g0 : DataW.trod enc Try.prog W 0 (fun _ => true) true n 9 [c0] = some y0 := by simpa [Value.cells, k0] using hg 0 _ rfl
      have g1 : DataW.trod enc Try.prog W 0 (fun _ => true) true n 22 [c1] = some y1 := by simpa [Value.cells, k1] using hg 1 _ rfl
      have g2 : DataW.trod enc Try.prog W 0 (fun _ => true) true n 46 [c2, c3, c4, c5] = some y2 := by simpa [Value.cells, k2] using hg 2 _ rfl
      obtain ⟨op, e0, -⟩ := DataW.trod_string Try.underlying9 g0
      injection e0 with e0
      subst e0
      simp only [Prod.mk.injEq] at hx
      obtain ⟨A, len, cap, l, rfl, hS, hw, hl, hm⟩ := open_row Try.underlying22 Try.underlying3 (by kernel_rfl) bytesI g1 (fun m hm => hs m (by
        rw [hx.1]
        simp only [DataW.weights, Try.underlying48]
        simp [DataW.weightsEach, hm]))
      obtain ⟨z0, z1, z2, z3, n2, -, -, t0, t1, t2, t3⟩ := trod_struct4 Try.underlying46 g2
      have k3 : Try.prog.cellsOf 3 = 1 := by kernel_rfl
      simp only [k3, List.drop_zero, List.drop_succ_cons, List.take_succ_cons, List.take_zero] at t0 t1 t2 t3
      obtain ⟨a0, e0, -, -⟩ := DataW.trod_int Try.underlying3 t0
      obtain ⟨a1, e1, -, -⟩ := DataW.trod_int Try.underlying3 t1
      obtain ⟨a2, e2, -, -⟩ := DataW.trod_int Try.underlying3 t2
      obtain ⟨a3, e3, -, -⟩ := DataW.trod_int Try.underlying3 t3
      injection e0 with e0
      injection e1 with e1
      injection e2 with e2
      injection e3 with e3
      subst e0 e1 e2 e3
      exact ⟨op, A, len, cap, l, a0, a1, a2, a3, rfl, hS, fun y hy => wf_i64 (hw y hy), hl, hm⟩
end
end Go.Proofs.Ytogmlcgiajigfaa.Shl
