/-
  Texts of this claim, joined by program (Bulk, Kit, PfxM, PfxA, PfxB). FOR A PROOF OF AN '..UptoSaid': WHAT THE BOUND GIVES. Copy it as <Name>Bulk.lean (put your seat's Name for YtmgbjgjlddifaaaGreat, the bound of 'uptoSmall' for 1048576), name it in GOCLAIM.json's 'order' behind <Name>Rows. By an AI agent, Sun Nov 15 2026. No person has read it. No macro, syntax, notation, axiom, sorry.
-/
import Derived.Test.YtmgbjgjlddifaaaGreatRows
import Derived.WalkKit
import Derived.WalkSpells
import Derived.WalkLawsBesides
import Derived.Deep.OwnRows
import Derived.Maps.AppendAt
import Derived.Lib.Hide
import Derived.Deep.QuietTactic
import Derived.BigQuiet
import Derived.BigRegion
import Derived.IntWalk
import Derived.Laws.BitsAllLaws
import Derived.Test.YtmgbjgjlddifaaaGreatChecked
namespace Go.Proofs.YtmgbjgjlddifaaaGreat.bulks

theorem one_le {H : Type} (d : DataW H) : 1 ≤ Rows.uptoBulk d := by
  cases d with
  | lit l => cases l <;> simp [Rows.uptoBulk]
  | nil => simp [Rows.uptoBulk]
  | ptr d => simp [Rows.uptoBulk]
  | slice elems spare => simp [Rows.uptoBulk]
  | agg parts => simp [Rows.uptoBulk]
  | iface t d => simp [Rows.uptoBulk]
  | map entries => simp [Rows.uptoBulk]
  | held h => simp [Rows.uptoBulk]

/-- a part's bulk is at most the whole's -/
theorem part_le {H : Type} {d : DataW H} {l : List (DataW H)} (h : d ∈ l) : Rows.uptoBulk d ≤ Rows.uptoBulkAll l := by
  induction l with
  | nil => cases h
  | cons x r ih =>
    simp only [Rows.uptoBulkAll]
    cases List.mem_cons.1 h with
    | inl e => subst e; omega
    | inr e => have := ih e; omega

theorem append {H : Type} (l r : List (DataW H)) : Rows.uptoBulkAll (l ++ r) = Rows.uptoBulkAll l + Rows.uptoBulkAll r := by
  induction l with
  | nil => simp [Rows.uptoBulkAll]
  | cons x l ih => simp only [List.cons_append, Rows.uptoBulkAll, ih]; omega

/-- so many values at the most -/
theorem length_le {H : Type} (l : List (DataW H)) : l.length ≤ Rows.uptoBulkAll l := by
  induction l with
  | nil => simp [Rows.uptoBulkAll]
  | cons x r ih => have := one_le x; simp only [Rows.uptoBulkAll, List.length_cons]; omega

/-- a slice's places, and what they hold -/
theorem slice_le {H : Type} (elems spare : List (DataW H)) : elems.length + spare.length + 1 ≤ Rows.uptoBulk (.slice elems spare) := by
  have h1 := length_le elems
  have h2 := length_le spare
  simp only [Rows.uptoBulk]
  omega
theorem slice_elems {H : Type} (elems spare : List (DataW H)) : Rows.uptoBulkAll elems + 1 ≤ Rows.uptoBulk (.slice elems spare) := by
  simp only [Rows.uptoBulk]
  omega

/-- a string's letters -/
theorem string_eq {H : Type} (bytes : List UInt8) : Rows.uptoBulk (DataW.lit (H := H) (.string bytes)) = bytes.length + 1 := by
  simp [Rows.uptoBulk]

/-- THE BOUND, as the builder hands it over ('hk') -/
theorem bound {H : Type} {l : List (DataW H)} (hk : Rows.uptoSmall H l = true) : Rows.uptoBulkAll l ≤ 1048576 := by
  simpa [Rows.uptoSmall] using hk

/-- ROOM: a slice of n elements of b bytes, grown by append: below the 2^48 bytes that append, make and a Builder bear. Here n up to 2^21, b up to 4,096: put your own numbers. -/
theorem room {n b : Nat} (hn : n ≤ 2097152) (hb : b ≤ 4096) : (n + n / 4 + 192) * b ≤ 281474976710656 := by
  have h : (n + n / 4 + 192) * b ≤ 2621632 * 4096 := Nat.mul_le_mul (by omega) hb
  omega

end Go.Proofs.YtmgbjgjlddifaaaGreat.bulks
set_option linter.unusedVariables false
set_option linter.unusedSimpArgs false
namespace Go.Proofs.YtmgbjgjlddifaaaGreat.K
open Go.RowKit

theorem ret2 {a b c d : Value} (h : a = c) (h2 : b = d) : Ending.returned (.tuple #[a, b]) = .returned (.tuple #[c, d]) := by rw [h, h2]
theorem ret1 {a b : Value} (h : a = b) : Ending.returned a = .returned b := by rw [h]
theorem eint {k : IntKind} {a b : Int} (h : a = b) : Value.int k a = .int k b := by rw [h]
theorem ebool {a b : Bool} (h : a = b) : Value.bool a = .bool b := by rw [h]

/-- what a slice that is read holds, cell by cell -/
def Sl (w : World) (A : Option Addr) (xs : List Value) : Prop :=
  ∀ (j : Nat) (u : Value), xs[j]? = some u → ∃ b off, A = some ⟨b, off, none⟩ ∧ w.cell? ⟨b, off + j, none⟩ = some u
/-- a kind's bytes -/
def kb : IntKind → Nat
  | .u8 => 1
  | .i8 => 1
  | .u16 => 2
  | .i16 => 2
  | .u32 => 4
  | .i32 => 4
  | _ => 8
/-- .. of numbers -/
structure SI (w : World) (k : IntKind) (A : Option Addr) (n : Nat) (l : List Int) : Prop where
  len : l.length = n
  sz : n * kb k ≤ 140737488351232
  sl : Sl w A (l.map (.int k))

section
variable {w w' : World} {k : IntKind} {A : Option Addr} {n : Nat} {l : List Int} {xs : List Value} {B : Nat}
theorem Sl.below (h : Sl w A xs) (hb : Below B w w') (hB : w.heap.size ≤ B) : Sl w' A xs := fun j u hu => by
  obtain ⟨b, off, rfl, hc⟩ := h j u hu
  exact ⟨b, off, rfl, (hb.cell (p := ⟨b, off + j, none⟩) (Nat.lt_of_lt_of_le (World.block_lt_of_cell? w _ hc) hB)).trans hc⟩
theorem SI.below (h : SI w k A n l) (hb : Below B w w') (hB : w.heap.size ≤ B) : SI w' k A n l := ⟨h.len, h.sz, h.sl.below hb hB⟩
theorem Sl.alloc (h : Sl w A xs) (o : Obj) : Sl (w.alloc o) A xs := h.below ((Below.refl _ _).alloc (Nat.le_refl _) o) (Nat.le_refl _)
theorem SI.alloc (h : SI w k A n l) (o : Obj) : SI (w.alloc o) k A n l := ⟨h.len, h.sz, h.sl.alloc o⟩
theorem SI.cells (h : SI w k A n l) {i : Nat} (hi : i < n) :
    ∃ b off x, A = some ⟨b, off, none⟩ ∧ w.cell? ⟨b, off + i, none⟩ = some (.int k x) ∧ Hid (l[i]? = some x) ∧ b < w.heap.size := by
  have hi' : i < l.length := by rw [h.len]; exact hi
  have hx : l[i]? = some l[i] := List.getElem?_eq_getElem hi'
  obtain ⟨b, off, rfl, hc⟩ := h.sl i (.int k l[i]) (by simp [hx])
  exact ⟨b, off, _, rfl, hc, hx, World.block_lt_of_cell? w _ hc⟩
theorem SI.big (h : SI w .i64 A n l) : n * 8 ≤ 140737488351232 := h.sz
theorem SI.bigb (h : SI w .u8 A n l) : n ≤ 140737488351232 := by have : n * 1 ≤ 140737488351232 := h.sz; omega
theorem SI.nil (w : World) (k : IntKind) (A : Option Addr) : SI w k A 0 [] := ⟨rfl, by rw [Nat.zero_mul]; omega, fun j u h => by simp at h⟩
theorem Sl.of_own {base e sz c : Nat} (h : w.ownsRow base e sz (.slice A n c) n xs) : Sl w A xs := fun j u hu => by
  rcases h.2 with ⟨hv, rfl⟩ | ⟨g, cap, cur, hv, hb, hg, _⟩
  · have := h.1; simp at this; subst this; simp at hu
  · have e : A = some ⟨g, 0, none⟩ := by injection hv
    subst e
    refine ⟨g, 0, rfl, ?_⟩
    have := h.cells (g := g) rfl j u hu
    rw [Addr.add_lit] at this
    exact this
theorem own_form {base e sz : Nat} {v : Value} (h : w.ownsRow base e sz v n xs) : ∃ A c, v = .slice A n c := by
  rcases h.2 with ⟨rfl, rfl⟩ | ⟨g, cap, cur, hv, _⟩
  · exact ⟨_, _, rfl⟩
  · exact ⟨_, _, hv⟩
theorem SI.of_own {base e c : Nat} (h : w.ownsRow base e 1 (.slice A n c) n (l.map (.int k))) (hbig : n * kb k ≤ 140737488351232) : SI w k A n l :=
  ⟨by have := h.1; simpa using this, hbig, Sl.of_own h⟩
theorem own_of_row {base T m : Nat} {f : Nat → Value} {b : Nat} (h : w.rowIs b T m f) (hb : base ≤ b) (hm : m ≤ maxLen) :
    w.ownsRow base T 1 (.slice (some ⟨b, 0, none⟩) m m) m ((List.range m).map f) := by
  obtain ⟨c, hc, hn, hf⟩ := h
  refine ⟨by simp, .inr ⟨b, m, c, rfl, hb, hc, Nat.le_refl _, hm, by simp [hn], ?_⟩⟩
  apply List.ext_getElem?
  intro i
  by_cases hi : i < m
  · have := hf i hi
    rw [List.getElem?_take, if_pos (by omega)]
    simp [hi, this]
  · rw [List.getElem?_take, if_neg (by omega)]
    simp [hi]
theorem SI.of_row {T m : Nat} {f : Nat → Int} {b : Nat} (h : w.rowIs b T m (fun i => .int k (f i))) (hm : m * kb k ≤ 140737488351232) :
    SI w k (some ⟨b, 0, none⟩) m ((List.range m).map f) :=
  ⟨by simp, hm, fun j u hu => by
    simp only [List.map_map, List.getElem?_map, Option.map_eq_some_iff, List.getElem?_range] at hu
    obtain ⟨i, hi, rfl⟩ := hu
    have hj : j < m := by
      rcases Nat.lt_or_ge j m with h1 | h1
      · exact h1
      · simp [h1] at hi
    simp [hj] at hi
    subst hi
    exact ⟨b, 0, rfl, by simpa using h.cell hj⟩⟩
end

theorem SI.lit0 (w : World) (k : IntKind) (l : List Int) (T : TypeId) (h : l.length * kb k ≤ 140737488351232) : SI (w.alloc (.cells (l.map (.int k)).toArray T)) k (some ⟨w.heap.size, 0, none⟩) l.length l :=
  ⟨rfl, h, fun j u hu => ⟨w.heap.size, 0, rfl, by rw [World.cell?_alloc_new]; simpa using hu⟩⟩
/-- 'append(own, xs...)': xs whatever slice that is read -/
theorem wpList_append_sl {P : Program} (w : World) {ops : Array Oper} {rest : List Oper} {o : Oper} {a : Act} {Q : Exit → Act → World → Prop} (hgd : o.guard = none) (s x : Operand) (t : TypeId)
    (ho : o.op = .call { callee := .builtin .append, args := #[s, x], argTypes := #[t, t] })
    (base e size bytes : Nat) (z : Value) (ht : P.underlying t = some (.slice e)) (hinfo : (P.info? e).map (fun i => (i.zero, i.size, i.bytes)) = some (some z, size, bytes)) (hzs : z.cells.size = size) (hsz : 0 < size)
    (v : Value) (n : Nat) (xs : List Value) (hs : a.eval s = v) (hown : w.ownsRow base e size v n xs)
    (A : Option Addr) (m c : Nat) (news : List Value) (hx : a.eval x = .slice A m c) (hl : news.length = m * size) (hr : Sl w A news) (h1 : ∀ u ∈ news, u.oneCell' = true)
    (h63 : n + m ≤ maxLen) (hbytes : (n + m) * bytes ≤ 140737488355328) (hbase : base ≤ w.heap.size)
    (h : ∀ v' w', w'.ownsRow base e size v' (n + m) (xs ++ news) → w.grownBy w' v.ownBlock → (v'.ownBlock = v.ownBlock ∨ v'.ownBlock = some w.heap.size) → wpList P ops Q rest (a.put o.dst v') w') : wpList P ops Q (o :: rest) a w := by
  obtain ⟨i, hi, hz, hz1, hz2⟩ := info_parts hinfo
  rcases Nat.eq_zero_or_pos m with hm | hm
  · subst hm
    have hn0 : news = [] := List.eq_nil_of_length_eq_zero (by simpa using hl)
    subst hn0
    have hrun : (Builtin.append_ #[t, t] o.type #[v, .slice A 0 c]).run P w = .ok v w := by
      rcases hown.2 with ⟨rfl, rfl⟩ | ⟨g, cap, cur, rfl, _, _, hnc, _⟩
      · cases A <;> simp [Builtin.append_, run_underlying ht, sizeOf, typeInfo, hi, Builtin.lenOf, Builtin.firstCells, loadCells, loadCellsFrom]
      · cases A <;> simp [Builtin.append_, run_underlying ht, sizeOf, typeInfo, hi, Builtin.lenOf, Builtin.firstCells, hnc, storeCells, loadCells, loadCellsFrom]
    refine wpList_plain hgd fun K hK => ?_
    unfold Oper.wp execOp
    simp only [ho, resolve, invoke, builtin, Sem.run_bind, Sem.run_pure, Result.andThen_ok, List.map_toArray, List.map_cons, List.map_nil, hs, hx, hrun]
    exact hK _ _ (h v w (by simpa using hown) (World.grownBy.refl w _) (.inl rfl))
  · have h0 : 0 < news.length := by rw [hl]; exact Nat.mul_pos hm hsz
    obtain ⟨b, off, rfl, _⟩ := hr 0 news[0] (List.getElem?_eq_getElem h0)
    refine wpList_append_own_at w hgd s x t ho base e i z size bytes ht hi hz hz1 hz2 hzs hsz v n xs hs hown ⟨b, off, none⟩ m c news hx hl ?_ h1 h63 hbytes hbase (fun v' w' a1 a2 _ a4 => h v' w' a1 a2 a4)
    intro j u hu
    obtain ⟨b', off', e', hc⟩ := hr j u hu
    injection e' with e'
    injection e' with e1 e2
    subst e1 e2
    rw [Addr.add_lit]
    exact hc
theorem ones (k : IntKind) (l : List Int) : ∀ u ∈ l.map (Value.int k), u.oneCell' = true := ints_oneCell k l

section
variable {w wr : World} {row : Option Nat} {p : Nat}
theorem grown_set (h : w.grownBy wr (some p)) (i : Nat) (v : Value) : w.grownBy (wr.setCell ⟨p, i, none⟩ v) (some p) :=
  ⟨h.os, h.tape, h.output, by simp [World.setCell]; exact h.size, fun k hi hne => (Below.heap_setCell wr ⟨p, i, none⟩ v k (fun e => hne (by rw [e]))).trans (h.block k hi hne)⟩
theorem grown_drew (h : w.grownBy wr row) : w.grownBy wr.drew row := ⟨h.os, h.tape, h.output, h.size, h.block⟩
theorem grown_drewN (h : w.grownBy wr row) (n : Nat) : w.grownBy (wr.drewN n) row := ⟨h.os, h.tape, h.output, h.size, h.block⟩
theorem grown_alloc (h : w.grownBy wr row) (o : Obj) : w.grownBy (wr.alloc o) row :=
  ⟨h.os, h.tape, h.output, Nat.le_trans h.size (by simp), fun i hi hne => (Below.heap_alloc wr o i (Nat.lt_of_lt_of_le hi h.size)).trans (h.block i hi hne)⟩
theorem grown_trans {w2 : World} (h : w.grownBy wr row) (k : wr.grownBy w2 row) : w.grownBy w2 row :=
  ⟨k.os.trans h.os, k.tape.trans h.tape, k.output.trans h.output, Nat.le_trans h.size k.size, fun i hi hne => (k.block i (Nat.lt_of_lt_of_le hi h.size) hne).trans (h.block i hi hne)⟩
theorem grown_below (h : Below w.heap.size w wr) (row : Option Nat) : w.grownBy wr row := ⟨h.os, h.tape, h.output, h.size, fun i hi _ => h.block i hi⟩
theorem below_grown {B : Nat} (h : w.grownBy wr (some p)) (hB : B ≤ p) (hs : B ≤ w.heap.size) : Below B w wr := (Below.refl B w).grown h hs (fun k hk => by injection hk with hk; omega)
theorem below_drewN {B : Nat} {a : World} (h : Below B a wr) (n : Nat) : Below B a (wr.drewN n) := ⟨h.os, h.tape, h.output, h.size, h.block⟩
theorem Sl.one (w : World) (u : Value) (T : TypeId) : Sl (w.alloc (.cells #[u] T)) (some ⟨w.heap.size, 0, none⟩) [u] := fun j v hv => by
  have hj : j = 0 := by
    rcases Nat.eq_zero_or_pos j with h | h
    · exact h
    · rw [List.getElem?_eq_none (by simp; omega)] at hv; cases hv
  subst hj
  refine ⟨w.heap.size, 0, rfl, ?_⟩
  simp at hv; subst hv
  simp
end
theorem u32_and1 (y : Int) (h : 0 ≤ y) : bits .and .u32 (y % 4294967296) 1 = y % 2 := by
  rw [u32_and _ _ (by omega) (by omega) (by omega) (by omega), show (1 : Int).toNat = 1 from rfl, nat_mask1]; omega
theorem u32_or_hi (i : Nat) (a b : Int) (h0 : 0 ≤ a) (h1 : a < 4294967296) (ha : a % 2 ^ i = 0) (hb0 : 0 ≤ b) (hb1 : b < 2 ^ i) (hb2 : b < 4294967296) : bits .or .u32 a b = a + b := by
  rw [u32_or a b h0 h1 hb0 hb2]
  obtain ⟨x, rfl⟩ := Int.eq_ofNat_of_zero_le h0
  obtain ⟨y, rfl⟩ := Int.eq_ofNat_of_zero_le hb0
  simp only [Int.toNat_natCast]
  have e1 : x % 2 ^ i = 0 := by have := ha; exact_mod_cast this
  have e2 : y < 2 ^ i := by have := hb1; exact_mod_cast this
  rw [nat_join i x y e1 e2]; rfl
theorem u32_or_lo (i : Nat) (a b : Int) (h0 : 0 ≤ b) (h1 : b < 4294967296) (ha : b % 2 ^ i = 0) (hb0 : 0 ≤ a) (hb1 : a < 2 ^ i) (hb2 : a < 4294967296) : bits .or .u32 a b = a + b := by
  have := u32_or_hi i b a h0 h1 ha hb0 hb1 hb2
  rw [u32_or a b hb0 hb2 h0 h1, Nat.or_comm, ← u32_or b a h0 h1 hb0 hb2, this]; omega
theorem pow_le32 {k : Nat} (h : k ≤ 32) : (2 : Int) ^ k ≤ 4294967296 := by
  have := Nat.pow_le_pow_right (n := 2) (by omega) h
  have e : (2 : Int) ^ k = ((2 ^ k : Nat) : Int) := by simp
  rw [e]; have : 2 ^ k ≤ 4294967296 := this
  omega

theorem pow_le16 {k : Nat} (h : k ≤ 16) : (2 : Int) ^ k ≤ 65536 := by
  have := Nat.pow_le_pow_right (n := 2) (by omega) h
  have e : (2 : Int) ^ k = ((2 ^ k : Nat) : Int) := by simp
  rw [e]; have : 2 ^ k ≤ 65536 := this
  omega
theorem ofInt_64 (a : Nat) (ha : a < 9223372036854775808) : (BitVec.ofInt 64 (a : Int)).toNat = a := by
  rw [BitVec.ofInt_natCast, BitVec.toNat_ofNat]; exact Nat.mod_eq_of_lt (by omega)
theorem i64_or_hi (i : Nat) (a b : Int) (h0 : 0 ≤ a) (h1 : a < 9223372036854775808) (ha : a % 2 ^ i = 0) (hb0 : 0 ≤ b) (hb1 : b < 2 ^ i) (hb2 : b < 9223372036854775808) (hs : a + b < 9223372036854775808) : bits .or .i64 a b = a + b := by
  obtain ⟨x, rfl⟩ := Int.eq_ofNat_of_zero_le h0
  obtain ⟨y, rfl⟩ := Int.eq_ofNat_of_zero_le hb0
  have e1 : x % 2 ^ i = 0 := by have := ha; exact_mod_cast this
  have e2 : y < 2 ^ i := by have := hb1; exact_mod_cast this
  show IntKind.i64.wrap ((BitVec.ofInt 64 (x : Int) ||| BitVec.ofInt 64 (y : Int)).toNat : Int) = _
  rw [BitVec.toNat_or, ofInt_64 x (by omega), ofInt_64 y (by omega), nat_join i x y e1 e2, IntKind.wrap_i64]
  omega
theorem div_bd {a M : Int} (k : Nat) (h0 : -1 ≤ a) (h1 : a ≤ M) (hM : 0 ≤ M) : -1 ≤ a / 2 ^ k ∧ a / 2 ^ k ≤ M := by
  have hp : (0 : Int) < 2 ^ k := Int.pow_pos (by omega)
  constructor
  · exact (Int.le_ediv_iff_mul_le hp).2 (by omega)
  · exact Int.ediv_le_of_le_mul hp (Int.le_trans h1 (by have : M * 1 ≤ M * 2 ^ k := Int.mul_le_mul_of_nonneg_left (by omega) hM; omega))

/-- a counted loop -/
def steps {α : Type} (f : Nat → α → α) : Nat → α → α
  | 0, s => s
  | k+1, s => f k (steps f k s)
theorem take_snoc {α : Type} {l : List α} {k : Nat} {x : α} (h : l[k]? = some x) : l.take (k+1) = l.take k ++ [x] := by rw [List.take_add_one, h]; rfl
theorem foldl_snoc {α β : Type} {f : β → α → β} {l : List α} {k : Nat} {x : α} {s : β} (h : l[k]? = some x) : (l.take (k+1)).foldl f s = f ((l.take k).foldl f s) x := by
  rw [take_snoc h, List.foldl_append]; rfl
theorem getD_of {l : List Int} {i : Nat} {x : Int} (h : l[i]? = some x) (d : Int) : l.getD i d = x := by simp [List.getD, h]
end Go.Proofs.YtmgbjgjlddifaaaGreat.K
set_option linter.unusedVariables false
set_option linter.unusedSimpArgs false
namespace Go.Proofs.YtmgbjgjlddifaaaGreat.Pfx
open Go.RowKit K

def cost (x : Int) : Int := if 0 < x then 2 ^ (16 - x).toNat else 0
def roomAt (l : List Int) (k : Nat) : Int := 65536 - ((l.take k).map cost).sum
def badLen (x : Int) : Bool := decide (x < 0) || decide (16 < x)
def roomRes (l : List Int) : Int × Int := if 4096 < l.length then (0, 3) else if l.any badLen then (0, 2) else (roomAt l l.length, 0)
def checkedOf (l : List Int) : Int := if (roomRes l).2 = 0 ∧ (roomRes l).1 < 0 then 30 else (roomRes l).2

theorem pow16 {x : Int} (h0 : 0 ≤ x) (h1 : x ≤ 16) : 1 ≤ (2 : Int) ^ (16 - x).toNat ∧ (2 : Int) ^ (16 - x).toNat ≤ 65536 := by
  have : (16 - x).toNat ≤ 16 := by omega
  generalize (16 - x).toNat = m at *
  have : m = 0 ∨ m = 1 ∨ m = 2 ∨ m = 3 ∨ m = 4 ∨ m = 5 ∨ m = 6 ∨ m = 7 ∨ m = 8 ∨ m = 9 ∨ m = 10 ∨ m = 11 ∨ m = 12 ∨ m = 13 ∨ m = 14 ∨ m = 15 ∨ m = 16 := by omega
  rcases this with rfl | rfl | rfl | rfl | rfl | rfl | rfl | rfl | rfl | rfl | rfl | rfl | rfl | rfl | rfl | rfl | rfl <;> decide
theorem roomAt_succ {l : List Int} {k : Nat} {x : Int} (h : l[k]? = some x) : roomAt l (k+1) = roomAt l k - cost x := by
  unfold roomAt; rw [take_snoc h]; simp only [List.map_append, List.map_cons, List.map_nil, List.sum_append_int, List.sum_cons, List.sum_nil]; omega
theorem any_succ {l : List Int} {k : Nat} {x : Int} (p : Int → Bool) (h : l[k]? = some x) : (l.take (k+1)).any p = ((l.take k).any p || p x) := by
  rw [take_snoc h]; simp
theorem bad_of {x : Int} (h : badLen x = false) : 0 ≤ x ∧ x ≤ 16 := by simp [badLen] at h; omega
theorem bad_not {x : Int} (h0 : 0 ≤ x) (h1 : x ≤ 16) : badLen x = false := by simp [badLen]; omega
theorem cost_bd {x : Int} (h0 : 0 ≤ x) (h1 : x ≤ 16) : 0 ≤ cost x ∧ cost x ≤ 65536 := by
  have := pow16 h0 h1
  unfold cost; split <;> omega
theorem roomAt_bd {l : List Int} (k : Nat) (hk : k ≤ l.length) (h : (l.take k).any badLen = false) : 65536 - 65536 * (k : Int) ≤ roomAt l k ∧ roomAt l k ≤ 65536 := by
  induction k with
  | zero => simp [roomAt]
  | succ k ih =>
    have hx : l[k]? = some l[k] := List.getElem?_eq_getElem (by omega)
    rw [any_succ _ hx, Bool.or_eq_false_iff] at h
    obtain ⟨h0, h1⟩ := bad_of h.2
    have := cost_bd h0 h1
    have := ih (by omega) h.1
    rw [roomAt_succ hx]
    omega
theorem any_true_of {l : List Int} {k : Nat} {x : Int} (p : Int → Bool) (h : l[k]? = some x) (hx : p x = true) : l.any p = true := by
  rw [List.any_eq_true]; exact ⟨x, List.mem_of_getElem? h, hx⟩
theorem any_all {l : List Int} {n : Nat} (hn : l.length = n) {p : Int → Bool} (h : (l.take n).any p = false) : l.any p = false := by
  rwa [List.take_of_length_le (by omega)] at h
theorem res_long {l : List Int} (h : 4096 < l.length) : roomRes l = (0, 3) := by unfold roomRes; rw [if_pos h]
theorem res_bad {l : List Int} (h : l.length ≤ 4096) (hb : l.any badLen = true) : roomRes l = (0, 2) := by unfold roomRes; rw [if_neg (by omega), if_pos hb]
theorem res_ok {l : List Int} (h : l.length ≤ 4096) (hb : l.any badLen = false) : roomRes l = (roomAt l l.length, 0) := by unfold roomRes; rw [if_neg (by omega), if_neg (by simp [hb])]

/-- how many of the first k lengths are j -/
def cnt (l : List Int) (j k : Nat) : Nat := (l.take k).count (j : Int)
theorem cnt_le (l : List Int) (j k : Nat) : cnt l j k ≤ k := Nat.le_trans List.count_le_length (by simp; omega)
theorem cnt_succ {l : List Int} {k : Nat} {x : Int} (j : Nat) (h : l[k]? = some x) : cnt l j (k+1) = cnt l j k + if x = j then 1 else 0 := by
  unfold cnt
  rw [take_snoc h]
  simp [List.count_append, List.count_singleton]
theorem cnt_zero (l : List Int) (j : Nat) : cnt l j 0 = 0 := by simp [cnt]
/-- the first code of each length -/
def first (l : List Int) : Nat → Nat
  | 0 => 0
  | 1 => 0
  | n+2 => 2 * (first l (n+1) + cnt l (n+1) l.length)
theorem first_succ (l : List Int) (m : Nat) (h : 1 ≤ m) : first l (m+1) = 2 * (first l m + cnt l m l.length) := by
  obtain ⟨k, rfl⟩ : ∃ k, m = k + 1 := ⟨m - 1, by omega⟩
  rfl
def codeAt (l : List Int) (i : Nat) : Int :=
  let x := l.getD i 0
  if 0 < x then ((first l x.toNat + cnt l x.toNat i : Nat) : Int) % 4294967296 else 0
def codesOf (l : List Int) : List Int := (List.range l.length).map (codeAt l)
end Go.Proofs.YtmgbjgjlddifaaaGreat.Pfx
set_option linter.unusedVariables false
set_option linter.unusedSimpArgs false
namespace Go.Proofs.YtmgbjgjlddifaaaGreat.Pfx
open Go.RowKit K

theorem infoInt : (Tryz.prog.info? 3).map (fun i => (i.zero, i.size, i.bytes)) = some (some (.int .i64 0), 1, 8) := by kernel_rfl

set_option maxHeartbeats 1000000 in
theorem room_any {A : Option Addr} {n c : Nat} {l : List Int} (w : World) (HA : SI w .i64 A n l) :
    Calls Tryz.prog 92 #[.slice A n c] w fun e w' => e = .returned (.tuple #[.int .i64 (roomRes l).1, .int .i64 (roomRes l).2]) ∧ w = w' := by
  have hbig := HA.big
  have hlen := Lib.hid HA.len
  by_cases hn : 4096 < n
  · have e0 := Lib.hid (res_long (l := l) (by rw [hlen.out]; exact hn))
    go_enter Tryz.func92, Tryz.ntmps92
    go_wp2
    go_ret2
    rw [e0.out]; exact ⟨rfl, rfl⟩
  · go_enter Tryz.func92, Tryz.ntmps92
    go_wp2
    go_loop [2, 3, 4, 6, 12] (fun a b r _ i => ∃ k : Nat, k ≤ n ∧ (l.take k).any badLen = false ∧ i = .int .i64 k ∧ a = .int .i64 0 ∧ b = .int .i64 0 ∧ r = .int .i64 (roomAt l k)) (fun _ _ _ _ i => n - (intOf i).toNat)
    case atStart => exact ⟨0, Nat.zero_le _, rfl, rfl, rfl, rfl, by simp [roomAt]⟩
    case round =>
      obtain ⟨k, hk, hgood, rfl, rfl, rfl, rfl⟩ := hrel
      have Hgood := Lib.hid hgood
      have hr := roomAt_bd k (by rw [hlen.out]; exact hk) hgood
      clear hgood
      by_cases hlt : k < n
      · obtain ⟨b, off, x, rfl, hc, hx, _⟩ := HA.cells hlt
        have hlt' : (k : Int) < n := by omega
        by_cases hx0 : x < 0
        · have e0 := Lib.hid (res_bad (l := l) (by rw [hlen.out]; omega) (any_true_of _ hx.out (by simp [badLen, hx0])))
          go_wp2
          go_ret2
          rw [e0.out]; exact ⟨rfl, rfl⟩
        · by_cases hx1 : 16 < x
          · have e0 := Lib.hid (res_bad (l := l) (by rw [hlen.out]; omega) (any_true_of _ hx.out (by simp [badLen, hx1])))
            go_wp2
            go_ret2
            rw [e0.out]; exact ⟨rfl, rfl⟩
          · have hs := Lib.hid (roomAt_succ hx.out)
            have hg2 := Lib.hid (any_succ badLen hx.out)
            have hp := pow16 (x := x) (by omega) (by omega)
            have hb := bad_not (x := x) (by omega) (by omega)
            have Hb := Lib.hid hb
            clear hb
            by_cases hpos : 0 < x
            · go_wp2
              go_round
              case rel => exact ⟨k + 1, by omega, by rw [hg2.out, Hgood.out, Hb.out]; rfl, by go_num, rfl, rfl, eint (by rw [hs.out, cost, if_pos hpos])⟩
              case measure => simp [intOf]; omega
            · go_wp2
              go_round
              case rel => exact ⟨k + 1, by omega, by rw [hg2.out, Hgood.out, Hb.out]; rfl, by go_num, rfl, rfl, eint (by rw [hs.out, cost, if_neg hpos]; omega)⟩
              case measure => simp [intOf]; omega
      · obtain rfl : k = n := by omega
        have e0 := Lib.hid (res_ok (l := l) (by rw [hlen.out]; omega) (any_all hlen.out Hgood.out))
        have e1 := Lib.hid hlen.out
        go_wp2
        go_ret2
        rw [e0.out]; exact ⟨ret2 (eint (by rw [e1.out])) rfl, rfl⟩

set_option maxHeartbeats 1000000 in
theorem rroom_any {A : Option Addr} {n c : Nat} {l : List Int} (w : World) (HA : SI w .i64 A n l) :
    Calls Tryz.prog 89 #[.slice A n c] w fun e w' => e = .returned (.tuple #[.int .i64 (roomRes l).1, .int .i64 (roomRes l).2]) ∧ w = w' := by
  have hbig := HA.big
  have hlen := Lib.hid HA.len
  by_cases hn : 4096 < n
  · have e0 := Lib.hid (res_long (l := l) (by rw [hlen.out]; exact hn))
    go_enter Tryz.func89, Tryz.ntmps89
    go_wp2
    go_ret2
    rw [e0.out]; exact ⟨rfl, rfl⟩
  · go_enter Tryz.func89, Tryz.ntmps89
    go_wp2
    go_loop [2, 3, 4, 5] (fun a b r i => ∃ k : Nat, k ≤ n ∧ (l.take k).any badLen = false ∧ i = .int .i64 k ∧ a = .int .i64 0 ∧ b = .int .i64 0 ∧ r = .int .i64 (roomAt l k)) (fun _ _ _ i => n - (intOf i).toNat)
    case atStart => exact ⟨0, Nat.zero_le _, rfl, rfl, rfl, rfl, by simp [roomAt]⟩
    case round =>
      obtain ⟨k, hk, hgood, rfl, rfl, rfl, rfl⟩ := hrel
      have Hgood := Lib.hid hgood
      have hr := roomAt_bd k (by rw [hlen.out]; exact hk) hgood
      clear hgood
      by_cases hlt : k < n
      · obtain ⟨b, off, x, rfl, hc, hx, _⟩ := HA.cells hlt
        have hlt' : (k : Int) < n := by omega
        by_cases hx0 : x < 0
        · have e0 := Lib.hid (res_bad (l := l) (by rw [hlen.out]; omega) (any_true_of _ hx.out (by simp [badLen, hx0])))
          go_wp2
          go_ret2
          rw [e0.out]; exact ⟨rfl, rfl⟩
        · by_cases hx1 : 16 < x
          · have e0 := Lib.hid (res_bad (l := l) (by rw [hlen.out]; omega) (any_true_of _ hx.out (by simp [badLen, hx1])))
            go_wp2
            go_ret2
            rw [e0.out]; exact ⟨rfl, rfl⟩
          · have hs := Lib.hid (roomAt_succ hx.out)
            have hg2 := Lib.hid (any_succ badLen hx.out)
            have hp := pow16 (x := x) (by omega) (by omega)
            have hb := bad_not (x := x) (by omega) (by omega)
            have Hb := Lib.hid hb
            clear hb
            by_cases hpos : 0 < x
            · go_wp2
              go_round
              case rel => exact ⟨k + 1, by omega, by rw [hg2.out, Hgood.out, Hb.out]; rfl, by go_num, rfl, rfl, eint (by rw [hs.out, cost, if_pos hpos])⟩
              case measure => simp [intOf]; omega
            · go_wp2
              go_round
              case rel => exact ⟨k + 1, by omega, by rw [hg2.out, Hgood.out, Hb.out]; rfl, by go_num, rfl, rfl, eint (by rw [hs.out, cost, if_neg hpos]; omega)⟩
              case measure => simp [intOf]; omega
      · obtain rfl : k = n := by omega
        have e0 := Lib.hid (res_ok (l := l) (by rw [hlen.out]; omega) (any_all hlen.out Hgood.out))
        have e1 := Lib.hid hlen.out
        go_wp2
        go_ret2
        rw [e0.out]; exact ⟨ret2 (eint (by rw [e1.out])) rfl, rfl⟩

theorem roomRes_bd (l : List Int) : -268435456 ≤ (roomRes l).1 ∧ (roomRes l).1 ≤ 65536 := by
  unfold roomRes
  split
  · exact ⟨by decide, by decide⟩
  · split
    · exact ⟨by decide, by decide⟩
    · rename_i h1 h2
      have := roomAt_bd l.length (Nat.le_refl _) (l := l) (by rw [List.take_length]; simpa using h2)
      simp only []
      omega

set_option maxHeartbeats 400000 in
theorem checked_any {A : Option Addr} {n c : Nat} {l : List Int} (w : World) (HA : SI w .i64 A n l) :
    Calls Tryz.prog 68 #[.slice A n c] w fun e w' => e = .returned (.int .i64 (checkedOf l)) ∧ w = w' := by
  have hbd := roomRes_bd l
  have hro := fun W => Lib.hid (fun h => room_any (c := c) W (A := A) (n := n) (l := l) h)
  by_cases h2 : (roomRes l).2 = 0
  · have h2b : ((roomRes l).2 == 0) = true := by simp [h2]
    by_cases h1 : (roomRes l).1 < 0
    · have e0 : Hid (checkedOf l = 30) := by show checkedOf l = 30; unfold checkedOf; rw [if_pos ⟨h2, h1⟩]
      have H2 := Lib.hid h2
      clear h2
      go_enter Tryz.func68, Tryz.ntmps68
      go_wp2_with (go_at_call 92; refine (room_any _ HA).mono ?_; rintro e w' ⟨rfl, rfl⟩)
      go_ret
      rw [e0.out]; exact ⟨rfl, rfl⟩
    · have e0 : Hid (checkedOf l = (roomRes l).2) := by show checkedOf l = _; unfold checkedOf; rw [if_neg (fun h => h1 h.2)]
      have H2 := Lib.hid h2
      clear h2
      go_enter Tryz.func68, Tryz.ntmps68
      go_wp2_with (go_at_call 92; refine (room_any _ HA).mono ?_; rintro e w' ⟨rfl, rfl⟩)
      go_ret
      rw [e0.out]; exact ⟨rfl, rfl⟩
  · have h2b : ((roomRes l).2 == 0) = false := by simp [h2]
    have e0 : Hid (checkedOf l = (roomRes l).2) := by show checkedOf l = _; unfold checkedOf; rw [if_neg (fun h => h2 h.1)]
    go_enter Tryz.func68, Tryz.ntmps68
    go_wp2_with (go_at_call 92; refine (room_any _ HA).mono ?_; rintro e w' ⟨rfl, rfl⟩)
    go_ret
    rw [e0.out]; exact ⟨rfl, rfl⟩

end Go.Proofs.YtmgbjgjlddifaaaGreat.Pfx
set_option linter.unusedVariables false
set_option linter.unusedSimpArgs false
namespace Go.Proofs.YtmgbjgjlddifaaaGreat.Pfx
open Go.RowKit K

theorem infoU32 : (Tryz.prog.info? 34).map (fun i => (i.zero, i.size, i.bytes)) = some (some (.int .u32 0), 1, 4) := by kernel_rfl

/-- after k lengths: the counts -/
structure C1 (w wr : World) (l : List Int) (k : Nat) : Prop where
  bel : Below w.heap.size w wr
  sz : wr.heap.size = w.heap.size + 1
  row : wr.rowIs w.heap.size 124 18 (fun j => .int .u32 (if j = 0 then 0 else (cnt l j k : Int)))
/-- before length m: the first codes up to m -/
structure C2 (w wr : World) (l : List Int) (m : Nat) : Prop where
  bel : Below w.heap.size w wr
  sz : wr.heap.size = w.heap.size + 2
  row : wr.rowIs w.heap.size 124 18 (fun j => .int .u32 (if j = 0 then 0 else (cnt l j l.length : Int)))
  nxt : wr.rowIs (w.heap.size + 1) 124 18 (fun j => .int .u32 (if j ≤ m then ((first l j : Nat) : Int) % 4294967296 else 0))
/-- after k symbols: the next codes, and the codes given -/
structure C3 (w wr : World) (l : List Int) (k : Nat) : Prop where
  bel : Below w.heap.size w wr
  sz : wr.heap.size = w.heap.size + 3
  nxt : wr.rowIs (w.heap.size + 1) 124 18 (fun j => .int .u32 (if j = 0 then 0 else ((first l j + cnt l j k : Nat) : Int) % 4294967296))
  out : wr.rowIs (w.heap.size + 2) 34 l.length (fun i => .int .u32 (if i < k then codeAt l i else 0))

theorem C1.start (w : World) (l : List Int) : C1 w (w.alloc (.cells (Array.replicate 18 (.int .u32 0)) 124)) l 0 :=
  ⟨(Below.refl _ _).alloc (Nat.le_refl _) _, by simp, World.rowIs_alloc w _ _ _ (fun i hi => by
    simp only [Array.size_replicate] at hi
    rw [Array.getElem?_replicate, if_pos hi, cnt_zero]; simp)⟩
theorem C1.step {w wr : World} {l : List Int} {k : Nat} {x : Int} (h : C1 w wr l k) (hx : l[k]? = some x) (h0 : 0 < x) (h1 : x ≤ 16) :
    C1 w (wr.setCell ⟨w.heap.size, x.toNat, none⟩ (.int .u32 ((cnt l x.toNat k : Int) + 1))) l (k + 1) :=
  ⟨h.bel.setCell (by simp) _, by simp [h.sz], (h.row.set x.toNat _).congr (fun j hj => by
    by_cases e : j = x.toNat
    · subst e; rw [if_pos rfl, if_neg (by omega), cnt_succ _ hx, if_pos (by omega)]; simp
    · rw [if_neg e]
      by_cases e0 : j = 0
      · rw [if_pos e0, if_pos e0]
      · rw [if_neg e0, if_neg e0, cnt_succ _ hx, if_neg (by omega)]; simp)⟩
theorem C1.skip {w wr : World} {l : List Int} {k : Nat} {x : Int} (h : C1 w wr l k) (hx : l[k]? = some x) (h0 : ¬ 0 < x) : C1 w wr l (k + 1) :=
  ⟨h.bel, h.sz, h.row.congr (fun j hj => by
    by_cases e : j = 0
    · rw [if_pos e, if_pos e]
    · rw [if_neg e, if_neg e, cnt_succ _ hx, if_neg (by omega)]; simp)⟩
theorem C2.start {w wr : World} {l : List Int} (h : C1 w wr l l.length) : C2 w (wr.alloc (.cells (Array.replicate 18 (.int .u32 0)) 124)) l 1 :=
  ⟨h.bel.alloc (by rw [h.sz]; omega) _, by simp [h.sz], h.row.alloc _, by
    have := World.rowIs_alloc wr (Array.replicate 18 (.int .u32 0)) 124 (fun j => .int .u32 (if j ≤ 1 then ((first l j : Nat) : Int) % 4294967296 else 0)) (fun i hi => by
      simp only [Array.size_replicate] at hi
      rw [Array.getElem?_replicate, if_pos hi]
      split
      · rename_i h; rcases Nat.le_one_iff_eq_zero_or_eq_one.1 h with rfl | rfl <;> rfl
      · rfl)
    rw [h.sz] at this
    simpa using this⟩
theorem C2.step {w wr : World} {l : List Int} {m : Nat} {v : Int} (h : C2 w wr l m) (h1 : 1 ≤ m) (hv : v = ((first l (m+1) : Nat) : Int) % 4294967296) :
    C2 w ((wr.setCell ⟨w.heap.size + 1, m + 1, none⟩ (.int .u32 v)).drew) l (m + 1) :=
  ⟨(h.bel.setCell (by simp) _).drew, by simp [h.sz], (h.row.setOther (by simp) _).drew, ((h.nxt.set (m+1) _).drew).congr (fun j hj => by
    by_cases e : j = m + 1
    · subst e; rw [if_pos rfl, if_pos (by omega), hv]
    · rw [if_neg e]; by_cases e2 : j ≤ m
      · rw [if_pos e2, if_pos (by omega)]
      · rw [if_neg e2, if_neg (by omega)])⟩
theorem C3.start {w wr : World} {l : List Int} (h : C2 w wr l 17) : C3 w (wr.alloc (.cells (madeCells #[.int .u32 0] l.length) 34)) l 0 :=
  ⟨h.bel.alloc (by rw [h.sz]; omega) _, by simp [h.sz], (h.nxt.alloc _).congr (fun j hj => by
      rw [if_pos (by omega), cnt_zero]
      by_cases e : j = 0
      · subst e; rfl
      · rw [if_neg e]; rfl), by
    have := World.rowIs_made wr (.int .u32 0) l.length 34
    rw [h.sz] at this
    exact this.congr (fun i hi => by rw [if_neg (by omega)])⟩
theorem C3.step {w wr : World} {l : List Int} {k : Nat} {x : Int} {u : Int} (h : C3 w wr l k) (hx : l[k]? = some x) (h0 : 0 < x) (h1 : x ≤ 16)
    (hu : u = ((first l x.toNat + cnt l x.toNat (k+1) : Nat) : Int) % 4294967296) :
    C3 w ((wr.setCell ⟨w.heap.size + 2, k, none⟩ (.int .u32 (((first l x.toNat + cnt l x.toNat k : Nat) : Int) % 4294967296))).setCell ⟨w.heap.size + 1, x.toNat, none⟩ (.int .u32 u)) l (k + 1) :=
  ⟨(h.bel.setCell (by simp) _).setCell (by simp) _, by simp [h.sz],
   ((h.nxt.setOther (by simp) _).set x.toNat _).congr (fun j hj => by
    by_cases e : j = x.toNat
    · subst e; rw [if_pos rfl, if_neg (by omega), hu]
    · rw [if_neg e]
      by_cases e0 : j = 0
      · rw [if_pos e0, if_pos e0]
      · rw [if_neg e0, if_neg e0, cnt_succ _ hx, if_neg (by omega)]; simp),
   ((h.out.set k _).setOther (by simp) _).congr (fun i hi => by
    by_cases e : i = k
    · subst e; rw [if_pos rfl, if_pos (by omega)]
      unfold codeAt; simp only [getD_of hx]; rw [if_pos h0]
    · rw [if_neg e]; by_cases e2 : i < k
      · rw [if_pos e2, if_pos (by omega)]
      · rw [if_neg e2, if_neg (by omega)])⟩
theorem C3.skip {w wr : World} {l : List Int} {k : Nat} {x : Int} (h : C3 w wr l k) (hx : l[k]? = some x) (h0 : ¬ 0 < x) : C3 w wr l (k + 1) :=
  ⟨h.bel, h.sz, h.nxt.congr (fun j hj => by
    by_cases e : j = 0
    · rw [if_pos e, if_pos e]
    · rw [if_neg e, if_neg e, cnt_succ _ hx, if_neg (by omega)]; simp),
   h.out.congr (fun i hi => by
    by_cases e : i = k
    · subst e; rw [if_neg (by omega), if_pos (by omega)]
      unfold codeAt; simp only [getD_of hx]; rw [if_neg h0]
    · by_cases e2 : i < k
      · rw [if_pos e2, if_pos (by omega)]
      · rw [if_neg e2, if_neg (by omega)])⟩

theorem checked_zero {l : List Int} (h : checkedOf l = 0) : l.length ≤ 4096 ∧ l.any badLen = false ∧ 0 ≤ roomAt l l.length := by
  have h2 : (roomRes l).2 = 0 := by
    unfold checkedOf at h; split at h
    · omega
    · exact h
  have hl : l.length ≤ 4096 := by
    rcases Nat.lt_or_ge 4096 l.length with h3 | h3
    · rw [res_long h3] at h2; simp at h2
    · exact h3
  have hb : l.any badLen = false := by
    cases hb : l.any badLen with
    | false => rfl
    | true => rw [res_bad hl hb] at h2; simp at h2
  refine ⟨hl, hb, ?_⟩
  rw [checkedOf, res_ok hl hb] at h
  simp at h
  omega
theorem len_of {l : List Int} {k : Nat} {x : Int} (hb : l.any badLen = false) (hx : l[k]? = some x) : 0 ≤ x ∧ x ≤ 16 :=
  bad_of (by rw [List.any_eq_false] at hb; simpa using hb x (List.mem_of_getElem? hx))

set_option maxHeartbeats 1000000 in
theorem codes_err {A : Option Addr} {n c : Nat} {l : List Int} (w : World) (HA : SI w .i64 A n l) (h : checkedOf l ≠ 0) :
    Calls Tryz.prog 40 #[.slice A n c] w fun e w' => e = .returned (.tuple #[.slice none 0 0, .int .i64 (checkedOf l)]) ∧ w = w' := by
  have hb : (checkedOf l != 0) = true := by simp [h]
  go_enter Tryz.func40, Tryz.ntmps40
  go_wp2_with (go_at_call 68; refine (checked_any _ HA).mono ?_; rintro e w' ⟨rfl, rfl⟩)
  go_ret2
  exact ⟨rfl, rfl⟩

set_option maxHeartbeats 2000000 in
theorem codes_ok {A : Option Addr} {n c : Nat} {l : List Int} (w : World) (HA : SI w .i64 A n l) (h : checkedOf l = 0) :
    Calls Tryz.prog 40 #[.slice A n c] w fun e w' => e = .returned (.tuple #[.slice (some ⟨w.heap.size + 2, 0, none⟩) n n, .int .i64 0]) ∧ C3 w w' l n := by
  have hlen := Lib.hid HA.len
  have hn : n ≤ 4096 := by have := (checked_zero h).1; rw [hlen.out] at this; exact this
  have Hgood := Lib.hid (checked_zero h).2.1
  have H := Lib.hid h
  clear h
  have hmk := fun w => run_make_row' (P := Tryz.prog) 85 34 (.int .u32 0) 4 Tryz.underlying85 infoU32 rfl .i64 .i64 n (by omega) (by omega) w
  go_enter Tryz.func40, Tryz.ntmps40
  go_wp2_with (go_at_call 68; refine (checked_any _ HA).mono ?_; rintro e w' ⟨rfl, rfl⟩; rw [H.out])
  go_loopw [7, 20] (fun _ i wr => ∃ k : Nat, k ≤ n ∧ i = .int .i64 k ∧ C1 w wr l k) (fun _ i _ => n - (intOf i).toNat)
  case atStart => exact ⟨0, Nat.zero_le _, rfl, C1.start w l⟩
  case round =>
    obtain ⟨k, hk, rfl, h1⟩ := hrel
    by_cases hlt : k < n
    · obtain ⟨b, off, x, rfl, hc0, hx, hbl⟩ := HA.cells hlt
      have hc : wr.cell? ⟨b, off + k, none⟩ = some (.int .i64 x) := (h1.bel.cell (p := ⟨b, off+k, none⟩) hbl).trans hc0
      have hx0 := len_of Hgood.out hx.out
      have hlt' : (k : Int) < n := by omega
      by_cases hp : 0 < x
      · have hcl := cnt_le l x.toNat k
        have hr1 := h1.row.cell (i := x.toNat) (by omega)
        have hr2 := h1.row.frozen x.toNat
        rw [if_neg (by omega)] at hr1
        go_wp2
        go_roundw
        case rel => exact ⟨k + 1, by omega, by go_num, h1.step hx.out hp hx0.2⟩
        case measure => simp [intOf]; omega
      · go_wp2
        go_roundw
        case rel => exact ⟨k + 1, by omega, by go_num, h1.skip hx.out hp⟩
        case measure => simp [intOf]; omega
    · obtain rfl : k = n := by omega
      have h2 : C2 w (wr.alloc (.cells (Array.replicate 18 (.int .u32 0)) 124)) l 1 := C2.start (by rw [hlen.out]; exact h1)
      have hs := h1.sz
      go_wp2
      go_loopw [9] (fun i wr => ∃ m : Nat, 1 ≤ m ∧ m ≤ 17 ∧ i = .int .i64 m ∧ C2 w wr l m) (fun i _ => 17 - (intOf i).toNat)
      case atStart => exact ⟨1, by omega, by omega, rfl, h2⟩
      case round =>
        clear h2 h1 hs
        obtain ⟨m, hm1, hm2, rfl, h2⟩ := hrel
        by_cases hlt2 : m ≤ 16
        · have a1 := h2.row.cell (i := m) (by omega)
          have a2 := h2.nxt.cell (i := m) (by omega)
          have a3 := h2.nxt.cell (i := m + 1) (by omega)
          have a4 := h2.nxt.frozen (m + 1)
          rw [if_neg (by omega)] at a1
          rw [if_pos (by omega)] at a2
          rw [if_neg (by omega)] at a3
          have hf := Lib.hid (first_succ l m hm1)
          go_wp2
          go_region
          go_wp2
          go_roundw
          case rel => exact ⟨m + 1, by omega, by omega, by go_num, h2.step hm1 (by rw [hf.out]; omega)⟩
          case measure => simp [intOf]; omega
        · obtain rfl : m = 17 := by omega
          have hs := h2.sz
          have h3 : C3 w (wr.alloc (.cells (madeCells #[.int .u32 0] k) 34)) l 0 := by have := C3.start h2; rwa [hlen.out] at this
          clear h2
          go_wp2
          go_loopw [11, 12, 52] (fun _ _ i wr => ∃ m : Nat, m ≤ k ∧ i = .int .i64 m ∧ C3 w wr l m) (fun _ _ i _ => k - (intOf i).toNat)
          case atStart => exact ⟨0, by omega, rfl, h3⟩
          case round =>
            clear h3 hs
            obtain ⟨m, hm, rfl, h3⟩ := hrel
            by_cases hlt3 : m < k
            · obtain ⟨b, off, x, rfl, hc0, hx, hbl⟩ := HA.cells hlt3
              have hc : wr.cell? ⟨b, off + m, none⟩ = some (.int .i64 x) := (h3.bel.cell (p := ⟨b, off+m, none⟩) hbl).trans hc0
              have hx0 := len_of Hgood.out hx.out
              have hlt' : (m : Int) < k := by omega
              by_cases hp : 0 < x
              · have hcs := Lib.hid (cnt_succ x.toNat hx.out)
                have a1 := h3.nxt.cell (i := x.toNat) (by omega)
                have a2 := h3.nxt.frozen x.toNat
                have a3 := h3.out.cell (i := m) (by rw [hlen.out]; omega)
                have a4 := h3.out.frozen m
                rw [if_neg (by omega)] at a1
                rw [if_neg (by omega)] at a3
                go_wp2
                go_roundw
                case rel => exact ⟨m + 1, by omega, by go_num, h3.step hx.out hp hx0.2 (by rw [hcs.out, if_pos (by omega)]; omega)⟩
                case measure => simp [intOf]; omega
              · go_wp2
                go_roundw
                case rel => exact ⟨m + 1, by omega, by go_num, h3.skip hx.out hp⟩
                case measure => simp [intOf]; omega
            · obtain rfl : m = k := by omega
              go_wp2
              go_ret2
              exact ⟨rfl, h3⟩
end Go.Proofs.YtmgbjgjlddifaaaGreat.Pfx
