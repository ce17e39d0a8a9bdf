/-
  Texts of this claim, joined by program (Bulk, Kit, JpK, ArdM, ArdA). FOR A PROOF OF AN '..UptoSaid': WHAT THE BOUND GIVES. Copy it as <Name>Bulk.lean (put your seat's Name for YtoofgblmpjndjaaGreatDoor, the bound of 'uptoSmall' for 1048576), name it in GOCLAIM.json's 'order' behind <Name>Rows. By an AI agent, Sun Nov 15 2026. No person has read it. No macro, syntax, notation, axiom, sorry.
-/
import Derived.Test.YtoofgblmpjndjaaGreatDoorRows
import Derived.WalkKit
import Derived.WalkSpells
import Derived.WalkLawsBesides
import Derived.Deep.OwnRows
import Derived.Maps.AppendAt
import Derived.Lib.Hide
import Derived.Deep.QuietTactic
import Derived.BigQuiet
import Derived.BigRegion
import Derived.IntWalk
import Derived.Laws.BitsAllLaws
import Derived.Deep.AppendLies
import Derived.Test.YtoofgblmpjndjaaGreatDoorChecked
namespace Go.Proofs.YtoofgblmpjndjaaGreatDoor.bulks

theorem one_le {H : Type} (d : DataW H) : 1 ≤ Rows.uptoBulk d := by
 cases d with
 | lit l => cases l <;> simp [Rows.uptoBulk]
 | nil => simp [Rows.uptoBulk]
 | ptr d => simp [Rows.uptoBulk]
 | slice elems spare => simp [Rows.uptoBulk]
 | agg parts => simp [Rows.uptoBulk]
 | iface t d => simp [Rows.uptoBulk]
 | map entries => simp [Rows.uptoBulk]
 | held h => simp [Rows.uptoBulk]

theorem part_le {H : Type} {d : DataW H} {l : List (DataW H)} (h : d ∈ l) : Rows.uptoBulk d ≤ Rows.uptoBulkAll l := by
 induction l with
 | nil => cases h
 | cons x r ih =>
  simp only [Rows.uptoBulkAll]
  cases List.mem_cons.1 h with
  | inl e => subst e; omega
  | inr e => have := ih e; omega

theorem append {H : Type} (l r : List (DataW H)) : Rows.uptoBulkAll (l ++ r) = Rows.uptoBulkAll l + Rows.uptoBulkAll r := by
 induction l with
 | nil => simp [Rows.uptoBulkAll]
 | cons x l ih => simp only [List.cons_append, Rows.uptoBulkAll, ih]; omega

theorem length_le {H : Type} (l : List (DataW H)) : l.length ≤ Rows.uptoBulkAll l := by
 induction l with
 | nil => simp [Rows.uptoBulkAll]
 | cons x r ih => have := one_le x; simp only [Rows.uptoBulkAll, List.length_cons]; omega

theorem slice_le {H : Type} (elems spare : List (DataW H)) : elems.length + spare.length + 1 ≤ Rows.uptoBulk (.slice elems spare) := by
 have h1 := length_le elems
 have h2 := length_le spare
 simp only [Rows.uptoBulk]
 omega
theorem slice_elems {H : Type} (elems spare : List (DataW H)) : Rows.uptoBulkAll elems + 1 ≤ Rows.uptoBulk (.slice elems spare) := by
 simp only [Rows.uptoBulk]
 omega

theorem string_eq {H : Type} (bytes : List UInt8) : Rows.uptoBulk (DataW.lit (H := H) (.string bytes)) = bytes.length + 1 := by
 simp [Rows.uptoBulk]

theorem bound {H : Type} {l : List (DataW H)} (hk : Rows.uptoSmall H l = true) : Rows.uptoBulkAll l ≤ 1048576 := by
 simpa [Rows.uptoSmall] using hk

theorem room {n b : Nat} (hn : n ≤ 2097152) (hb : b ≤ 4096) : (n + n / 4 + 192) * b ≤ 281474976710656 := by
 have h : (n + n / 4 + 192) * b ≤ 2621632 * 4096 := Nat.mul_le_mul (by omega) hb
 omega

end Go.Proofs.YtoofgblmpjndjaaGreatDoor.bulks
set_option linter.unusedVariables false
set_option linter.unusedSimpArgs false
namespace Go.Proofs.YtoofgblmpjndjaaGreatDoor.K
open Go.RowKit

theorem ret2 {a b c d : Value} (h : a = c) (h2 : b = d) : Ending.returned (.tuple #[a, b]) = .returned (.tuple #[c, d]) := by rw [h, h2]
theorem ret1 {a b : Value} (h : a = b) : Ending.returned a = .returned b := by rw [h]
theorem eint {k : IntKind} {a b : Int} (h : a = b) : Value.int k a = .int k b := by rw [h]
theorem ebool {a b : Bool} (h : a = b) : Value.bool a = .bool b := by rw [h]

def Sl (w : World) (A : Option Addr) (xs : List Value) : Prop :=
 ∀ (j : Nat) (u : Value), xs[j]? = some u → ∃ b off, A = some ⟨b, off, none⟩ ∧ w.cell? ⟨b, off + j, none⟩ = some u
def kb : IntKind → Nat
 | .u8 => 1
 | .i8 => 1
 | .u16 => 2
 | .i16 => 2
 | .u32 => 4
 | .i32 => 4
 | _ => 8
structure SI (w : World) (k : IntKind) (A : Option Addr) (n : Nat) (l : List Int) : Prop where
 len : l.length = n
 sz : n * kb k ≤ 140737488351232
 sl : Sl w A (l.map (.int k))

section
variable {w w' : World} {k : IntKind} {A : Option Addr} {n : Nat} {l : List Int} {xs : List Value} {B : Nat}
theorem Sl.below (h : Sl w A xs) (hb : Below B w w') (hB : w.heap.size ≤ B) : Sl w' A xs := fun j u hu => by
 obtain ⟨b, off, rfl, hc⟩ := h j u hu
 exact ⟨b, off, rfl, (hb.cell (p := ⟨b, off + j, none⟩) (Nat.lt_of_lt_of_le (World.block_lt_of_cell? w _ hc) hB)).trans hc⟩
theorem SI.below (h : SI w k A n l) (hb : Below B w w') (hB : w.heap.size ≤ B) : SI w' k A n l := ⟨h.len, h.sz, h.sl.below hb hB⟩
theorem Sl.alloc (h : Sl w A xs) (o : Obj) : Sl (w.alloc o) A xs := h.below ((Below.refl _ _).alloc (Nat.le_refl _) o) (Nat.le_refl _)
theorem SI.alloc (h : SI w k A n l) (o : Obj) : SI (w.alloc o) k A n l := ⟨h.len, h.sz, h.sl.alloc o⟩
theorem SI.cells (h : SI w k A n l) {i : Nat} (hi : i < n) :
  ∃ b off x, A = some ⟨b, off, none⟩ ∧ w.cell? ⟨b, off + i, none⟩ = some (.int k x) ∧ Hid (l[i]? = some x) ∧ b < w.heap.size := by
 have hi' : i < l.length := by rw [h.len]; exact hi
 have hx : l[i]? = some l[i] := List.getElem?_eq_getElem hi'
 obtain ⟨b, off, rfl, hc⟩ := h.sl i (.int k l[i]) (by simp [hx])
 exact ⟨b, off, _, rfl, hc, hx, World.block_lt_of_cell? w _ hc⟩
theorem SI.big (h : SI w .i64 A n l) : n * 8 ≤ 140737488351232 := h.sz
theorem SI.bigb (h : SI w .u8 A n l) : n ≤ 140737488351232 := by have : n * 1 ≤ 140737488351232 := h.sz; omega
theorem SI.nil (w : World) (k : IntKind) (A : Option Addr) : SI w k A 0 [] := ⟨rfl, by rw [Nat.zero_mul]; omega, fun j u h => by simp at h⟩
theorem Sl.of_own {base e sz c : Nat} (h : w.ownsRow base e sz (.slice A n c) n xs) : Sl w A xs := fun j u hu => by
 rcases h.2 with ⟨hv, rfl⟩ | ⟨g, cap, cur, hv, hb, hg, _⟩
 ·have := h.1; simp at this; subst this; simp at hu
 ·have e : A = some ⟨g, 0, none⟩ := by injection hv
  subst e
  refine ⟨g, 0, rfl, ?_⟩
  have := h.cells (g := g) rfl j u hu
  rw [Addr.add_lit] at this
  exact this
theorem own_form {base e sz : Nat} {v : Value} (h : w.ownsRow base e sz v n xs) : ∃ A c, v = .slice A n c := by
 rcases h.2 with ⟨rfl, rfl⟩ | ⟨g, cap, cur, hv, _⟩
 ·exact ⟨_, _, rfl⟩
 ·exact ⟨_, _, hv⟩
theorem SI.of_own {base e c : Nat} (h : w.ownsRow base e 1 (.slice A n c) n (l.map (.int k))) (hbig : n * kb k ≤ 140737488351232) : SI w k A n l :=
 ⟨by have := h.1; simpa using this, hbig, Sl.of_own h⟩
theorem own_of_row {base T m : Nat} {f : Nat → Value} {b : Nat} (h : w.rowIs b T m f) (hb : base ≤ b) (hm : m ≤ maxLen) :
  w.ownsRow base T 1 (.slice (some ⟨b, 0, none⟩) m m) m ((List.range m).map f) := by
 obtain ⟨c, hc, hn, hf⟩ := h
 refine ⟨by simp, .inr ⟨b, m, c, rfl, hb, hc, Nat.le_refl _, hm, by simp [hn], ?_⟩⟩
 apply List.ext_getElem?
 intro i
 by_cases hi : i < m
 ·have := hf i hi
  rw [List.getElem?_take, if_pos (by omega)]
  simp [hi, this]
 ·rw [List.getElem?_take, if_neg (by omega)]
  simp [hi]
theorem SI.of_row {T m : Nat} {f : Nat → Int} {b : Nat} (h : w.rowIs b T m (fun i => .int k (f i))) (hm : m * kb k ≤ 140737488351232) :
  SI w k (some ⟨b, 0, none⟩) m ((List.range m).map f) :=
 ⟨by simp, hm, fun j u hu => by
  simp only [List.map_map, List.getElem?_map, Option.map_eq_some_iff, List.getElem?_range] at hu
  obtain ⟨i, hi, rfl⟩ := hu
  have hj : j < m := by
   rcases Nat.lt_or_ge j m with h1 | h1
   ·exact h1
   ·simp [h1] at hi
  simp [hj] at hi
  subst hi
  exact ⟨b, 0, rfl, by simpa using h.cell hj⟩⟩
end

theorem SI.lit0 (w : World) (k : IntKind) (l : List Int) (T : TypeId) (h : l.length * kb k ≤ 140737488351232) : SI (w.alloc (.cells (l.map (.int k)).toArray T)) k (some ⟨w.heap.size, 0, none⟩) l.length l :=
 ⟨rfl, h, fun j u hu => ⟨w.heap.size, 0, rfl, by rw [World.cell?_alloc_new]; simpa using hu⟩⟩
theorem wpList_append_sl {P : Program} (w : World) {ops : Array Oper} {rest : List Oper} {o : Oper} {a : Act} {Q : Exit → Act → World → Prop} (hgd : o.guard = none) (s x : Operand) (t : TypeId)
  (ho : o.op = .call { callee := .builtin .append, args := #[s, x], argTypes := #[t, t] })
  (base e size bytes : Nat) (z : Value) (ht : P.underlying t = some (.slice e)) (hinfo : (P.info? e).map (fun i => (i.zero, i.size, i.bytes)) = some (some z, size, bytes)) (hzs : z.cells.size = size) (hsz : 0 < size)
  (v : Value) (n : Nat) (xs : List Value) (hs : a.eval s = v) (hown : w.ownsRow base e size v n xs)
  (A : Option Addr) (m c : Nat) (news : List Value) (hx : a.eval x = .slice A m c) (hl : news.length = m * size) (hr : Sl w A news) (h1 : ∀ u ∈ news, u.oneCell' = true)
  (h63 : n + m ≤ maxLen) (hbytes : (n + m) * bytes ≤ 140737488355328) (hbase : base ≤ w.heap.size)
  (h : ∀ v' w', w'.ownsRow base e size v' (n + m) (xs ++ news) → w.grownBy w' v.ownBlock → (v'.ownBlock = v.ownBlock ∨ v'.ownBlock = some w.heap.size) → wpList P ops Q rest (a.put o.dst v') w') : wpList P ops Q (o :: rest) a w := by
 obtain ⟨i, hi, hz, hz1, hz2⟩ := info_parts hinfo
 rcases Nat.eq_zero_or_pos m with hm | hm
 ·subst hm
  have hn0 : news = [] := List.eq_nil_of_length_eq_zero (by simpa using hl)
  subst hn0
  have hrun : (Builtin.append_ #[t, t] o.type #[v, .slice A 0 c]).run P w = .ok v w := by
   rcases hown.2 with ⟨rfl, rfl⟩ | ⟨g, cap, cur, rfl, _, _, hnc, _⟩
   ·cases A <;> simp [Builtin.append_, run_underlying ht, sizeOf, typeInfo, hi, Builtin.lenOf, Builtin.firstCells, loadCells, loadCellsFrom]
   ·cases A <;> simp [Builtin.append_, run_underlying ht, sizeOf, typeInfo, hi, Builtin.lenOf, Builtin.firstCells, hnc, storeCells, loadCells, loadCellsFrom]
  refine wpList_plain hgd fun K hK => ?_
  unfold Oper.wp execOp
  simp only [ho, resolve, invoke, builtin, Sem.run_bind, Sem.run_pure, Result.andThen_ok, List.map_toArray, List.map_cons, List.map_nil, hs, hx, hrun]
  exact hK _ _ (h v w (by simpa using hown) (World.grownBy.refl w _) (.inl rfl))
 ·have h0 : 0 < news.length := by rw [hl]; exact Nat.mul_pos hm hsz
  obtain ⟨b, off, rfl, _⟩ := hr 0 news[0] (List.getElem?_eq_getElem h0)
  refine wpList_append_own_at w hgd s x t ho base e i z size bytes ht hi hz hz1 hz2 hzs hsz v n xs hs hown ⟨b, off, none⟩ m c news hx hl ?_ h1 h63 hbytes hbase (fun v' w' a1 a2 _ a4 => h v' w' a1 a2 a4)
  intro j u hu
  obtain ⟨b', off', e', hc⟩ := hr j u hu
  injection e' with e'
  injection e' with e1 e2
  subst e1 e2
  rw [Addr.add_lit]
  exact hc
theorem ones (k : IntKind) (l : List Int) : ∀ u ∈ l.map (Value.int k), u.oneCell' = true := ints_oneCell k l

section
variable {w wr : World} {row : Option Nat} {p : Nat}
theorem grown_set (h : w.grownBy wr (some p)) (i : Nat) (v : Value) : w.grownBy (wr.setCell ⟨p, i, none⟩ v) (some p) :=
 ⟨h.os, h.tape, h.output, by simp [World.setCell]; exact h.size, fun k hi hne => (Below.heap_setCell wr ⟨p, i, none⟩ v k (fun e => hne (by rw [e]))).trans (h.block k hi hne)⟩
theorem grown_drew (h : w.grownBy wr row) : w.grownBy wr.drew row := ⟨h.os, h.tape, h.output, h.size, h.block⟩
theorem grown_drewN (h : w.grownBy wr row) (n : Nat) : w.grownBy (wr.drewN n) row := ⟨h.os, h.tape, h.output, h.size, h.block⟩
theorem grown_alloc (h : w.grownBy wr row) (o : Obj) : w.grownBy (wr.alloc o) row :=
 ⟨h.os, h.tape, h.output, Nat.le_trans h.size (by simp), fun i hi hne => (Below.heap_alloc wr o i (Nat.lt_of_lt_of_le hi h.size)).trans (h.block i hi hne)⟩
theorem grown_trans {w2 : World} (h : w.grownBy wr row) (k : wr.grownBy w2 row) : w.grownBy w2 row :=
 ⟨k.os.trans h.os, k.tape.trans h.tape, k.output.trans h.output, Nat.le_trans h.size k.size, fun i hi hne => (k.block i (Nat.lt_of_lt_of_le hi h.size) hne).trans (h.block i hi hne)⟩
theorem grown_below (h : Below w.heap.size w wr) (row : Option Nat) : w.grownBy wr row := ⟨h.os, h.tape, h.output, h.size, fun i hi _ => h.block i hi⟩
theorem below_grown {B : Nat} (h : w.grownBy wr (some p)) (hB : B ≤ p) (hs : B ≤ w.heap.size) : Below B w wr := (Below.refl B w).grown h hs (fun k hk => by injection hk with hk; omega)
theorem below_drewN {B : Nat} {a : World} (h : Below B a wr) (n : Nat) : Below B a (wr.drewN n) := ⟨h.os, h.tape, h.output, h.size, h.block⟩
theorem Sl.one (w : World) (u : Value) (T : TypeId) : Sl (w.alloc (.cells #[u] T)) (some ⟨w.heap.size, 0, none⟩) [u] := fun j v hv => by
 have hj : j = 0 := by
  rcases Nat.eq_zero_or_pos j with h | h
  ·exact h
  ·rw [List.getElem?_eq_none (by simp; omega)] at hv; cases hv
 subst hj
 refine ⟨w.heap.size, 0, rfl, ?_⟩
 simp at hv; subst hv
 simp
end
theorem u32_and1 (y : Int) (h : 0 ≤ y) : bits .and .u32 (y % 4294967296) 1 = y % 2 := by
 rw [u32_and _ _ (by omega) (by omega) (by omega) (by omega), show (1 : Int).toNat = 1 from rfl, nat_mask1]; omega
theorem u32_or_hi (i : Nat) (a b : Int) (h0 : 0 ≤ a) (h1 : a < 4294967296) (ha : a % 2 ^ i = 0) (hb0 : 0 ≤ b) (hb1 : b < 2 ^ i) (hb2 : b < 4294967296) : bits .or .u32 a b = a + b := by
 rw [u32_or a b h0 h1 hb0 hb2]
 obtain ⟨x, rfl⟩ := Int.eq_ofNat_of_zero_le h0
 obtain ⟨y, rfl⟩ := Int.eq_ofNat_of_zero_le hb0
 simp only [Int.toNat_natCast]
 have e1 : x % 2 ^ i = 0 := by have := ha; exact_mod_cast this
 have e2 : y < 2 ^ i := by have := hb1; exact_mod_cast this
 rw [nat_join i x y e1 e2]; rfl
theorem u32_or_lo (i : Nat) (a b : Int) (h0 : 0 ≤ b) (h1 : b < 4294967296) (ha : b % 2 ^ i = 0) (hb0 : 0 ≤ a) (hb1 : a < 2 ^ i) (hb2 : a < 4294967296) : bits .or .u32 a b = a + b := by
 have := u32_or_hi i b a h0 h1 ha hb0 hb1 hb2
 rw [u32_or a b hb0 hb2 h0 h1, Nat.or_comm, ← u32_or b a h0 h1 hb0 hb2, this]; omega
theorem pow_le32 {k : Nat} (h : k ≤ 32) : (2 : Int) ^ k ≤ 4294967296 := by
 have := Nat.pow_le_pow_right (n := 2) (by omega) h
 have e : (2 : Int) ^ k = ((2 ^ k : Nat) : Int) := by simp
 rw [e]; have : 2 ^ k ≤ 4294967296 := this
 omega

theorem pow_le16 {k : Nat} (h : k ≤ 16) : (2 : Int) ^ k ≤ 65536 := by
 have := Nat.pow_le_pow_right (n := 2) (by omega) h
 have e : (2 : Int) ^ k = ((2 ^ k : Nat) : Int) := by simp
 rw [e]; have : 2 ^ k ≤ 65536 := this
 omega
theorem ofInt_64 (a : Nat) (ha : a < 9223372036854775808) : (BitVec.ofInt 64 (a : Int)).toNat = a := by
 rw [BitVec.ofInt_natCast, BitVec.toNat_ofNat]; exact Nat.mod_eq_of_lt (by omega)
theorem i64_or_hi (i : Nat) (a b : Int) (h0 : 0 ≤ a) (h1 : a < 9223372036854775808) (ha : a % 2 ^ i = 0) (hb0 : 0 ≤ b) (hb1 : b < 2 ^ i) (hb2 : b < 9223372036854775808) (hs : a + b < 9223372036854775808) : bits .or .i64 a b = a + b := by
 obtain ⟨x, rfl⟩ := Int.eq_ofNat_of_zero_le h0
 obtain ⟨y, rfl⟩ := Int.eq_ofNat_of_zero_le hb0
 have e1 : x % 2 ^ i = 0 := by have := ha; exact_mod_cast this
 have e2 : y < 2 ^ i := by have := hb1; exact_mod_cast this
 show IntKind.i64.wrap ((BitVec.ofInt 64 (x : Int) ||| BitVec.ofInt 64 (y : Int)).toNat : Int) = _
 rw [BitVec.toNat_or, ofInt_64 x (by omega), ofInt_64 y (by omega), nat_join i x y e1 e2, IntKind.wrap_i64]
 omega
theorem div_bd {a M : Int} (k : Nat) (h0 : -1 ≤ a) (h1 : a ≤ M) (hM : 0 ≤ M) : -1 ≤ a / 2 ^ k ∧ a / 2 ^ k ≤ M := by
 have hp : (0 : Int) < 2 ^ k := Int.pow_pos (by omega)
 constructor
 ·exact (Int.le_ediv_iff_mul_le hp).2 (by omega)
 ·exact Int.ediv_le_of_le_mul hp (Int.le_trans h1 (by have : M * 1 ≤ M * 2 ^ k := Int.mul_le_mul_of_nonneg_left (by omega) hM; omega))

def steps {α : Type} (f : Nat → α → α) : Nat → α → α
 | 0, s => s
 | k+1, s => f k (steps f k s)
theorem take_snoc {α : Type} {l : List α} {k : Nat} {x : α} (h : l[k]? = some x) : l.take (k+1) = l.take k ++ [x] := by rw [List.take_add_one, h]; rfl
theorem foldl_snoc {α β : Type} {f : β → α → β} {l : List α} {k : Nat} {x : α} {s : β} (h : l[k]? = some x) : (l.take (k+1)).foldl f s = f ((l.take k).foldl f s) x := by
 rw [take_snoc h, List.foldl_append]; rfl
theorem getD_of {l : List Int} {i : Nat} {x : Int} (h : l[i]? = some x) (d : Int) : l.getD i d = x := by simp [List.getD, h]
end Go.Proofs.YtoofgblmpjndjaaGreatDoor.K
set_option linter.unusedVariables false
set_option linter.unusedSimpArgs false
namespace Go.Proofs.YtoofgblmpjndjaaGreatDoor.Jp
open Go.RowKit K

theorem grown_tr {a b c : World} {row : Option Nat} (h : a.grownBy b row) (k : b.grownBy c row) : a.grownBy c row :=
 ⟨k.os.trans h.os, k.tape.trans h.tape, k.output.trans h.output, Nat.le_trans h.size k.size, fun i hi hr => (k.block i (Nat.lt_of_lt_of_le hi h.size) hr).trans (h.block i hi hr)⟩
theorem grown_al {a b : World} {row : Option Nat} (h : a.grownBy b row) (o : Obj) : a.grownBy (b.alloc o) row := grown_tr h (World.grownBy_alloc b o row)
theorem grown_new {a b c : World} {row : Option Nat} {x : Nat} (h : a.grownBy b row) (k : b.grownBy c (some x)) (hx : a.heap.size ≤ x) : a.grownBy c row :=
 ⟨k.os.trans h.os, k.tape.trans h.tape, k.output.trans h.output, Nat.le_trans h.size k.size, fun i hi hr => (k.block i (Nat.lt_of_lt_of_le hi h.size) (by simp; omega)).trans (h.block i hi hr)⟩
theorem own_b {w w' : World} {base e sz n : Nat} {v : Value} {xs : List Value} (h : w.ownsRow base e sz v n xs) (hb : Below w.heap.size w w') : w'.ownsRow base e sz v n xs := h.kept (grown_below hb none) (by cases hv : v.ownBlock <;> simp)
theorem wpList_push {P : Program} {ops : Array Oper} {rest : List Oper} {o : Oper} {a : Act} {w : World} {Q : Exit → Act → World → Prop} (hgd : o.guard = none) (s x : Operand) (t : TypeId)
  (ho : o.op = .call { callee := .builtin .append, args := #[s, x], argTypes := #[t, t] }) (base e size bytes : Nat) (z : Value) (ht : P.underlying t = some (.slice e))
  (hinfo : (P.info? e).map (fun i => (i.zero, i.size, i.bytes)) = some (some z, size, bytes)) (hzs : z.cells.size = size) (hsz : 0 < size)
  (v : Value) (n : Nat) (xs : List Value) (hs : a.eval s = v) (hown : w.ownsRow base e size v n xs) (B m c : Nat) (cs : List Value) (T : TypeId)
  (hx : a.eval x = .slice (some ⟨B, 0, none⟩) m c) (hl : cs.length = m * size) (hb : w.heap[B]? = some (.cells cs.toArray T (0, 0))) (h1 : ∀ u ∈ cs, u.oneCell' = true) (hm : 0 < m)
  (h63 : n + m ≤ maxLen) (hbytes : (n + m) * bytes ≤ 140737488355328) (hbase : base ≤ w.heap.size) (H : Nat) (hH : w.heap.size = H)
  (h : ∀ g cap w', w'.ownsRow base e size (.slice (some ⟨g, 0, none⟩) (n + m) cap) (n + m) (xs ++ cs) → w.grownBy w' v.ownBlock → (v.ownBlock = some g ∨ g = H) → g < w'.heap.size → wpList P ops Q rest (a.put o.dst (.slice (some ⟨g, 0, none⟩) (n + m) cap)) w') : wpList P ops Q (o :: rest) a w := by
 obtain ⟨i, hi, hz, h2, h3⟩ := info_parts hinfo
 exact wpList_append_lies w hgd s x t ho base e i z size bytes ht hi hz h2 h3 hzs hsz v n xs hs hown ⟨B, 0, none⟩ m c cs hx hl (by simpa using World.news_of_block hb) h1 hm h63 hbytes hbase H hH h
theorem wpList_push1 {P : Program} {ops : Array Oper} {rest : List Oper} {o : Oper} {a : Act} {w : World} {Q : Exit → Act → World → Prop} (hgd : o.guard = none) (s x : Operand) (t : TypeId)
  (ho : o.op = .call { callee := .builtin .append, args := #[s, x], argTypes := #[t, t] }) (base e bytes : Nat) (ht : P.underlying t = some (.slice e)) (k : IntKind)
  (hinfo : (P.info? e).map (fun i => (i.zero, i.size, i.bytes)) = some (some (.int k 0), 1, bytes)) (A : Option Addr) (n c : Nat) (l : List Int) (hs : a.eval s = .slice A n c) (hown : w.ownsRow base e 1 (.slice A n c) n (l.map (.int k)))
  (T : TypeId) (y : Int) (hx : a.eval x = .slice (some ⟨w.heap.size, 0, none⟩) 1 1) (hn : n ≤ 1000000) (hbytes : bytes ≤ 8) (hbase : base ≤ w.heap.size)
  (h : ∀ g cap w', w'.ownsRow base e 1 (.slice (some ⟨g, 0, none⟩) (n + 1) cap) (n + 1) ((l ++ [y]).map (.int k)) → (w.alloc (.cells #[.int k y] T)).grownBy w' (Value.slice A n c).ownBlock → g < w'.heap.size → wpList P ops Q rest (a.put o.dst (.slice (some ⟨g, 0, none⟩) (n + 1) cap)) w') : wpList P ops Q (o :: rest) a (w.alloc (.cells #[.int k y] T)) := by
 refine wpList_push hgd s x t ho base e 1 bytes (.int k 0) ht hinfo rfl (by omega) (.slice A n c) n (l.map (.int k)) hs (hown.alloc _) w.heap.size 1 1 [.int k y] T hx rfl (heap_alloc_new w _) ?_ (by omega) ?_ ?_ ?_ _ rfl ?_
 ·intro u hu; simp at hu; subst hu; rfl
 ·unfold maxLen; omega
 ·have : (n + 1) * bytes ≤ (n + 1) * 8 := Nat.mul_le_mul_left _ hbytes
  omega
 ·simp; omega
 ·intro g cap w' h1 h2 _ h3
  refine h g cap w' ?_ h2 h3
  rw [List.map_append]
  exact h1
end Go.Proofs.YtoofgblmpjndjaaGreatDoor.Jp
set_option linter.unusedVariables false
set_option linter.unusedSimpArgs false
namespace Go.Proofs.YtoofgblmpjndjaaGreatDoor.Ard

def clampN (v : Int) (top : Nat) : Nat := (min (max v 0) (top : Int)).toNat
theorem clampN_le (v : Int) (top : Nat) : clampN v top ≤ top := by unfold clampN; omega
theorem clampN_in {v : Int} {top : Nat} (h0 : 0 ≤ v) (h1 : v ≤ top) : (clampN v top : Int) = v := by unfold clampN; omega
def atF (W H : Nat) (pix : List Int) (x y : Int) (k : Nat) : Int := pix.getD (4 * (clampN y (H - 1) * W + clampN x (W - 1)) + k) 0
def winF (W H : Nat) (pix : List Int) (x y : Int) (n p k : Nat) : List Int :=
 (List.range (2 * p + 1)).flatMap fun (j : Nat) => (List.range (2 * n + 1)).map fun (i : Nat) => atF W H pix (x - n + i) (y - p + j) k
theorem flat_len (f : Nat → List Int) (c : Nat) (h : ∀ j, (f j).length = c) : ∀ m, ((List.range m).flatMap f).length = m * c := by
 intro m
 induction m with
 | zero => simp
 | succ m ih => rw [List.range_succ, List.flatMap_append, List.length_append, ih]; simp [h, Nat.succ_mul]
theorem winF_len (W H : Nat) (pix : List Int) (x y : Int) (n p k : Nat) : (winF W H pix x y n p k).length = (2 * p + 1) * (2 * n + 1) := flat_len _ _ (fun j => by simp) _
theorem atF_in {W H : Nat} {pix : List Int} {x y : Int} {k : Nat} (hw : ∀ v ∈ pix, 0 ≤ v ∧ v < 65536) : 0 ≤ atF W H pix x y k ∧ atF W H pix x y k < 65536 := by
 unfold atF
 generalize 4 * (clampN y (H - 1) * W + clampN x (W - 1)) + k = q
 rw [List.getD_eq_getElem?_getD]
 cases h : pix[q]? with
 | none => simp
 | some v => exact hw v (List.mem_of_getElem? h)
theorem winF_in {W H : Nat} {pix : List Int} {x y : Int} {n p k : Nat} (hw : ∀ v ∈ pix, 0 ≤ v ∧ v < 65536) : ∀ v ∈ winF W H pix x y n p k, 0 ≤ v ∧ v < 65536 := by
 intro v hv
 unfold winF at hv
 rw [List.mem_flatMap] at hv
 obtain ⟨j, -, hv⟩ := hv
 rw [List.mem_map] at hv
 obtain ⟨i, -, rfl⟩ := hv
 exact atF_in hw
theorem over_prog (v n : Int) (hn : 0 < n) : (if v < v.tdiv n * n then v.tdiv n - 1 else v.tdiv n) = v / n := by
 have h1 := Int.mul_ediv_add_emod v n
 have h2 := Int.emod_nonneg v (Int.ne_of_gt hn)
 have h3 := Int.emod_lt_of_pos v hn
 have hs : n.sign = 1 := Int.sign_eq_one_of_pos hn
 have h4 : v.tdiv n = v / n + (if 0 ≤ v ∨ n ∣ v then 0 else 1) := by rw [Int.tdiv_eq_ediv, hs]
 by_cases h : 0 ≤ v ∨ n ∣ v
 ·rw [if_pos h, Int.add_zero] at h4
  rw [h4, if_neg (by rw [Int.mul_comm]; omega)]
 ·rw [if_neg h] at h4
  have h5 : v % n ≠ 0 := fun e => h (.inr (Int.dvd_of_emod_eq_zero e))
  rw [h4, if_pos (by rw [Int.add_mul, Int.one_mul, Int.mul_comm]; omega)]
  omega
theorem over_ref (v n : Int) (hn : 0 < n) : (if v.tmod n < 0 then v.tdiv n - 1 else v.tdiv n) = v / n := by
 have h := over_prog v n hn
 have h1 := Int.tmod_add_mul_tdiv v n
 rw [Int.mul_comm] at h1
 rw [← h]
 have : (v.tmod n < 0) ↔ (v < v.tdiv n * n) := by omega
 simp only [this]
theorem clamp_eq (v : Int) (top : Nat) : (if v < 0 then 0 else if (top : Int) < v then (top : Int) else v) = (clampN v top : Int) := by unfold clampN; split <;> (try split) <;> omega
def minK (l : List Int) (k : Nat) : Int := (l.take k).foldl min (l.getD 0 0)
def maxK (l : List Int) (k : Nat) : Int := (l.take k).foldl max (l.getD 0 0)
theorem take_one {l : List Int} (h : 0 < l.length) : l.take 1 = [l.getD 0 0] := by
 cases l with
 | nil => simp at h
 | cons a l => simp
theorem minK_one {l : List Int} (h : 0 < l.length) : minK l 1 = l.getD 0 0 := by unfold minK; rw [take_one h]; simp
theorem maxK_one {l : List Int} (h : 0 < l.length) : maxK l 1 = l.getD 0 0 := by unfold maxK; rw [take_one h]; simp
theorem take_more {l : List Int} {k : Nat} {v : Int} (h : l[k]? = some v) : l.take (k + 1) = l.take k ++ [v] := by rw [List.take_add_one, h]; rfl
theorem minK_succ {l : List Int} {k : Nat} {v : Int} (h : l[k]? = some v) : minK l (k + 1) = min (minK l k) v := by unfold minK; rw [take_more h, List.foldl_append]; rfl
theorem maxK_succ {l : List Int} {k : Nat} {v : Int} (h : l[k]? = some v) : maxK l (k + 1) = max (maxK l k) v := by unfold maxK; rw [take_more h, List.foldl_append]; rfl
def sumK (l : List Int) (k : Nat) : Int := (l.take k).sum
theorem sumK_succ {l : List Int} {k : Nat} {v : Int} (h : l[k]? = some v) : sumK l (k + 1) = sumK l k + v := by unfold sumK; rw [take_more h, List.sum_append]; simp
theorem sumK_in {l : List Int} (hw : ∀ v ∈ l, 0 ≤ v ∧ v < 65536) : ∀ k, 0 ≤ sumK l k ∧ sumK l k ≤ 65535 * (k : Int) := by
 intro k
 induction k with
 | zero => simp [sumK]
 | succ k ih =>
  cases h : l[k]? with
  | none =>
   have : sumK l (k + 1) = sumK l k := by
    have := List.getElem?_eq_none_iff.1 h
    unfold sumK; rw [List.take_of_length_le (by omega), List.take_of_length_le (by omega)]
   rw [this]; push_cast; omega
  | some v =>
   rw [sumK_succ h]
   have := hw v (List.mem_of_getElem? h)
   push_cast; omega
end Go.Proofs.YtoofgblmpjndjaaGreatDoor.Ard
set_option linter.unusedVariables false
set_option linter.unusedSimpArgs false
namespace Go.Proofs.YtoofgblmpjndjaaGreatDoor.Ard
open Go.RowKit K

theorem one_any {A : Option Addr} {n c : Nat} (w : World) : Calls Tryz.prog 214 #[.slice A n c] w fun e w' => e = .returned (.tuple #[.int .i64 1, .int .i64 1]) ∧ w = w' := by
 go_enter Tryz.func214, Tryz.ntmps214
 go_wp2
 go_ret2
 exact ⟨rfl, rfl⟩
theorem flat_any {A : Option Addr} {n c : Nat} {l : List Int} (w : World) (HA : SI w .i64 A n l) (h0 : 0 < n) : Calls Tryz.prog 231 #[.slice A n c] w fun e w' => e = .returned (.tuple #[.int .i64 (l.getD 0 0), .int .i64 0]) ∧ w = w' := by
 obtain ⟨b, off, x, rfl, hc, hx, -⟩ := HA.cells (i := 0) h0
 have hi : (0 : Int) < (n : Int) := by omega
 rw [Nat.add_zero] at hc
 have e0 : l.getD 0 0 = x := by rw [List.getD_eq_getElem?_getD, hx.out]; rfl
 rw [e0]
 clear hx
 go_enter Tryz.func231, Tryz.ntmps231
 go_wp2
 go_ret2
 exact ⟨rfl, rfl⟩
theorem sum_any {A : Option Addr} {n c : Nat} {l : List Int} (w : World) (HA : SI w .i64 A n l) (hw : ∀ v ∈ l, 0 ≤ v ∧ v < 65536) (hn : n ≤ 4096) : Calls Tryz.prog 220 #[.slice A n c] w fun e w' => e = .returned (.int .i64 (sumK l n)) ∧ w = w' := by
 have hbig := HA.big
 have HB := Lib.hid (sumK_in hw)
 clear hw
 go_enter Tryz.func220, Tryz.ntmps220
 go_wp2
 go_loop [3, 5, 8] (fun s _ i => ∃ k : Nat, k ≤ n ∧ i = .int .i64 k ∧ s = .int .i64 (sumK l k)) (fun _ _ i => n - (intOf i).toNat)
 case atStart => exact ⟨0, Nat.zero_le _, rfl, by simp [sumK]⟩
 case round =>
  obtain ⟨k, hk, rfl, rfl⟩ := hrel
  by_cases hlt : k < n
  ·obtain ⟨b, off, x, rfl, hc, hx, hx2⟩ := HA.cells hlt
   have hlt' : (k : Int) < n := by omega
   have h1 := HB.out k
   have h2 := HB.out (k + 1)
   rw [sumK_succ hx.out] at h2
   have HS := Lib.hid (sumK_succ hx.out)
   have hwr : wrap64 (sumK l k + x) = sumK l k + x := IntWalk.wrap64_in _ (by push_cast at h2; omega)
   clear h1 h2
   go_wp2
   go_round
   case rel => exact ⟨k + 1, by omega, by go_num, by rw [HS.out, hwr]⟩
   case measure => simp [intOf]; omega
  ·obtain rfl : k = n := by omega
   go_wp2
   go_ret
   exact ⟨rfl, rfl⟩
def absF (v : Int) : Int := max v (-v)
theorem abs_any {v : Int} (w : World) (h : -9000000000 ≤ v ∧ v ≤ 9000000000) : Calls Tryz.prog 222 #[.int .i64 v] w fun e w' => e = .returned (.int .i64 (absF v)) ∧ w = w' := by
 have hw : wrap64 (-v) = -v := IntWalk.wrap64_in _ (by omega)
 have e0 : absF v = max v (-v) := rfl
 rw [e0]
 go_enter Tryz.func222, Tryz.ntmps222
 go_wp2
 ·have e1 : max v (-v) = -v := Int.max_eq_right (by omega)
  rw [e1]
  go_ret
  exact ⟨rfl, rfl⟩
 ·have e1 : max v (-v) = v := Int.max_eq_left (by omega)
  rw [e1]
  go_ret
  exact ⟨rfl, rfl⟩
theorem tdiv_in {v n : Int} (hn : 0 < n ∧ n ≤ 65535) (hv : -9000000000000 ≤ v ∧ v ≤ 9000000000000) : -9000000000001 ≤ v.tdiv n ∧ v.tdiv n ≤ 9000000000001 := by
 have h3 := Int.tdiv_eq_ediv (a := v) (b := n)
 have hs : n.sign = 1 := Int.sign_eq_one_of_pos hn.1
 rw [hs] at h3
 have h4 : v / n ≤ 9000000000000 := by
  have := Int.ediv_le_ediv (c := n) hn.1 hv.2
  have : (9000000000000 : Int) / n ≤ 9000000000000 := Int.ediv_le_self _ (by omega)
  omega
 have h5 : -9000000000000 ≤ v / n := by
  have := Int.ediv_le_ediv (c := n) hn.1 hv.1
  have h6 : -9000000000000 ≤ (-9000000000000 : Int) / n := by
   rw [Int.le_ediv_iff_mul_le hn.1]
   have : (1 : Int) ≤ n := by omega
   omega
  omega
 split at h3 <;> omega
theorem over_any {v n : Int} (w : World) (hn : 0 < n ∧ n ≤ 65535) (hv : -9000000000000 ≤ v ∧ v ≤ 9000000000000) : Calls Tryz.prog 216 #[.int .i64 v, .int .i64 n] w fun e w' => e = .returned (.int .i64 (v / n)) ∧ w = w' := by
 have HE := Lib.hid (over_prog v n hn.1)
 have h1 := Int.mul_tdiv_add_tmod v n
 have h2 : -n < v.tmod n ∧ v.tmod n < n := by
  have := Int.tmod_lt_of_pos v hn.1
  have := Int.lt_tmod_of_pos v hn.1
  omega
 rw [Int.mul_comm] at h1
 have hn0 : n ≠ 0 := by omega
 have hw0 := tdiv_in hn hv
 have w1 : wrap64 (v.tdiv n) = v.tdiv n := IntWalk.wrap64_in _ (by omega)
 have w2 : wrap64 (v.tdiv n * n) = v.tdiv n * n := IntWalk.wrap64_in _ (by omega)
 have w3 : wrap64 (v.tdiv n - 1) = v.tdiv n - 1 := IntWalk.wrap64_in _ (by omega)
 clear h1 h2 hw0
 by_cases h : v < v.tdiv n * n
 ·have he := HE.out
  rw [if_pos h] at he
  rw [← he]
  have d : decide (v < v.tdiv n * n) = true := decide_eq_true h
  clear he h
  go_enter Tryz.func216, Tryz.ntmps216
  go_wp2
  go_ret
  refine ⟨?_, rfl⟩
  show Ending.returned (Value.int .i64 (wrap64 (v.tdiv n - 1))) = _
  rw [w3]
 ·have he := HE.out
  rw [if_neg h] at he
  rw [← he]
  have d : decide (v < v.tdiv n * n) = false := decide_eq_false h
  clear he h
  go_enter Tryz.func216, Tryz.ntmps216
  go_wp2
  go_ret
  exact ⟨rfl, rfl⟩
end Go.Proofs.YtoofgblmpjndjaaGreatDoor.Ard
