/- The abstract machine, part 11: typed values, states in one form, contracts out of bodies. Conditions: none. -/
import Derived.Test.YtpbjbnghcbcdiaaDoorAm10
set_option linter.unusedVariables false
namespace Go.Proofs.YtpbjbnghcbcdiaaDoor.AM
open Go

variable {P : Program} {C : Ctx} {ops : Array Oper} {σ : St} {w w' : World} {h : Heap} {β β' : Blk}

abbrev I (n : Int) : AV := .c (.int .i64 n)
abbrev U8 (x : UInt8) : AV := .c (.int .u8 (x.toNat : Int))
abbrev U16 (x : UInt16) : AV := .c (.int .u16 (x.toNat : Int))
abbrev U32 (x : UInt32) : AV := .c (.int .u32 (x.toNat : Int))
abbrev Bo (b : Bool) : AV := .c (.bool b)
abbrev Sr (bs : List UInt8) : AV := .c (.string ⟨bs.toArray⟩)
abbrev nilS : AV := .c (.slice none 0 0)
abbrev nilE : AV := .c .nilIface
abbrev eB (b : UInt8) : List AV := [U8 b]

theorem kI {t : Nat → AV} {n : Int} : OpV t (.const (.int .i64 n)) (I n) := .const _
theorem k8 {t : Nat → AV} {n : Int} (x : UInt8) (h : n = (x.toNat : Int) := by rfl) : OpV t (.const (.int .u8 n)) (U8 x) := h ▸ .const _
theorem k16 {t : Nat → AV} {n : Int} (x : UInt16) (h : n = (x.toNat : Int) := by rfl) : OpV t (.const (.int .u16 n)) (U16 x) := h ▸ .const _
theorem k32 {t : Nat → AV} {n : Int} (x : UInt32) (h : n = (x.toNat : Int) := by rfl) : OpV t (.const (.int .u32 n)) (U32 x) := h ▸ .const _

/-! ### sums, by kind -/
theorem wrap_u8 (n : Int) : IntKind.wrap .u8 n = n % 256 := by simp [IntKind.wrap, IntKind.signed, IntKind.bits]
theorem wrap_u16 (n : Int) : IntKind.wrap .u16 n = n % 65536 := by simp [IntKind.wrap, IntKind.signed, IntKind.bits]
theorem wrap_u32 (n : Int) : IntKind.wrap .u32 n = n % 4294967296 := by simp [IntKind.wrap, IntKind.signed, IntKind.bits]
theorem wrap_i64 {n : Int} (h : -9223372036854775808 ≤ n ∧ n < 9223372036854775808) : IntKind.wrap .i64 n = n := by
  have e : IntKind.wrap .i64 n = if n % 18446744073709551616 ≥ 9223372036854775808 then n % 18446744073709551616 - 18446744073709551616 else n % 18446744073709551616 := by
    unfold IntKind.wrap
    simp [IntKind.signed, IntKind.bits]
  rw [e]
  split <;> omega
theorem bvA (n a b : Nat) : (BitVec.ofInt n (a : Int) &&& BitVec.ofInt n (b : Int)).toNat = (a % 2 ^ n) &&& (b % 2 ^ n) := by
  rw [BitVec.toNat_and, BitVec.toNat_ofInt, BitVec.toNat_ofInt, ← Int.natCast_emod, ← Int.natCast_emod]; rfl
theorem bvX (n a b : Nat) : (BitVec.ofInt n (a : Int) ^^^ BitVec.ofInt n (b : Int)).toNat = (a % 2 ^ n) ^^^ (b % 2 ^ n) := by
  rw [BitVec.toNat_xor, BitVec.toNat_ofInt, BitVec.toNat_ofInt, ← Int.natCast_emod, ← Int.natCast_emod]; rfl
theorem ai_add {m n : Int} (h : -9223372036854775808 ≤ m + n ∧ m + n < 9223372036854775808) : ari .add .i64 m n = some (m + n) := by simp [ari, wrap_i64 h]
theorem ai_sub {m n : Int} (h : -9223372036854775808 ≤ m - n ∧ m - n < 9223372036854775808) : ari .sub .i64 m n = some (m - n) := by simp [ari, wrap_i64 h]
theorem ai_mul {m n : Int} (h : -9223372036854775808 ≤ m * n ∧ m * n < 9223372036854775808) : ari .mul .i64 m n = some (m * n) := by simp [ari, wrap_i64 h]
theorem ai_quo {m n : Int} (h : 0 < n) (h2 : 0 ≤ m) (h3 : m < 9223372036854775808) : ari .quo .i64 m n = some (m / n) := by
  have : m / n ≤ m := Int.ediv_le_self _ h2
  have h0 : 0 ≤ m / n := Int.ediv_nonneg h2 (by omega)
  simp only [ari]
  rw [if_neg (by omega), Int.tdiv_eq_ediv_of_nonneg h2, wrap_i64 (by omega)]
theorem ai_rem {m n : Int} (h : 0 < n) (h2 : 0 ≤ m) : ari .rem .i64 m n = some (m % n) := by
  simp only [ari]
  rw [if_neg (by omega), Int.tmod_eq_emod_of_nonneg h2]
theorem a32_add {a b : UInt32} : ari .add .u32 a.toNat b.toNat = some ((a + b).toNat : Int) := by simp only [ari, wrap_u32, UInt32.toNat_add, Option.some.injEq]; omega
theorem a32_sub {a b : UInt32} : ari .sub .u32 a.toNat b.toNat = some ((a - b).toNat : Int) := by
  simp only [ari, wrap_u32, UInt32.toNat_sub, Option.some.injEq]; have := a.toNat_lt; have := b.toNat_lt; omega
theorem a32_mul {a b : UInt32} : ari .mul .u32 a.toNat b.toNat = some ((a * b).toNat : Int) := by simp only [ari, wrap_u32, UInt32.toNat_mul, Option.some.injEq, Int.natCast_emod, Int.natCast_mul]; rfl
theorem a32_quo {a b : UInt32} (h : b ≠ 0 := by decide) : ari .quo .u32 a.toNat b.toNat = some ((a / b).toNat : Int) := by
  have hb : b.toNat ≠ 0 := fun e => h (UInt32.toNat_inj.1 (by simpa using e))
  have := a.toNat_lt
  have h1 : a.toNat / b.toNat ≤ a.toNat := Nat.div_le_self _ _
  simp only [ari, wrap_u32]
  rw [if_neg (by omega), Int.tdiv_eq_ediv_of_nonneg (by omega)]
  simp only [UInt32.toNat_div, Option.some.injEq]
  rw [← Int.natCast_ediv]
  generalize a.toNat / b.toNat = q at h1 ⊢
  omega
theorem a32_rem {a b : UInt32} (h : b ≠ 0 := by decide) : ari .rem .u32 a.toNat b.toNat = some ((a % b).toNat : Int) := by
  have hb : b.toNat ≠ 0 := fun e => h (UInt32.toNat_inj.1 (by simpa using e))
  simp only [ari]
  rw [if_neg (by omega), Int.tmod_eq_emod_of_nonneg (by omega)]
  simp only [UInt32.toNat_mod, Int.natCast_emod]
theorem a32_and {a b : UInt32} : ari .and .u32 a.toNat b.toNat = some ((a &&& b).toNat : Int) := by
  have h1 := a.toNat_lt
  have h2 := b.toNat_lt
  have h3 : a.toNat &&& b.toNat ≤ a.toNat := Nat.and_le_left
  simp only [ari]
  rw [bvA, wrap_u32, show IntKind.bits .u32 = 32 from rfl, Nat.mod_eq_of_lt h1, Nat.mod_eq_of_lt h2, UInt32.toNat_and, Option.some.injEq]; omega
theorem a32_xor {a b : UInt32} : ari .xor .u32 a.toNat b.toNat = some ((a ^^^ b).toNat : Int) := by
  have h1 := a.toNat_lt
  have h2 := b.toNat_lt
  have h3 : a.toNat ^^^ b.toNat < 2 ^ 32 := Nat.xor_lt_two_pow (by omega) (by omega)
  simp only [ari]
  rw [bvX, wrap_u32, show IntKind.bits .u32 = 32 from rfl, Nat.mod_eq_of_lt h1, Nat.mod_eq_of_lt h2, UInt32.toNat_xor, Option.some.injEq]; omega
theorem a8_xor {a b : UInt8} : ari .xor .u8 a.toNat b.toNat = some ((a ^^^ b).toNat : Int) := by
  have h1 := a.toNat_lt
  have h2 := b.toNat_lt
  have h3 : a.toNat ^^^ b.toNat < 2 ^ 8 := Nat.xor_lt_two_pow (by omega) (by omega)
  simp only [ari]
  rw [bvX, wrap_u8, show IntKind.bits .u8 = 8 from rfl, Nat.mod_eq_of_lt h1, Nat.mod_eq_of_lt h2, UInt8.toNat_xor, Option.some.injEq]; omega
theorem a8_and {a b : UInt8} : ari .and .u8 a.toNat b.toNat = some ((a &&& b).toNat : Int) := by
  have h1 := a.toNat_lt
  have h2 := b.toNat_lt
  have h3 : a.toNat &&& b.toNat ≤ a.toNat := Nat.and_le_left
  simp only [ari]
  rw [bvA, wrap_u8, show IntKind.bits .u8 = 8 from rfl, Nat.mod_eq_of_lt h1, Nat.mod_eq_of_lt h2, UInt8.toNat_and, Option.some.injEq]; omega
theorem a8_add {a b : UInt8} : ari .add .u8 a.toNat b.toNat = some ((a + b).toNat : Int) := by simp only [ari, wrap_u8, UInt8.toNat_add, Option.some.injEq]; omega
theorem a8_sub {a b : UInt8} : ari .sub .u8 a.toNat b.toNat = some ((a - b).toNat : Int) := by
  simp only [ari, wrap_u8, UInt8.toNat_sub, Option.some.injEq]; have := a.toNat_lt; have := b.toNat_lt; omega
theorem a8_quo {a b : UInt8} (h : b ≠ 0 := by decide) : ari .quo .u8 a.toNat b.toNat = some ((a / b).toNat : Int) := by
  have hb : b.toNat ≠ 0 := fun e => h (UInt8.toNat_inj.1 (by simpa using e))
  have := a.toNat_lt
  have h1 : a.toNat / b.toNat ≤ a.toNat := Nat.div_le_self _ _
  simp only [ari, wrap_u8]
  rw [if_neg (by omega), Int.tdiv_eq_ediv_of_nonneg (by omega)]
  simp only [UInt8.toNat_div, Option.some.injEq]
  rw [← Int.natCast_ediv]
  generalize a.toNat / b.toNat = q at h1 ⊢
  omega
theorem a8_rem {a b : UInt8} (h : b ≠ 0 := by decide) : ari .rem .u8 a.toNat b.toNat = some ((a % b).toNat : Int) := by
  have hb : b.toNat ≠ 0 := fun e => h (UInt8.toNat_inj.1 (by simpa using e))
  simp only [ari]
  rw [if_neg (by omega), Int.tmod_eq_emod_of_nonneg (by omega)]
  simp only [UInt8.toNat_mod, Int.natCast_emod]

/-- a number that is moved right, left -/
theorem s_shr32 {d : Nat} {ty : TypeId} {pos : String} {af : Array Edge} {x y : Operand} {k' : IntKind} {a : UInt32} {n : Int} {T U : TypeId} (m : UInt32) (hd : d < C.n) (hx : OpV σ.t x (U32 a)) (hy : OpV σ.t y (.c (.int k' n))) (h0 : n = (m.toNat : Int) := by rfl) (h1 : m.toNat < 32 := by decide) :
    Step P C ops ⟨some d, .binOp .shr T x y U, ty, pos, af, none⟩ σ ⟨oprs x (U32 a) ++ oprs y (.c (.int k' n)), [], some d, U32 (a >>> m), []⟩ := by
  refine s_shift hd hx hy (by omega) ?_
  subst h0
  simp only [Int.toNat_natCast, IntKind.bits, Option.some.injEq]
  rw [Nat.min_eq_left (by omega), Int.fdiv_eq_ediv_of_nonneg _ (by exact_mod_cast Nat.zero_le _), UInt32.toNat_shiftRight, Nat.shiftRight_eq_div_pow, Nat.mod_eq_of_lt h1]
  simp
theorem s_shrI {d : Nat} {ty : TypeId} {pos : String} {af : Array Edge} {x y : Operand} {k' : IntKind} {a n : Int} {T U : TypeId} (m : Nat) (hd : d < C.n) (hx : OpV σ.t x (I a)) (hy : OpV σ.t y (.c (.int k' n))) (h0 : n = (m : Int) := by rfl) (h1 : m < 64 := by decide) :
    Step P C ops ⟨some d, .binOp .shr T x y U, ty, pos, af, none⟩ σ ⟨oprs x (I a) ++ oprs y (.c (.int k' n)), [], some d, I (a / ((2 ^ m : Nat) : Int)), []⟩ := by
  refine s_shift hd hx hy (by omega) ?_
  subst h0
  simp only [Int.toNat_natCast, IntKind.bits, Option.some.injEq]
  rw [Nat.min_eq_left (by omega), Int.fdiv_eq_ediv_of_nonneg _ (by exact_mod_cast Nat.zero_le _)]
  norm_cast
theorem s_shlI {d : Nat} {ty : TypeId} {pos : String} {af : Array Edge} {x y : Operand} {k' : IntKind} {a n : Int} {T U : TypeId} (m : Nat) (hd : d < C.n) (hx : OpV σ.t x (I a)) (hy : OpV σ.t y (.c (.int k' n))) (h0 : n = (m : Int) := by rfl) (h1 : m < 64 := by decide) (h2 : 0 ≤ a := by omega) (h3 : a * ((2 ^ m : Nat) : Int) < 9223372036854775808 := by omega) :
    Step P C ops ⟨some d, .binOp .shl T x y U, ty, pos, af, none⟩ σ ⟨oprs x (I a) ++ oprs y (.c (.int k' n)), [], some d, I (a * ((2 ^ m : Nat) : Int)), []⟩ := by
  refine s_shift hd hx hy (by omega) ?_
  subst h0
  simp only [Int.toNat_natCast, Option.some.injEq]
  rw [Nat.min_eq_left (by simp only [IntKind.bits]; omega)]
  have : (0 : Int) ≤ a * ((2 ^ m : Nat) : Int) := Int.mul_nonneg h2 (by exact_mod_cast Nat.zero_le _)
  rw [show (2 : Int) ^ m = ((2 ^ m : Nat) : Int) from by norm_cast]
  exact wrap_i64 ⟨by omega, h3⟩
theorem s_not32 {d : Nat} {ty : TypeId} {pos : String} {af : Array Edge} {x : Operand} {a : UInt32} {T : TypeId} (hd : d < C.n) (hx : OpV σ.t x (U32 a)) :
    Step P C ops ⟨some d, .unOp .xor T x, ty, pos, af, none⟩ σ ⟨oprs x (U32 a), [], some d, U32 (a ^^^ 4294967295), []⟩ := by
  refine s_xor1 hd hx (fun w => ?_)
  have h5 : ari .xor .u32 ((4294967295 : UInt32).toNat) a.toNat = some (((4294967295 : UInt32) ^^^ a).toNat : Int) := a32_xor
  rw [UInt32.xor_comm]
  simp only [ari, Option.some.injEq] at h5
  simp only [Op.intBits, IntKind.signed, Bool.false_eq_true, if_false, IntKind.max]
  rw [← h5]
  rfl

theorem s_lenA {d : Nat} {ty : TypeId} {pos : String} {af : Array Edge} {x : Operand} {α : Type} {f : α → List AV} {xs : List α} {T E : TypeId} (hd : d < C.n) (hx : OpV σ.t x (.sl (xs.map f))) (ht : P.underlying T = some (.slice E)) :
    Step P C ops ⟨some d, .call { callee := .builtin .len, args := #[x], argTypes := #[T] }, ty, pos, af, none⟩ σ ⟨oprs x (.sl (xs.map f)), [], some d, I xs.length, []⟩ := by
  have := s_len (P := P) (C := C) (ops := ops) (ty := ty) (pos := pos) (af := af) hd hx (.sl _) ht
  rwa [List.length_map] at this
theorem s_indexA {d : Nat} {ty : TypeId} {pos : String} {af : Array Edge} {x y : Operand} {α : Type} {f : α → List AV} {xs : List α} {e : α} {T E : TypeId} {agg : Bool} {sz : Nat} {z : Value} {bytes : Nat} {i : Nat} {n : Int} {k : IntKind} (he : xs[i]? = some e) (hd : d < C.n) (hx : OpV σ.t x (.sl (xs.map f))) (hy : OpV σ.t y (.c (.int k n))) (ht : P.underlying T = some (.slice E)) (hE : TI P E agg sz z bytes)
    (hn : n = (i : Int)) (hz : (f e).length = sz) :
    Step P C ops ⟨some d, .indexAddr T x y, ty, pos, af, none⟩ σ ⟨oprs x (.sl (xs.map f)) ++ oprs y (.c (.int k n)), [], some d, .ip (f e), []⟩ :=
  s_index hd hx hy ht hE hn (by rw [List.getElem?_map, he]; rfl) hz

/-! ### looks -/
theorem ci_lt {m n : Int} : cmpB .lss m n = some (decide (m < n)) := rfl
theorem ci_le {m n : Int} : cmpB .leq m n = some (decide (m ≤ n)) := rfl
theorem ci_gt {m n : Int} : cmpB .gtr m n = some (decide (n < m)) := rfl
theorem ci_ge {m n : Int} : cmpB .geq m n = some (decide (n ≤ m)) := rfl
theorem ci_eq {m n : Int} : cmpB .eql m n = some (decide (m = n)) := rfl
theorem ci_ne {m n : Int} : cmpB .neq m n = some (!decide (m = n)) := rfl
theorem c32_lt {m n : UInt32} : cmpB .lss m.toNat n.toNat = some (decide (m < n)) := by simp [cmpB, UInt32.lt_iff_toNat_lt]
theorem c32_le {m n : UInt32} : cmpB .leq m.toNat n.toNat = some (decide (m ≤ n)) := by simp [cmpB, UInt32.le_iff_toNat_le]
theorem c32_gt {m n : UInt32} : cmpB .gtr m.toNat n.toNat = some (decide (n < m)) := by simp [cmpB, UInt32.lt_iff_toNat_lt]
theorem c32_ge {m n : UInt32} : cmpB .geq m.toNat n.toNat = some (decide (n ≤ m)) := by simp [cmpB, UInt32.le_iff_toNat_le]
theorem c32_eq {m n : UInt32} : cmpB .eql m.toNat n.toNat = some (decide (m = n)) := by rw [ci_eq]; congr 1; simp only [← UInt32.toNat_inj, Int.natCast_inj]
theorem c32_ne {m n : UInt32} : cmpB .neq m.toNat n.toNat = some (!decide (m = n)) := by rw [ci_ne]; congr 2; simp only [← UInt32.toNat_inj, Int.natCast_inj]
theorem c8_lt {m n : UInt8} : cmpB .lss m.toNat n.toNat = some (decide (m < n)) := by simp [cmpB, UInt8.lt_iff_toNat_lt]
theorem c8_le {m n : UInt8} : cmpB .leq m.toNat n.toNat = some (decide (m ≤ n)) := by simp [cmpB, UInt8.le_iff_toNat_le]
theorem c8_gt {m n : UInt8} : cmpB .gtr m.toNat n.toNat = some (decide (n < m)) := by simp [cmpB, UInt8.lt_iff_toNat_lt]
theorem c8_ge {m n : UInt8} : cmpB .geq m.toNat n.toNat = some (decide (n ≤ m)) := by simp [cmpB, UInt8.le_iff_toNat_le]
theorem c8_eq {m n : UInt8} : cmpB .eql m.toNat n.toNat = some (decide (m = n)) := by rw [ci_eq]; congr 1; simp only [← UInt8.toNat_inj, Int.natCast_inj]
theorem c8_ne {m n : UInt8} : cmpB .neq m.toNat n.toNat = some (!decide (m = n)) := by rw [ci_ne]; congr 2; simp only [← UInt8.toNat_inj, Int.natCast_inj]

/-! ### turned from kind to kind -/
theorem v_i_8 {m : Int} : IntKind.wrap .u8 m = ((UInt8.ofInt m).toNat : Int) := by rw [wrap_u8]; simp only [UInt8.ofInt, UInt8.toNat_ofNat']; omega
theorem v_i_32 {m : Int} : IntKind.wrap .u32 m = ((UInt32.ofInt m).toNat : Int) := by rw [wrap_u32]; simp only [UInt32.ofInt, UInt32.toNat_ofNat']; omega
theorem v_32_8 {a : UInt32} : IntKind.wrap .u8 a.toNat = (a.toUInt8.toNat : Int) := by rw [wrap_u8]; simp
theorem v_8_32 {a : UInt8} : IntKind.wrap .u32 a.toNat = (a.toUInt32.toNat : Int) := by rw [wrap_u32]; have := a.toNat_lt; simp; omega
theorem v_8_i {a : UInt8} : IntKind.wrap .i64 a.toNat = (a.toNat : Int) := wrap_i64 (by have := a.toNat_lt; omega)
theorem v_16_i {a : UInt16} : IntKind.wrap .i64 a.toNat = (a.toNat : Int) := wrap_i64 (by have := a.toNat_lt; omega)
theorem v_32_i {a : UInt32} : IntKind.wrap .i64 a.toNat = (a.toNat : Int) := wrap_i64 (by have := a.toNat_lt; omega)
theorem v_i_i {m : Int} (h : -9223372036854775808 ≤ m ∧ m < 9223372036854775808) : IntKind.wrap .i64 m = m := wrap_i64 h

/-! ### a state in one form -/
def asc : List (Nat × AV) → Nat → AV
  | [], _ => .junk
  | p :: l, i => if i = p.1 then p.2 else asc l i
def AllEq (t : Nat → AV) : List (Nat × AV) → Prop
  | [] => True
  | p :: l => t p.1 = p.2 ∧ AllEq t l
theorem asc_sub {t : Nat → AV} : ∀ {L : List (Nat × AV)}, AllEq t L → ∀ i, asc L i = .junk ∨ asc L i = t i
  | [], _, _ => .inl rfl
  | p :: l, hl, i => by
    by_cases hi : i = p.1
    · subst hi; exact .inr (by simp [asc, hl.1])
    · simpa [asc, hi] using asc_sub hl.2 i
theorem Sim.sub {t t' : Nat → AV} {a : Act} (S : Sim C ⟨t, h⟩ a w β) (hs : ∀ i, t' i = .junk ∨ t' i = t i) : Sim C ⟨t', h⟩ a w β :=
  ⟨S.n, S.d, fun i => by
    rcases hs i with e | e
    · show RepV w C.X h β _ (t' i); rw [e]; exact .junk _
    · show RepV w C.X h β _ (t' i); rw [e]; exact S.t i, S.hp, S.fr, S.keep, S.ex⟩
theorem W_sub {c : Code} {Q : Exit → St → Prop} {L : List (Nat × AV)} (hL : AllEq σ.t L) (k : W P C c Q ⟨asc L, σ.h⟩) : W P C c Q σ := fun a w β S => k a w β (S.sub (asc_sub hL))

/-- a region, and what is kept behind it -/
theorem W_r {id : Nat} {l : List Oper} {y : Code} {Q : Exit → St → Prop} (R : St → Prop) (hc : ∃ xs σ' L, Chain P C l.toArray l σ xs σ' ∧ R ⟨asc L, σ'.h⟩ ∧ AllEq σ'.t L) (k : ∀ τ, R τ → W P C y Q τ) : W P C (.seq (.region id l.toArray false) y) Q σ := by
  obtain ⟨xs, σ', L, c, hR, hL⟩ := hc
  exact W_seq (W_region c (W_sub hL (k _ hR)))
theorem W_d {id : Nat} {l : List Oper} {y : Code} {Q : Exit → St → Prop} (R : St → Prop) (hm : P.follows .mixedOrders = true) (hb : backOk l.toArray = true) (hc : ∃ xs σ' L, Chain P C l.toArray l σ xs σ' ∧ R ⟨asc L, σ'.h⟩ ∧ drawOk (ancs l.toArray) xs = true ∧ AllEq σ'.t L) (k : ∀ τ, R τ → W P C y Q τ) : W P C (.seq (.region id l.toArray true) y) Q σ := by
  obtain ⟨xs, σ', L, c, hR, hd, hL⟩ := hc
  exact W_seq (W_draw hm hb rfl c hd (W_sub hL (k _ hR)))
theorem W_r1 {id : Nat} {l : List Oper} {Q : Exit → St → Prop} (R : St → Prop) (hc : ∃ xs σ' L, Chain P C l.toArray l σ xs σ' ∧ R ⟨asc L, σ'.h⟩ ∧ AllEq σ'.t L) (k : ∀ τ, R τ → Q .normal τ) : W P C (.region id l.toArray false) Q σ := by
  obtain ⟨xs, σ', L, c, hR, hL⟩ := hc
  exact fun a w β S => W_region c (Q := fun e τ => e = .normal ∧ τ = σ') ⟨rfl, rfl⟩ a w β S |> Code.wp_mono (fun e a' w' ⟨τ, β', ⟨he, hτ⟩, s⟩ => by subst he; subst hτ; exact ⟨_, β', k _ hR, s.sub (asc_sub hL)⟩)
theorem W_d1 {id : Nat} {l : List Oper} {Q : Exit → St → Prop} (R : St → Prop) (hm : P.follows .mixedOrders = true) (hb : backOk l.toArray = true) (hc : ∃ xs σ' L, Chain P C l.toArray l σ xs σ' ∧ R ⟨asc L, σ'.h⟩ ∧ drawOk (ancs l.toArray) xs = true ∧ AllEq σ'.t L) (k : ∀ τ, R τ → Q .normal τ) : W P C (.region id l.toArray true) Q σ := by
  obtain ⟨xs, σ', L, c, hR, hd, hL⟩ := hc
  exact fun a w β S => W_draw hm hb rfl c hd (Q := fun e τ => e = .normal ∧ τ = σ') ⟨rfl, rfl⟩ a w β S |> Code.wp_mono (fun e a' w' ⟨τ, β', ⟨he, hτ⟩, s⟩ => by subst he; subst hτ; exact ⟨_, β', k _ hR, s.sub (asc_sub hL)⟩)
/-- both ways come to this -/
theorem W_join {x y : Code} {Q : Exit → St → Prop} (R : St → Prop) (hx : W P C x (andThen R Q) σ) (k : ∀ τ, R τ → W P C y Q τ) : W P C (.seq x y) Q σ :=
  W_seq (hx.mono fun e τ q => by cases e <;> first | exact k τ q | exact q)

/-! ### a contract out of a body -/
def mkC (n : Nat) (X : Nat → Prop) (w : World) (hX : ∀ k, X k → k < w.heap.size) (hG : Gl X w) : Ctx := ⟨X, fun k => w.heap.size ≤ k, w, n, fun _ h => h, fun k hk hf => absurd (hX k hk) (by omega), H0, B0, hG⟩
def rOf : List AV → AV
  | [a] => a
  | l => .tup l
def Fin (rs : List Nat) (r : List AV) (e : Exit) (σ : St) : Prop := e = .ret ∧ Frz σ.h (fun _ => True) (rs.map σ.t) r
def argL : Nat → List AV → List (Nat × AV)
  | _, [] => []
  | i, a :: l => (i, a) :: argL (i + 1) l
theorem asc_argL : ∀ (l : List AV) (i j : Nat), asc (argL i l) j = if i ≤ j then l.getD (j - i) .junk else .junk
  | [], i, j => by simp [argL, asc]
  | a :: l, i, j => by
    simp only [argL, asc]
    by_cases hj : j = i
    · subst hj; simp
    · rw [if_neg hj, asc_argL l (i + 1) j]
      by_cases hij : i ≤ j
      · rw [if_pos hij, if_pos (by omega), show j - i = (j - (i + 1)) + 1 from by omega]; simp
      · rw [if_neg hij, if_neg (by omega)]
theorem HeapRep.empty {w : World} {X : Nat → Prop} : HeapRep w X H0 B0 := ⟨fun s hl => by simp [H0] at hl, fun s s' b hl => by simp [H0] at hl, fun s b hl => by simp [H0] at hl⟩
theorem mapM_tmps {w : World} {F : ResultVar → Sem Value} {g : Nat → Value} (hF : ∀ t, (F (.tmp t)).run P w = .ok (g t) w) : ∀ (rs : List Nat), ((rs.map ResultVar.tmp).mapM F).run P w = .ok (rs.map g) w
  | [] => rfl
  | r :: rs => by
    simp only [List.map_cons, List.mapM_cons, Sem.run_bind, Sem.run_pure, Result.andThen_ok, mapM_tmps hF rs, hF]
def resV : List Value → Value
  | [v] => v
  | l => .tuple l.toArray
theorem results_tmps {fn : Func} {rs : List Nat} (hr : fn.results = (rs.map ResultVar.tmp).toArray) (tmps : Array Value) (w : World) :
    (results fn tmps).run P w = .ok (resV (rs.map fun t => tmps.getD t undef)) w := by
  unfold results
  rw [hr, List.mapM_toArray, Sem.run_bind, Sem.run_map, mapM_tmps (g := fun t => tmps.getD t undef) (fun t => rfl) rs]
  cases rs with
  | nil => rfl
  | cons r rs => cases rs with
    | nil => rfl
    | cons r' rs => rfl
theorem Fn.intro {f : FuncId} {fn : Func} {c : Code} {args : List AV} {rs : List Nat} {r : List AV} {n : Nat} (hf : P.funcs[f]? = some fn) (hname : (fn.name == "runtime.NumGoroutine") = false) (hb : fn.body = some c) (hr : fn.results = (rs.map ResultVar.tmp).toArray) (hn : fn.ntmps = n) (hsz : args.length ≤ n)
    (hw : ∀ X w hX hG, W P (mkC n X w hX hG) c (Fin rs r) ⟨asc (argL 0 args), H0⟩) : Fn P f args (rOf r) := by
  refine ⟨⟨fn, hf, hname, by rw [hb]; rfl⟩, fun X w vs hG hX hvs hrep => ?_⟩
  refine calls_of_wp hf hb (Code.wp_mono ?_ (hw X w hX hG _ w B0 ⟨?_, rfl, fun i => ?_, HeapRep.empty, fun s b hl => by simp [H0] at hl, Keep.refl _ _, ExB.refl _ _⟩))
  · rintro e a' w' ⟨σ', β', ⟨rfl, hz⟩, S⟩
    refine ⟨S.d, _, results_tmps hr _ _, _, rfl, ?_, S.keep⟩
    have hk : ∀ (i : Nat) (v : Value) (b : AV), (rs.map fun t => a'.tmps.getD t undef)[i]? = some v → r[i]? = some b → RepV w' X H0 B0 v b := by
      intro i v b hv hb'
      obtain ⟨t, ht, rfl⟩ := List.getElem?_map .. ▸ hv |> fun h => (by simpa using h : ∃ t, rs[i]? = some t ∧ a'.tmps.getD t undef = v)
      refine hz.rep (w := w') (X := X) (X' := X) (β := β') S.hp (fun b ho => ho.1) (fun s b hl _ hbb => S.hp.bar s b hl hbb) i _ (σ'.t t) b (by simp [ht]) hb' (S.t t)
    have hlen : rs.length = r.length := by have := hz.length; simpa using this
    match rs, r, hlen, hk with
    | [], [], _, _ => exact .tup _ _ rfl (fun i v a hv => by simp at hv)
    | [t], [a], _, hk => exact hk 0 _ _ rfl rfl
    | t :: t' :: rs, a :: a2 :: r, hl, hk =>
      refine .tup _ _ (by simpa using hl) (fun i v b hv hb' => hk i v b (by simpa using hv) hb')
  · show (vs ++ Array.replicate (fn.ntmps - vs.size) undef).size = n
    simp [hn, hvs]; omega
  · show RepV w X H0 B0 ((vs ++ Array.replicate (fn.ntmps - vs.size) undef).getD i undef) (asc (argL 0 args) i)
    rw [asc_argL, if_pos (Nat.zero_le _), Nat.sub_zero]
    by_cases hi : i < args.length
    · have h1 : (vs ++ Array.replicate (fn.ntmps - vs.size) undef).getD i undef = vs[i]'(by omega) := by simp [Array.getElem?_append_left (show i < vs.size by omega), show i < vs.size by omega]
      rw [h1]
      exact hrep i _ _ (by simp) (by simp [hi])
    · rw [show args.getD i .junk = .junk from by simp [Nat.not_lt.1 hi]]
      exact .junk _
end Go.Proofs.YtpbjbnghcbcdiaaDoor.AM
