/- The abstract machine, part 12: typed rows of one's own, cuts, texts. Conditions: none. -/
import Derived.Test.YtpbjbnghcbcdiaaDoorAm11
set_option linter.unusedVariables false
namespace Go.Proofs.YtpbjbnghcbcdiaaDoor.AM
open Go

variable {P : Program} {C : Ctx} {ops : Array Oper} {σ : St} {w w' : World} {h : Heap} {β β' : Blk}

theorem ch_h {o : Oper} {l : List Oper} {t : Nat → AV} {h : Heap} {σ' : St} {rs rh d v wh xs} (hs : Step P C ops o ⟨t, h⟩ ⟨rs, rh, some d, v, wh⟩) (r : Chain P C ops l ⟨upd t d v, hupds h wh⟩ xs σ') : Chain P C ops (o :: l) ⟨t, h⟩ (⟨rs, rh, some d, v, wh⟩ :: xs) σ' := .cons hs r
theorem ch_s {o : Oper} {l : List Oper} {t : Nat → AV} {h : Heap} {σ' : St} {rs rh v wh xs} (hs : Step P C ops o ⟨t, h⟩ ⟨rs, rh, none, v, wh⟩) (r : Chain P C ops l ⟨t, hupds h wh⟩ xs σ') : Chain P C ops (o :: l) ⟨t, h⟩ (⟨rs, rh, none, v, wh⟩ :: xs) σ' := .cons hs r

theorem ai_or8 {a b : UInt8} : ari .or .i64 ((a.toNat : Int) * 256) (b.toNat : Int) = some ((a.toNat : Int) * 256 + (b.toNat : Int)) := by
  have h1 := a.toNat_lt
  have h2 := b.toNat_lt
  have h4 : (BitVec.ofInt (IntKind.bits .i64) ((a.toNat : Int) * 256) ||| BitVec.ofInt (IntKind.bits .i64) (b.toNat : Int)).toNat = a.toNat * 256 + b.toNat := by
    rw [show ((a.toNat : Int) * 256) = ((a.toNat * 256 : Nat) : Int) from by simp, BitVec.toNat_or, BitVec.toNat_ofInt, BitVec.toNat_ofInt, ← Int.natCast_emod, ← Int.natCast_emod]
    show (a.toNat * 256 % 18446744073709551616) ||| (b.toNat % 18446744073709551616) = _
    rw [Nat.mod_eq_of_lt (by omega), Nat.mod_eq_of_lt (by omega)]
    have := Nat.shiftLeft_add_eq_or_of_lt (i := 8) (b := b.toNat) (by omega) a.toNat
    rw [Nat.shiftLeft_eq] at this
    exact this.symm
  simp only [ari]
  rw [h4, wrap_i64 (by omega)]
  simp
/-- how an element lies in memory -/
structure Enc {α : Type} (f : α → List AV) (sz : Nat) : Prop where
  len : ∀ a, (f a).length = sz
  one : ∀ a, (f a).all oneA = true
  pur : ∀ a, PurL (f a)
theorem Enc.lens {α : Type} {f : α → List AV} {sz : Nat} (E : Enc f sz) (xs : List α) : ∀ e ∈ xs.map f, e.length = sz := fun e he => by obtain ⟨a, _, rfl⟩ := List.mem_map.1 he; exact E.len a
theorem Enc.ones {α : Type} {f : α → List AV} {sz : Nat} (E : Enc f sz) (xs : List α) : ∀ e ∈ xs.map f, e.all oneA = true := fun e he => by obtain ⟨a, _, rfl⟩ := List.mem_map.1 he; exact E.one a
theorem Enc.purs {α : Type} {f : α → List AV} {sz : Nat} (E : Enc f sz) (xs : List α) : ∀ e ∈ xs.map f, PurL e := fun e he => by obtain ⟨a, _, rfl⟩ := List.mem_map.1 he; exact E.pur a
theorem Enc.sl {α : Type} {f : α → List AV} {sz : Nat} (E : Enc f sz) (xs : List α) : Pur (.sl (xs.map f)) := Pur.sl (E.purs xs)
theorem encB : Enc eB 1 := ⟨fun _ => rfl, fun _ => rfl, fun _ => .cons (.c _) .nil⟩

section
variable {d : Nat} {ty : TypeId} {pos : String} {af : Array Edge} {x y : Operand} {av : AV} {α : Type} {f : α → List AV} {T E : TypeId} {agg : Bool} {sz : Nat} {z : Value} {bytes : Nat} {rh2 : List (Site × Box)}

theorem s_bsA (xs : List α) {n : Nat} {B : Box} {l : List (Nat × Operand)} {rs : List (Nat × AV)} (hf : Enc f sz) (hd : d < C.n) (ht : P.underlying T = some (.slice E)) (hE : TI P E agg sz z bytes)
    (hp : Parts σ.t 0 l (xs.map f) rs) (hn : xs.length = n) (hbig : n * sz ≤ 2 ^ 24) (hB : σ.h (.loc d) = B) :
    Step P C ops ⟨some d, .buildSlice T n l.toArray, ty, pos, af, none⟩ σ ⟨rs, [(.loc d, B)], some d, .own (.loc d) (B.ver + 1) xs.length, [(.loc d, ⟨B.ver + 1, true, E, sz, xs.map f⟩)]⟩ := by
  subst hn
  exact s_bslice hd ht hE hp (by simp) (hf.lens xs) hbig hB
theorem s_appA (s : Site) (v : Nat) (xs ys : List α) (hB : σ.h s = ⟨v, true, E, sz, xs.map f⟩) (hf : Enc f sz) (hd : d < C.n) (hx : OpV σ.t x (.own s v xs.length)) (hy : OpV σ.t y av) (hs : SV σ.h av (ys.map f) rh2)
    (ht : P.underlying T = some (.slice E)) (hE : TI P E agg sz z bytes) (hb : (xs.length + ys.length) * bytes ≤ 140737488355328) :
    Step P C ops ⟨some d, .call { callee := .builtin .append, args := #[x, y], argTypes := #[T, T] }, ty, pos, af, none⟩ σ
      ⟨oprs x (.own s v xs.length) ++ oprs y av, (s, ⟨v, true, E, sz, xs.map f⟩) :: (s, ⟨v, true, E, sz, xs.map f⟩) :: rh2, some d, .own s (v + 1 + 1) (xs ++ ys).length, [(s, ⟨v + 1, false, E, sz, []⟩), (s, ⟨v + 1 + 1, true, E, sz, (xs ++ ys).map f⟩)]⟩ := by
  have := s_append (P := P) (C := C) (ops := ops) (σ := σ) (d := d) (ty := ty) (pos := pos) (af := af) (x := x) (y := y) (av := av) (es2 := ys.map f) (rh2 := rh2) (s := s) (s2 := s) (B := ⟨v, true, E, sz, xs.map f⟩) (D := ⟨v, true, E, sz, xs.map f⟩) (n := xs.length) (m := (xs ++ ys).length) (es' := (xs ++ ys).map f) hd hx hy hs ht hE hB rfl rfl rfl (by simp) (hf.lens ys) (hf.ones ys) (by simp) (by rw [List.length_append]; exact hb) hB (by simp [List.take_of_length_le])
  simpa using this
theorem s_appNil (s : Site) (ys : List α) {D : Box} (hD : σ.h s = D) (hf : Enc f sz) (hd : d < C.n) (hx : OpV σ.t x nilS) (hy : OpV σ.t y av) (hs : SV σ.h av (ys.map f) rh2)
    (ht : P.underlying T = some (.slice E)) (hE : TI P E agg sz z bytes) (hb : ys.length * bytes ≤ 140737488355328) :
    Step P C ops ⟨some d, .call { callee := .builtin .append, args := #[x, y], argTypes := #[T, T] }, ty, pos, af, none⟩ σ
      ⟨oprs x nilS ++ oprs y av, (s, D) :: rh2, some d, .own s (D.ver + 1) ys.length, [(s, ⟨D.ver + 1, true, E, sz, ys.map f⟩)]⟩ :=
  s_append_nil hd hx hy hs ht hE (hf.lens ys) (hf.ones ys) (by simp) hb hD
theorem svOwn (s : Site) (v : Nat) (xs : List α) {T' : TypeId} (hB : h s = ⟨v, true, T', sz, xs.map f⟩) : SV h (.own s v xs.length) (xs.map f) [(s, ⟨v, true, T', sz, xs.map f⟩)] :=
  .own (B := ⟨v, true, T', sz, xs.map f⟩) hB rfl (by simp) (by simp [List.take_of_length_le])
theorem s_lenOwn (s : Site) (v : Nat) (xs : List α) {T' : TypeId} {sz' : Nat} (hB : σ.h s = ⟨v, true, T', sz', xs.map f⟩) (hd : d < C.n) (hx : OpV σ.t x (.own s v xs.length)) (ht : P.underlying T = some (.slice E)) :
    Step P C ops ⟨some d, .call { callee := .builtin .len, args := #[x], argTypes := #[T] }, ty, pos, af, none⟩ σ ⟨oprs x (.own s v xs.length), [(s, ⟨v, true, T', sz', xs.map f⟩)], some d, I xs.length, []⟩ := by
  have := s_len (P := P) (C := C) (ops := ops) (ty := ty) (pos := pos) (af := af) hd hx (svOwn s v xs hB) ht
  rwa [List.length_map] at this
theorem s_lenNil (hd : d < C.n) (hx : OpV σ.t x nilS) (ht : P.underlying T = some (.slice E)) :
    Step P C ops ⟨some d, .call { callee := .builtin .len, args := #[x], argTypes := #[T] }, ty, pos, af, none⟩ σ ⟨oprs x nilS, [], some d, I 0, []⟩ := s_len hd hx .nil ht
/-- xs[lo:hi] -/
theorem s_cutA {lo hi : Option Operand} {l u : Nat} {xs : List α} {r1 r2 : List (Nat × AV)} (hf : Enc f sz) (hd : d < C.n) (hx : OpV σ.t x (.sl (xs.map f))) (hlo : Bd σ.t 0 lo l r1) (hhi : Bd σ.t xs.length hi u r2)
    (ht : P.underlying T = some (.slice E)) (hE : TI P E agg sz z bytes) (hlh : l ≤ u) (hh : u ≤ xs.length) :
    Step P C ops ⟨some d, .slice T x lo hi none, ty, pos, af, none⟩ σ ⟨oprs x (.sl (xs.map f)) ++ (r1 ++ r2), [], some d, .sl (((xs.take u).drop l).map f), []⟩ :=
  s_cut hd hx hlo (by rw [List.length_map]; exact hhi) ht hE (hf.lens xs) hlh (by rw [List.length_map]; exact hh) (by simp)
theorem s_cutT {hi : Option Operand} {u : Nat} {xs : List α} {r2 : List (Nat × AV)} (hf : Enc f sz) (hd : d < C.n) (hx : OpV σ.t x (.sl (xs.map f))) (hhi : Bd σ.t xs.length hi u r2)
    (ht : P.underlying T = some (.slice E)) (hE : TI P E agg sz z bytes) (hh : u ≤ xs.length) :
    Step P C ops ⟨some d, .slice T x none hi none, ty, pos, af, none⟩ σ ⟨oprs x (.sl (xs.map f)) ++ ([] ++ r2), [], some d, .sl ((xs.take u).map f), []⟩ :=
  s_cutA (l := 0) hf hd hx .none hhi ht hE (Nat.zero_le _) hh
theorem s_cutD {lo : Option Operand} {l : Nat} {xs : List α} {r1 : List (Nat × AV)} (hf : Enc f sz) (hd : d < C.n) (hx : OpV σ.t x (.sl (xs.map f))) (hlo : Bd σ.t 0 lo l r1)
    (ht : P.underlying T = some (.slice E)) (hE : TI P E agg sz z bytes) (hh : l ≤ xs.length) :
    Step P C ops ⟨some d, .slice T x lo none none, ty, pos, af, none⟩ σ ⟨oprs x (.sl (xs.map f)) ++ (r1 ++ []), [], some d, .sl ((xs.drop l).map f), []⟩ := by
  have := s_cutA (P := P) (C := C) (ops := ops) (ty := ty) (pos := pos) (af := af) (u := xs.length) hf hd hx hlo .none ht hE hh (Nat.le_refl _)
  rwa [List.take_length] at this
end
theorem s_pickT {d : Nat} {ty : TypeId} {pos : String} {af : Array Edge} {c x y : Operand} {av bv : AV} (hd : d < C.n) (hc : OpV σ.t c (Bo true)) (hx : OpV σ.t x av) (hy : OpV σ.t y bv) :
    Step P C ops ⟨some d, .pick c x y, ty, pos, af, none⟩ σ ⟨oprs c (Bo true) ++ (oprs x av ++ oprs y bv), [], some d, av, []⟩ := s_pick hd hc hx hy rfl
theorem s_pickF {d : Nat} {ty : TypeId} {pos : String} {af : Array Edge} {c x y : Operand} {av bv : AV} (hd : d < C.n) (hc : OpV σ.t c (Bo false)) (hx : OpV σ.t x av) (hy : OpV σ.t y bv) :
    Step P C ops ⟨some d, .pick c x y, ty, pos, af, none⟩ σ ⟨oprs c (Bo false) ++ (oprs x av ++ oprs y bv), [], some d, bv, []⟩ := s_pick hd hc hx hy rfl
/-! ### variables -/
section
variable {d : Nat} {ty : TypeId} {pos : String} {af : Array Edge} {x y : Operand} {av bv : AV} {T T' : TypeId} {agg : Bool} {sz sz' : Nat} {z : Value} {bytes : Nat} {es : List (List AV)} {e : List AV} {i off : Nat}
theorem s_loadP (s : Site) (v : Nat) (hB : σ.h s = ⟨v, true, T', sz', es⟩) (hd : d < C.n) (hx : OpV σ.t x (.ptr s v i off)) (he : es[i]? = some e) (hT : TI P T agg sz z bytes) (hl : ldA agg sz (e.drop off) = some bv) :
    Step P C ops ⟨some d, .load T x, ty, pos, af, none⟩ σ ⟨oprs x (.ptr s v i off), [(s, ⟨v, true, T', sz', es⟩)], some d, bv, []⟩ :=
  s_load_ptr (B := ⟨v, true, T', sz', es⟩) hd hx hB rfl he hT hl
theorem s_fieldP (s : Site) (v : Nat) (hB : σ.h s = ⟨v, true, T', sz', es⟩) {f o k off' : Nat} (hd : d < C.n) (hx : OpV σ.t x (.ptr s v i off)) (hf : foff P T f = some (o, k)) (hk : 0 < k) (ho : off + o = off') :
    Step P C ops ⟨some d, .fieldAddr T x f, ty, pos, af, none⟩ σ ⟨oprs x (.ptr s v i off), [(s, ⟨v, true, T', sz', es⟩)], some d, .ptr s v i off', []⟩ :=
  s_field_ptr (ver := 0) (B := ⟨v, true, T', sz', es⟩) hd hx hB rfl hf hk ho
theorem s_nilP (s : Site) (v : Nat) (hB : σ.h s = ⟨v, true, T', sz', es⟩) (hd : d < C.n) (hx : OpV σ.t x (.ptr s v i off)) :
    Step P C ops ⟨some d, .nilCheck x, ty, pos, af, none⟩ σ ⟨oprs x (.ptr s v i off), [(s, ⟨v, true, T', sz', es⟩)], some d, .ptr s v i off, []⟩ :=
  s_nilchk_ptr (B := ⟨v, true, T', sz', es⟩) hd hx hB rfl
theorem s_storeP (s : Site) (v : Nat) (hB : σ.h s = ⟨v, true, T', sz', es⟩) {cs e' : List AV} (hx : OpV σ.t x (.ptr s v i off)) (hy : OpV σ.t y av) (hc : cellsA av = some cs) (h1 : cs.all oneA = true) (hT : TI P T agg sz z bytes) (hz : cs.length = sz)
    (he : es[i]? = some e) (ho : off + sz ≤ e.length) (he' : e.take off ++ cs ++ e.drop (off + sz) = e') :
    Step P C ops ⟨none, .store T x y, ty, pos, af, none⟩ σ ⟨oprs x (.ptr s v i off) ++ oprs y av, [(s, ⟨v, true, T', sz', es⟩)], none, .junk, [(s, ⟨v, true, T', sz', es.set i e'⟩)]⟩ :=
  s_store (B := ⟨v, true, T', sz', es⟩) hx hy hc h1 hT hz hB rfl he ho he'
end
theorem Frz.ownA {ok : Site → Prop} {α : Type} {f : α → List AV} {sz : Nat} (hf : Enc f sz) (s : Site) (v : Nat) (xs : List α) {T' : TypeId} (hs : ok s) (hB : h s = ⟨v, true, T', sz, xs.map f⟩) {r r' : List AV} (hr : Frz h ok r r') : Frz h ok (.own s v xs.length :: r) (.sl (xs.map f) :: r') :=
  .ownP (B := ⟨v, true, T', sz, xs.map f⟩) hs hB rfl (by simp) (by simp [List.take_of_length_le]) (hf.purs xs) hr
theorem Fin.of {rs : List Nat} {r l r' : List AV} (f : Frz σ.h (fun _ => True) l r') (hl : rs.map σ.t = l) (e : r = r') : Fin rs r .ret σ := ⟨rfl, by rw [hl, e]; exact f⟩
end Go.Proofs.YtpbjbnghcbcdiaaDoor.AM
