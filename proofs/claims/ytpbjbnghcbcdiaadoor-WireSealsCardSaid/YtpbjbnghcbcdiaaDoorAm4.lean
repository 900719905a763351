/- The abstract machine, part 4: slices and memory that is read. Conditions: none. -/
import Derived.Test.YtpbjbnghcbcdiaaDoorAm3
import Derived.Laws.Strings
set_option linter.unusedVariables false
namespace Go.Proofs.YtpbjbnghcbcdiaaDoor.AM
open Go

variable {P : Program} {C : Ctx} {ops : Array Oper} {σ : St}

theorem addr_add (b o j : Nat) : (⟨b, o, none⟩ : Addr).add j = ⟨b, o + j, none⟩ := by unfold Addr.add; split <;> simp_all

/-- A value that reads as a slice of these elements. -/
structure Reads (w : World) (X : Nat → Prop) (h : Heap) (β : Blk) (A : Option Addr) (cap : Nat) (es : List (List AV)) (sz b off : Nat) (cell : Nat → Nat → Value) : Prop where
  h1 : es.length ≤ cap
  h2 : es.length ≤ maxLen
  h3 : es ≠ [] → A = some ⟨b, off, none⟩
  h4 : ∀ e ∈ es, e.length = sz
  h5 : ∀ (i j : Nat) (e : List AV) (a : AV), es[i]? = some e → e[j]? = some a → w.cell? ⟨b, off + i * sz + j, none⟩ = some (cell i j)
  h7 : ∀ (i j : Nat) (e : List AV) (a : AV), es[i]? = some e → e[j]? = some a → RepV w X h β (cell i j) a

inductive SV (h : Heap) : AV → List (List AV) → List (Site × Box) → Prop
  | sl (es : List (List AV)) : SV h (.sl es) es []
  | nil : SV h (.c (.slice none 0 0)) [] []
  | own {s : Site} {n : Nat} {B : Box} {es : List (List AV)} (hB : h s = B) (hl : B.live = true) (hn : n ≤ B.es.length) (he : B.es.take n = es) : SV h (.own s B.ver n) es [(s, B)]

theorem SV.facts {h : Heap} {a : AV} {es : List (List AV)} {rh : List (Site × Box)} (v : SV h a es rh) : ∀ p ∈ rh, h p.1 = p.2 := by
  cases v with
  | sl => intro p hp; cases hp
  | nil => intro p hp; cases hp
  | own hB hl hn he => intro p hp; rw [List.mem_singleton.1 hp]; exact hB

theorem SV.reads {h : Heap} {a : AV} {es : List (List AV)} {rh : List (Site × Box)} (v : SV h a es rh) {τ : St} {w : World} {β : Blk} (hf : ∀ p ∈ rh, τ.h p.1 = p.2) (H : HeapRep w C.X τ.h β) {u : Value} (r : RepV w C.X τ.h β u a) :
    ∃ A cap sz b off cell, u = .slice A es.length cap ∧ Reads w C.X τ.h β A cap es sz b off cell := by
  cases v with
  | sl es =>
    cases r with
    | sl A cap es sz b off cell h1 h2 h3 h4 h5 h6 h7 => exact ⟨A, cap, sz, b, off, cell, rfl, h1, h2, h3, h4, h5, h7⟩
  | nil =>
    rw [r.c_inv]
    exact ⟨none, 0, 0, 0, 0, fun _ _ => undef, rfl, Nat.le_refl _, Nat.zero_le _, fun h => absurd rfl h, by simp, by simp, by simp⟩
  | @own s n B es hB hl hn he =>
    have hB' : τ.h s = B := hf (s, B) List.mem_cons_self
    subst hB'
    cases r with
    | own v s ver n h0 h1 h2 =>
      rcases h2 rfl hl with ⟨b, hb, rfl, hcap⟩ | ⟨hb, rfl, rfl⟩
      · rcases H.live s hl with ⟨hb2, _⟩ | ⟨b', cur, hb', hcur, hsz, hml, hle, hes, hrep⟩
        · rw [hb] at hb2; cases hb2
        · obtain rfl : b = b' := by rw [hb] at hb'; exact Option.some.inj hb'
          have hlen : es.length = n := by rw [← he, List.length_take]; omega
          refine ⟨some ⟨b, 0, none⟩, β.cap s, (τ.h s).sz, b, 0, fun i j => cur.getD (i * (τ.h s).sz + j) undef, by rw [hlen], by omega, by omega, fun _ => rfl, fun e hm => hes e (List.mem_of_mem_take (he ▸ hm)), ?_, ?_⟩
          · intro i j e a hi hj
            have hi' : (τ.h s).es[i]? = some e := by
              have hlt := (List.getElem?_eq_some_iff.1 hi).1
              rw [← he, List.getElem?_take] at hi
              split at hi
              · exact hi
              · cases hi
            obtain ⟨u, hu, _⟩ := hrep i j e a hi' hj
            simp [World.cell?, hcur, hu]
          · intro i j e a hi hj
            have hi' : (τ.h s).es[i]? = some e := by
              rw [← he, List.getElem?_take] at hi
              split at hi
              · exact hi
              · cases hi
            obtain ⟨u, hu, hr⟩ := hrep i j e a hi' hj
            simpa [hu] using hr
      · have : es = [] := by rw [← he]; simp
        subst this
        exact ⟨none, 0, 0, 0, 0, fun _ _ => undef, rfl, Nat.le_refl _, Nat.zero_le _, fun h => absurd rfl h, by simp, by simp, by simp⟩

section
variable {d : Nat} {ty : TypeId} {pos : String} {af : Array Edge} {x y c : Operand} {av bv : AV} {es : List (List AV)} {rh : List (Site × Box)}

/-- One slice, one value. -/
theorem s_sv {op : Op} (hd : d < C.n) (hx : OpV σ.t x av) (hs : SV σ.h av es rh)
    (hr : ∀ (τ : St) (a : Act) (w : World) (β : Blk) (A : Option Addr) (cap sz b off : Nat) (cell : Nat → Nat → Value), Sim C τ a w β → a.eval x = .slice A es.length cap → Reads w C.X τ.h β A cap es sz b off cell →
      ∃ v, (execOp a.eval ⟨some d, op, ty, pos, af, none⟩).run P w = .ok (.value v) w ∧ RepV w C.X τ.h β v bv) :
    Step P C ops ⟨some d, op, ty, pos, af, none⟩ σ ⟨oprs x av, rh, some d, bv, []⟩ :=
  ⟨OpSem.val rfl (someLt hd) rfl rfl fun τ a w β hf S => by
    obtain ⟨A, cap, sz, b, off, cell, hv, hR⟩ := hs.reads hf.2 S.hp (hx.rep hf.1 S)
    exact hr τ a w β A cap sz b off cell S hv hR, ⟨hx.facts, hs.facts⟩⟩

theorem s_len {T E : TypeId} (hd : d < C.n) (hx : OpV σ.t x av) (hs : SV σ.h av es rh) (ht : P.underlying T = some (.slice E)) :
    Step P C ops ⟨some d, .call { callee := .builtin .len, args := #[x], argTypes := #[T] }, ty, pos, af, none⟩ σ ⟨oprs x av, rh, some d, .c (.int .i64 es.length), []⟩ :=
  s_sv hd hx hs fun τ a w β A cap sz b off cell S hv hR => ⟨.int .i64 es.length, by
    have hel : P.elem T = E := by simp [Program.elem, ht]
    simp [execOp, resolve, invoke, builtin, hv, run_len_slice w T ty A es.length cap (by rw [hel]; exact ht), goInt], .c _⟩

/-- string(b) -/
def bytesA (bs : List UInt8) : List (List AV) := bs.map fun b => [.c (.int .u8 b.toNat)]
theorem s_str {T U E : TypeId} {bs : List UInt8} (hd : d < C.n) (hx : OpV σ.t x av) (hs : SV σ.h av (bytesA bs) rh) (ht : P.underlying T = some (.slice E)) (hE : P.underlying E = some (.int .u8)) (hU : P.underlying U = some .string) :
    Step P C ops ⟨some d, .convert T U x, ty, pos, af, none⟩ σ ⟨oprs x av, rh, some d, .c (.string ⟨bs.toArray⟩), []⟩ :=
  s_sv hd hx hs fun τ a w β A cap sz b off cell S hv hR => by
    refine ⟨.string ⟨bs.toArray⟩, ?_, .c _⟩
    have hlen : (bytesA bs).length = bs.length := by simp [bytesA]
    cases bs with
    | nil =>
      have hn : (bytesA []).length = 0 := rfl
      rw [hn] at hv
      rcases A with _ | A
      · simp [execOp, hv, run_convert_bytes_nil w T E ht hE 0 cap U hU]; rfl
      · simp [execOp, hv, convert, run_underlying ht, run_underlying hU, run_underlying hE, Conv.bytesToString, loadCells, loadCellsFrom]; rfl
    | cons b0 bs =>
      have hA := hR.h3 (by simp [bytesA])
      subst hA
      have hsz : sz = 1 := (hR.h4 [.c (.int .u8 b0.toNat)] (by simp [bytesA])).symm
      subst hsz
      have hc := run_convert_bytes_arg (P := P) w T E ht hE b off (bytesA (b0 :: bs)).length cap ((b0 :: bs).map fun b => (b.toNat : Int)) (by simp [bytesA]) (fun i hi => by
        have hi' : i < (b0 :: bs).length := by rw [← hlen]; exact hi
        have he : (bytesA (b0 :: bs))[i]? = some [.c (.int .u8 ((b0 :: bs)[i]).toNat)] := by
          simp only [bytesA, List.getElem?_map, List.getElem?_eq_getElem hi', Option.map_some]
        have h5 := hR.h5 i 0 _ _ he rfl
        have h7 := (hR.h7 i 0 _ _ he rfl).c_inv
        rw [Nat.mul_one, Nat.add_zero] at h5
        rw [h5, h7]
        congr 2
        rw [List.getD_eq_getElem?_getD, List.getElem?_map, List.getElem?_eq_getElem hi']; rfl) U hU
      simp only [execOp, hv, hc, Sem.run_bind, Sem.run_pure, Result.andThen_ok]
      congr 4
      simp only [strOfNums, List.map_map]
      congr 2
      conv => rhs; rw [← List.map_id (b0 :: bs)]
      apply List.map_congr_left
      intro q _
      simp
theorem s_eqstr {op : BinOp} {s t : List UInt8} {b : Bool} {T U : TypeId} (hd : d < C.n) (hx : OpV σ.t x (.c (.string ⟨s.toArray⟩))) (hy : OpV σ.t y (.c (.string ⟨t.toArray⟩))) (hr : (match op with | .eql => some (s == t) | .neq => some (!(s == t)) | _ => none) = some b) :
    Step P C ops ⟨some d, .binOp op T x y U, ty, pos, af, none⟩ σ ⟨oprs x (.c (.string ⟨s.toArray⟩)) ++ oprs y (.c (.string ⟨t.toArray⟩)), [], some d, .c (.bool b), []⟩ :=
  s_two hd hx hy fun τ a w β _ r1 r2 => by
    refine ⟨.bool b, ?_, .c _⟩
    cases op <;> simp only [] at hr <;> first | (cases hr; done) | skip
    all_goals obtain rfl := Option.some.inj hr
    all_goals simp [execOp, r1.c_inv, r2.c_inv, eqGuard, binOp, Op.stringOp]
end

/-! ### an element's address; a field's; what lies there -/
section
variable {d : Nat} {ty : TypeId} {pos : String} {af : Array Edge} {x y c : Operand} {av bv : AV} {es : List (List AV)} {rh : List (Site × Box)}
theorem s_index {T E : TypeId} {agg : Bool} {sz : Nat} {z : Value} {bytes : Nat} {i : Nat} {n : Int} {k : IntKind} {e : List AV} (hd : d < C.n) (hx : OpV σ.t x (.sl es)) (hy : OpV σ.t y (.c (.int k n))) (ht : P.underlying T = some (.slice E)) (hE : TI P E agg sz z bytes)
    (hn : n = (i : Int)) (he : es[i]? = some e) (hz : e.length = sz) :
    Step P C ops ⟨some d, .indexAddr T x y, ty, pos, af, none⟩ σ ⟨oprs x (.sl es) ++ oprs y (.c (.int k n)), [], some d, .ip e, []⟩ :=
  s_two hd hx hy fun τ a w β S r1 r2 => by
    subst hn
    generalize hv : a.eval x = v at r1
    have hlt := (List.getElem?_eq_some_iff.1 he).1
    have hne : es ≠ [] := by rintro rfl; simp at hlt
    cases r1 with
    | sl A cap es sz' b off cell h1 h2 h3 h4 h5 h6 h7 =>
      have hA := h3 hne
      subst hA
      have hsz : sz' = sz := by rw [← hz]; exact (h4 e (List.mem_of_getElem? he)).symm
      subst hsz
      have hel : P.elem T = E := by simp [Program.elem, ht]
      refine ⟨.pointer (some ⟨b, off + i * sz', none⟩), ?_, ?_⟩
      · simp only [execOp, hv, r2.c_inv, run_indexAt_slice w T _ es.length cap k (i : Int) (by rw [hel]; exact ht), Sem.run_bind]
        rw [if_pos ⟨by omega, by omega⟩, hel, hE.size]
        simp [addr_add]
      · exact .ip b (off + i * sz') e (fun j => cell i j) (h6 hne) (fun j a' ha => h5 i j e a' he ha) (fun j a' ha => h7 i j e a' he ha)

theorem s_index_own {T E : TypeId} {agg : Bool} {sz : Nat} {z : Value} {bytes : Nat} {s : Site} {B : Box} {m i : Nat} {n : Int} {k : IntKind} (hd : d < C.n) (hx : OpV σ.t x (.own s B.ver m)) (hy : OpV σ.t y (.c (.int k n))) (ht : P.underlying T = some (.slice E)) (hE : TI P E agg sz z bytes)
    (hB : σ.h s = B) (hl : B.live = true) (hn : n = (i : Int)) (hi : i < m) (hz : B.sz = sz) :
    Step P C ops ⟨some d, .indexAddr T x y, ty, pos, af, none⟩ σ ⟨oprs x (.own s B.ver m) ++ oprs y (.c (.int k n)), [(s, B)], some d, .ptr s B.ver i 0, []⟩ := by
  refine ⟨OpSem.val rfl (someLt hd) rfl rfl fun τ a w β hf S => ?_, ⟨fapp hx.facts hy.facts, fun p hp => by rw [List.mem_singleton.1 hp]; exact hB⟩⟩
  have hB' : τ.h s = B := hf.2 (s, B) List.mem_cons_self
  subst hn
  have r1 := hx.rep (fl hf.1) S
  have r2 := hy.rep (fr hf.1) S
  generalize hv : a.eval x = v at r1
  cases r1 with
  | own v s ver n h0 h1 h2 =>
    rcases h2 (by rw [hB']) (by rw [hB']; exact hl) with ⟨b, hb, rfl, hcap⟩ | ⟨_, _, h⟩
    · have hel : P.elem T = E := by simp [Program.elem, ht]
      refine ⟨.pointer (some ⟨b, i * sz, none⟩), ?_, ?_⟩
      · simp only [execOp, hv, r2.c_inv, run_indexAt_slice w T _ m (β.cap s) k (i : Int) (by rw [hel]; exact ht), Sem.run_bind]
        rw [if_pos ⟨by omega, by omega⟩, hel, hE.size]
        simp [addr_add]
      · exact .ptr _ s B.ver i 0 rfl (by rw [hB']; exact Nat.le_refl _) (fun _ _ => ⟨b, hb, by rw [hB', hz]; rfl⟩)
    · omega

/-- Where field f of a struct begins. -/
def foff (P : Program) (T : TypeId) (f : Nat) : Option (Nat × Nat) :=
  match P.underlying T with
  | some (.struct fs) => match fs[f]? with
    | some g => match P.info? g.type with
      | some i => some (g.offset, i.size)
      | none => none
    | none => none
  | _ => none
theorem run_fieldAt {T : TypeId} {f o k : Nat} (h : foff P T f = some (o, k)) (hk : 0 < k) (b off : Nat) (w : World) : (Instr.fieldAt T (.pointer (some ⟨b, off, none⟩)) f).run P w = .ok (.pointer (some ⟨b, off + o, none⟩)) w := by
  unfold foff at h
  split at h
  · rename_i fs hu
    split at h
    · rename_i g hg
      split at h
      · rename_i i hi
        simp only [Option.some.injEq, Prod.mk.injEq] at h
        obtain ⟨rfl, rfl⟩ := h
        have : i.size ≠ 0 := by omega
        simp [Instr.fieldAt, run_underlying hu, hg, Instr.sureAddr, fieldPlace, sizeOf, typeInfo, hi, this, addr_add]
      · cases h
    · cases h
  · cases h
theorem s_field_ip {T : TypeId} {f o k : Nat} {cs ds : List AV} (hd : d < C.n) (hx : OpV σ.t x (.ip cs)) (hf : foff P T f = some (o, k)) (hk : 0 < k) (hds : cs.drop o = ds) :
    Step P C ops ⟨some d, .fieldAddr T x f, ty, pos, af, none⟩ σ ⟨oprs x (.ip cs), [], some d, .ip ds, []⟩ :=
  s_one hd hx fun τ a w β S r => by
    subst hds
    generalize hv : a.eval x = v at r
    cases r with
    | ip b off cs cell h1 h2 h3 =>
      refine ⟨.pointer (some ⟨b, off + o, none⟩), by simp [execOp, hv, run_fieldAt hf hk], ?_⟩
      exact .ip b (off + o) _ (fun j => cell (o + j)) h1 (fun j a' ha => by rw [List.getElem?_drop] at ha; rw [Nat.add_assoc]; exact h2 _ a' ha) (fun j a' ha => by rw [List.getElem?_drop] at ha; exact h3 _ a' ha)
theorem s_field_ptr {T : TypeId} {f o k ver i off off' : Nat} {s : Site} {B : Box} (hd : d < C.n) (hx : OpV σ.t x (.ptr s B.ver i off)) (hB : σ.h s = B) (hl : B.live = true) (hf : foff P T f = some (o, k)) (hk : 0 < k) (ho : off + o = off') :
    Step P C ops ⟨some d, .fieldAddr T x f, ty, pos, af, none⟩ σ ⟨oprs x (.ptr s B.ver i off), [(s, B)], some d, .ptr s B.ver i off', []⟩ := by
  subst ho
  refine ⟨OpSem.val rfl (someLt hd) rfl rfl fun τ a w β hff S => ?_, ⟨hx.facts, fun p hp => by rw [List.mem_singleton.1 hp]; exact hB⟩⟩
  have hB' : τ.h s = B := hff.2 (s, B) List.mem_cons_self
  have r := hx.rep hff.1 S
  generalize hv : a.eval x = v at r
  cases r with
  | ptr v s ver i off h0 h1 h2 =>
    obtain ⟨b, hb, rfl⟩ := h2 (by rw [hB']) (by rw [hB']; exact hl)
    refine ⟨.pointer (some ⟨b, i * B.sz + off + o, none⟩), by rw [hB'] at hv; simp [execOp, hv, run_fieldAt hf hk], ?_⟩
    exact .ptr _ s B.ver i (off + o) rfl (by rw [hB']; exact Nat.le_refl _) (fun _ _ => ⟨b, hb, by rw [hB', Nat.add_assoc]⟩)
theorem s_nilchk_ip {cs : List AV} (hd : d < C.n) (hx : OpV σ.t x (.ip cs)) : Step P C ops ⟨some d, .nilCheck x, ty, pos, af, none⟩ σ ⟨oprs x (.ip cs), [], some d, .ip cs, []⟩ :=
  s_one hd hx fun τ a w β S r => by
    generalize hv : a.eval x = v at r
    have r' := r
    cases r with
    | ip b off cs cell h1 h2 h3 => exact ⟨_, by simp [execOp, hv], r'⟩
theorem s_nilchk_ptr {i off : Nat} {s : Site} {B : Box} (hd : d < C.n) (hx : OpV σ.t x (.ptr s B.ver i off)) (hB : σ.h s = B) (hl : B.live = true) : Step P C ops ⟨some d, .nilCheck x, ty, pos, af, none⟩ σ ⟨oprs x (.ptr s B.ver i off), [(s, B)], some d, .ptr s B.ver i off, []⟩ := by
  refine ⟨OpSem.val rfl (someLt hd) rfl rfl fun τ a w β hff S => ?_, ⟨hx.facts, fun p hp => by rw [List.mem_singleton.1 hp]; exact hB⟩⟩
  have hB' : τ.h s = B := hff.2 (s, B) List.mem_cons_self
  have r := hx.rep hff.1 S
  generalize hv : a.eval x = v at r
  have r' := r
  cases r with
  | ptr v s ver i off h0 h1 h2 =>
    obtain ⟨b, hb, rfl⟩ := h2 (by rw [hB']) (by rw [hB']; exact hl)
    exact ⟨_, by simp [execOp, hv], r'⟩

theorem run_loadAt {T : TypeId} {agg : Bool} {sz : Nat} {z : Value} {bytes : Nat} (hT : TI P T agg sz z bytes) {w : World} {b o : Nat} {cell : Nat → Value} (hc : ∀ j, j < sz → w.cell? ⟨b, o + j, none⟩ = some (cell j)) :
    (Instr.loadAt T (.pointer (some ⟨b, o, none⟩))).run P w = .ok (if agg then .agg ((List.range sz).map cell).toArray else cell 0) w := by
  have hl := run_loadCells (P := P) w ⟨b, o, none⟩ sz cell (fun j hj => by rw [addr_add]; exact hc j hj)
  have h0 := hc 0 hT.pos
  rw [Nat.add_zero] at h0
  cases agg
  · simp [Instr.loadAt, Instr.sureAddr, loadVar, hT.agg, h0]
  · simp [Instr.loadAt, Instr.sureAddr, loadVar, hT.agg, hT.size, hl]
/-- what is loaded out of cells -/
def ldA (agg : Bool) (sz : Nat) (cs : List AV) : Option AV := if agg then (if sz ≤ cs.length then some (.agg (cs.take sz)) else none) else (if sz = 1 then cs[0]? else none)
theorem ldA_rep {w : World} {X : Nat → Prop} {h : Heap} {β : Blk} {agg : Bool} {sz : Nat} {cs : List AV} {a : AV} {cell : Nat → Value} (hl : ldA agg sz cs = some a) (hr : ∀ (j : Nat) (a : AV), cs[j]? = some a → RepV w X h β (cell j) a) :
    RepV w X h β (if agg then .agg ((List.range sz).map cell).toArray else cell 0) a := by
  unfold ldA at hl
  cases agg
  · simp only [Bool.false_eq_true, if_false] at hl ⊢
    split at hl
    · exact hr 0 a hl
    · cases hl
  · simp only [if_true] at hl ⊢
    split at hl
    · rename_i hle
      obtain rfl := Option.some.inj hl
      refine .agg _ _ (by simp; omega) (fun i v a hv ha => ?_)
      have hi : i < sz := by
        have := (Array.getElem?_eq_some_iff.1 hv).1
        simpa using this
      have e1 : v = cell i := by simp [hi] at hv; exact hv.symm
      rw [List.getElem?_take] at ha
      rw [if_pos hi] at ha
      rw [e1]; exact hr i a ha
    · cases hl
theorem ldA_len {agg : Bool} {sz : Nat} {cs : List AV} {a : AV} (hl : ldA agg sz cs = some a) : sz ≤ cs.length := by
  unfold ldA at hl
  cases agg
  · simp only [Bool.false_eq_true, if_false] at hl
    split at hl
    · rename_i h; subst h; exact Nat.succ_le_of_lt (List.getElem?_eq_some_iff.1 hl).1
    · cases hl
  · simp only [if_true] at hl
    split at hl
    · assumption
    · cases hl
theorem s_load_ip {T : TypeId} {agg : Bool} {sz : Nat} {z : Value} {bytes : Nat} {cs : List AV} (hd : d < C.n) (hx : OpV σ.t x (.ip cs)) (hT : TI P T agg sz z bytes) (hl : ldA agg sz cs = some bv) :
    Step P C ops ⟨some d, .load T x, ty, pos, af, none⟩ σ ⟨oprs x (.ip cs), [], some d, bv, []⟩ :=
  s_one hd hx fun τ a w β S r => by
    generalize hv : a.eval x = v at r
    cases r with
    | ip b off cs cell h1 h2 h3 =>
      have hlen := ldA_len hl
      refine ⟨_, by simp only [execOp, hv, Sem.run_bind, run_loadAt hT (cell := cell) (fun j hj => h2 j (cs[j]'(by omega)) (by simp)), Result.andThen_ok, Sem.run_pure], ldA_rep hl h3⟩
theorem box_reads {s : Site} {τ : St} {w : World} {β : Blk} (H : HeapRep w C.X τ.h β) (hl : (τ.h s).live = true) {b : Nat} (hb : β.b s = some b) {i : Nat} {e : List AV} (he : (τ.h s).es[i]? = some e) :
    ∃ cell : Nat → Value, (∀ (j : Nat) (a : AV), e[j]? = some a → w.cell? ⟨b, i * (τ.h s).sz + j, none⟩ = some (cell j)) ∧ ∀ (j : Nat) (a : AV), e[j]? = some a → RepV w C.X τ.h β (cell j) a := by
  rcases H.live s hl with ⟨hb2, _⟩ | ⟨b', cur, hb', hcur, hsz, hml, hle, hes, hrep⟩
  · rw [hb] at hb2; cases hb2
  · obtain rfl : b = b' := by rw [hb] at hb'; exact Option.some.inj hb'
    refine ⟨fun j => cur.getD (i * (τ.h s).sz + j) undef, fun j a ha => ?_, fun j a ha => ?_⟩
    · obtain ⟨u, hu, _⟩ := hrep i j e a he ha
      simp [World.cell?, hcur, hu]
    · obtain ⟨u, hu, hr⟩ := hrep i j e a he ha
      simpa [hu] using hr
theorem s_load_ptr {T : TypeId} {agg : Bool} {sz : Nat} {z : Value} {bytes : Nat} {i off : Nat} {s : Site} {B : Box} {e : List AV} (hd : d < C.n) (hx : OpV σ.t x (.ptr s B.ver i off)) (hB : σ.h s = B) (hlv : B.live = true) (he : B.es[i]? = some e) (hT : TI P T agg sz z bytes) (hl : ldA agg sz (e.drop off) = some bv) :
    Step P C ops ⟨some d, .load T x, ty, pos, af, none⟩ σ ⟨oprs x (.ptr s B.ver i off), [(s, B)], some d, bv, []⟩ := by
  refine ⟨OpSem.val rfl (someLt hd) rfl rfl fun τ a w β hff S => ?_, ⟨hx.facts, fun p hp => by rw [List.mem_singleton.1 hp]; exact hB⟩⟩
  have hB' : τ.h s = B := hff.2 (s, B) List.mem_cons_self
  have r := hx.rep hff.1 S
  generalize hv : a.eval x = v at r
  cases r with
  | ptr v s ver i off h0 h1 h2 =>
    obtain ⟨b, hb, rfl⟩ := h2 (by rw [hB']) (by rw [hB']; exact hlv)
    obtain ⟨cell, hc, hr⟩ := box_reads S.hp (by rw [hB']; exact hlv) hb (i := i) (e := e) (by rw [hB']; exact he)
    have hlen := ldA_len hl
    rw [List.length_drop] at hlen
    have hpos := hT.pos
    refine ⟨_, by simp only [execOp, hv, Sem.run_bind, run_loadAt hT (cell := fun j => cell (off + j)) (fun j hj => by rw [Nat.add_assoc]; exact hc (off + j) (e[off + j]'(by omega)) (by simp)), Result.andThen_ok, Sem.run_pure], ldA_rep (cell := fun j => cell (off + j)) hl (fun j a' ha => by rw [List.getElem?_drop] at ha; exact hr _ a' ha)⟩
end

/-! ### cuts of slices -/
section
variable {d : Nat} {ty : TypeId} {pos : String} {af : Array Edge} {x : Operand} {es : List (List AV)}
theorem run_cut {T E : TypeId} (ht : P.underlying T = some (.slice E)) {agg : Bool} {sz : Nat} {z : Value} {bytes : Nat} (hE : TI P E agg sz z bytes) (A : Option Addr) (n cap : Nat) (lo hi : Option Value) (l h : Nat)
    (hlo : lo = none ∧ l = 0 ∨ ∃ k, lo = some (.int k (l : Int))) (hhi : hi = none ∧ h = n ∨ ∃ k, hi = some (.int k (h : Int))) (hlh : l ≤ h) (hhc : h ≤ cap) (w : World) :
    (Instr.sliceAt T (.slice A n cap) lo hi none).run P w = .ok (sliced A l h cap sz) w := by
  have hel : P.elem T = E := by simp [Program.elem, ht]
  have ht' : P.underlying T = some (.slice (P.elem T)) := by rw [hel]; exact ht
  rw [run_sliceAt_slice w T _ lo hi none ht']
  rcases hlo with ⟨rfl, rfl⟩ | ⟨kl, rfl⟩ <;> rcases hhi with ⟨rfl, rfl⟩ | ⟨kh, rfl⟩
  · rw [run_slice_all w T A h cap ht', hel, hE.size]; rfl
  · rw [run_slice_h w T A n cap ht' kh h (by omega) (by omega), hel, hE.size]; simp
  · rw [run_slice_l w T A h cap ht' kl l (by omega) (by omega), hel, hE.size]; simp
  · rw [run_slice_lh w T A n cap ht' kl kh l h (by omega) (by omega) (by omega), hel, hE.size]; simp
theorem cut_rep {w : World} {X : Nat → Prop} {hp : Heap} {β : Blk} {A : Option Addr} {cap l h sz : Nat} (r : RepV w X hp β (.slice A es.length cap) (.sl es)) (hz : ∀ e ∈ es, e.length = sz) (hlh : l ≤ h) (hh : h ≤ es.length) : RepV w X hp β (sliced A l h cap sz) (.sl ((es.take h).drop l)) := by
  generalize hu : Value.slice A es.length cap = u at r
  cases r with
  | sl A' cap' es sz' b off cell h1 h2 h3 h4 h5 h6 h7 =>
    injection hu with e1 e2 e3
    subst e1; subst e3
    have hlen : ((es.take h).drop l).length = h - l := by rw [List.length_drop, List.length_take]; omega
    have hget : ∀ (i : Nat) (e : List AV), ((es.take h).drop l)[i]? = some e → es[l + i]? = some e := by
      intro i e hi
      rw [List.getElem?_drop, List.getElem?_take] at hi
      split at hi
      · exact hi
      · cases hi
    have hv : sliced A l h cap sz = .slice (if cap = l then A else A.map (·.add (l * sz))) ((es.take h).drop l).length (cap - l) := by rw [hlen]; rfl
    rw [hv]
    by_cases hne : (es.take h).drop l = []
    · rw [hne]
      exact .sl _ _ [] 0 0 0 (fun _ _ => undef) (Nat.zero_le _) (Nat.zero_le _) (fun h => absurd rfl h) (by simp) (by simp) (fun h => absurd rfl h) (by simp)
    · have hne0 : es ≠ [] := by rintro rfl; simp at hne
      have hpos : 0 < h - l := by rw [← hlen]; exact List.length_pos_iff.2 hne
      have hsz : sz' = sz := by
        cases es with
        | nil => exact absurd rfl hne0
        | cons e es => rw [← hz e List.mem_cons_self]; exact (h4 e List.mem_cons_self).symm
      subst hsz
      have hA := h3 hne0
      subst hA
      rw [if_neg (by omega)]
      refine .sl _ _ _ sz' b (off + l * sz') (fun i j => cell (l + i) j) (by rw [hlen]; omega) (by rw [hlen]; omega) (fun _ => by simp [addr_add]) (fun e he => h4 e (List.mem_of_mem_take (List.mem_of_mem_drop he))) (fun i j e a hi hj => ?_) (fun _ => h6 hne0) (fun i j e a hi hj => h7 (l + i) j e a (hget i e hi) hj)
      have := h5 (l + i) j e a (hget i e hi) hj
      rw [Nat.add_mul] at this
      rw [← this]
      congr 2
      omega

/-- xs[lo:hi] of a slice that is read: lo, hi operands or left out -/
inductive Bd (t : Nat → AV) (dflt : Nat) : Option Operand → Nat → List (Nat × AV) → Prop
  | none : Bd t dflt none dflt []
  | some {o : Operand} {k : IntKind} {m : Int} {n : Nat} (h : OpV t o (.c (.int k m))) (hm : m = (n : Int)) : Bd t dflt (some o) n (oprs o (.c (.int k m)))
theorem Bd.facts {t : Nat → AV} {dflt n : Nat} {o : Option Operand} {rs : List (Nat × AV)} (b : Bd t dflt o n rs) : ∀ p ∈ rs, t p.1 = p.2 := by
  cases b with
  | none => intro p hp; cases hp
  | some h _ => exact h.facts
theorem Bd.eval {t : Nat → AV} {dflt n : Nat} {o : Option Operand} {rs : List (Nat × AV)} (b : Bd t dflt o n rs) {τ : St} {a : Act} {w : World} {β : Blk} (hf : ∀ p ∈ rs, τ.t p.1 = p.2) (S : Sim C τ a w β) : o.map a.eval = Option.none ∧ n = dflt ∨ ∃ k, o.map a.eval = Option.some (Value.int k (n : Int)) := by
  cases b with
  | none => exact .inl ⟨rfl, rfl⟩
  | some h hm => subst hm; exact .inr ⟨_, congrArg Option.some (h.rep hf S).c_inv⟩
theorem s_cut {T E : TypeId} {agg : Bool} {sz : Nat} {z : Value} {bytes : Nat} {lo hi : Option Operand} {l h : Nat} {r1 r2 : List (Nat × AV)} {es' : List (List AV)} (hd : d < C.n) (hx : OpV σ.t x (.sl es)) (hlo : Bd σ.t 0 lo l r1) (hhi : Bd σ.t es.length hi h r2)
    (ht : P.underlying T = some (.slice E)) (hE : TI P E agg sz z bytes) (hz : ∀ e ∈ es, e.length = sz) (hlh : l ≤ h) (hh : h ≤ es.length) (he : (es.take h).drop l = es') :
    Step P C ops ⟨some d, .slice T x lo hi none, ty, pos, af, none⟩ σ ⟨oprs x (.sl es) ++ (r1 ++ r2), [], some d, .sl es', []⟩ := by
  subst he
  refine ⟨OpSem.val rfl (someLt hd) rfl rfl fun τ a w β hf S => ?_, facts_of (fapp hx.facts (fapp hlo.facts hhi.facts)) rfl⟩
  have r := hx.rep (fl hf.1) S
  obtain ⟨A, cap, hv, hcap⟩ : ∃ A cap, a.eval x = .slice A es.length cap ∧ es.length ≤ cap := by
    generalize hu : a.eval x = v at r
    cases r with
    | sl A cap es sz b off cell h1 h2 h3 h4 h5 h6 h7 => exact ⟨A, cap, rfl, h1⟩
  rw [hv] at r
  refine ⟨sliced A l h cap sz, ?_, cut_rep r hz hlh hh⟩
  have := run_cut ht hE A es.length cap (lo.map a.eval) (hi.map a.eval) l h (hlo.eval (fl (fr hf.1)) S) (hhi.eval (fr (fr hf.1)) S) hlh (by omega) w
  simp only [execOp, hv, Option.map_none, this, Sem.run_bind, Result.andThen_ok, Sem.run_pure]
theorem s_cut_own {T E : TypeId} {agg : Bool} {sz : Nat} {z : Value} {bytes : Nat} {hi : Option Operand} {m h : Nat} {s : Site} {B : Box} {r2 : List (Nat × AV)} (hd : d < C.n) (hx : OpV σ.t x (.own s B.ver m)) (hhi : Bd σ.t m hi h r2)
    (ht : P.underlying T = some (.slice E)) (hE : TI P E agg sz z bytes) (hB : σ.h s = B) (hl : B.live = true) (hh : h ≤ m) :
    Step P C ops ⟨some d, .slice T x none hi none, ty, pos, af, none⟩ σ ⟨oprs x (.own s B.ver m) ++ r2, [(s, B)], some d, .own s B.ver h, []⟩ := by
  refine ⟨OpSem.val rfl (someLt hd) rfl rfl fun τ a w β hf S => ?_, ⟨fapp hx.facts hhi.facts, fun p hp => by rw [List.mem_singleton.1 hp]; exact hB⟩⟩
  have hB' : τ.h s = B := hf.2 (s, B) List.mem_cons_self
  have r := hx.rep (fl hf.1) S
  generalize hu : a.eval x = v at r
  cases r with
  | own v s ver n h0 h1 h2 =>
    rcases h2 (by rw [hB']) (by rw [hB']; exact hl) with ⟨b, hb, rfl, hcap⟩ | ⟨hb, rfl, rfl⟩
    · refine ⟨.slice (some ⟨b, 0, none⟩) h (β.cap s), ?_, .own _ s B.ver h rfl (by rw [hB']; exact Nat.le_refl _) (fun _ _ => .inl ⟨b, hb, rfl, by omega⟩)⟩
      have := run_cut ht hE (some ⟨b, 0, none⟩) m (β.cap s) none (hi.map a.eval) 0 h (.inl ⟨rfl, rfl⟩) (hhi.eval (fr hf.1) S) (Nat.zero_le _) (by omega) w
      simp only [execOp, hu, Option.map_none, this, Sem.run_bind, Result.andThen_ok, Sem.run_pure]
      simp [sliced, addr_add]
    · obtain rfl : h = 0 := by omega
      refine ⟨.slice none 0 0, ?_, .own _ s B.ver 0 rfl (by rw [hB']; exact Nat.le_refl _) (fun _ _ => .inr ⟨hb, rfl, rfl⟩)⟩
      have := run_cut ht hE none 0 0 none (hi.map a.eval) 0 0 (.inl ⟨rfl, rfl⟩) (hhi.eval (fr hf.1) S) (Nat.zero_le _) (Nat.le_refl _) w
      simp only [execOp, hu, Option.map_none, this, Sem.run_bind, Result.andThen_ok, Sem.run_pure]
      simp [sliced]
end

end Go.Proofs.YtpbjbnghcbcdiaaDoor.AM
