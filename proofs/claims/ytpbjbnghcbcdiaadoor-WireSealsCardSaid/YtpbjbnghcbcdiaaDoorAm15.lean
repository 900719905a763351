/- The abstract machine, part 15: the usual calls with boxes. Conditions: none. -/
import Derived.Test.YtpbjbnghcbcdiaaDoorAm14
set_option linter.unusedVariables false
namespace Go.Proofs.YtpbjbnghcbcdiaaDoor.AM
open Go

variable {P : Program} {C : Ctx} {ops : Array Oper} {σ : St} {w w' : World} {X X' : Nat → Prop} {h h' : Heap} {β β' : Blk} {g : Site → Option Site} {ok : Site → Prop}

theorem bx_nil : bx [] = H0 := by
  funext s
  cases s <;> rfl
theorem bo_nil : bo [] [] = H0 := by
  funext s
  cases s <;> rfl
theorem RepV.blk0 {v : Value} {a : AV} (r : RepV w X H0 β v a) : RepV w X H0 β' v a :=
  r.ext ⟨Nat.le_refl _, fun b _ hb => ⟨rfl, hb.1, fun s hl => by simp [H0] at hl⟩, fun _ => Nat.le_refl _, fun s _ hl => by simp [H0] at hl⟩
theorem Fn.toS {f : FuncId} {args : List AV} {r : AV} (F : Fn P f args r) : FnS P f [] args [] [] r := by
  refine ⟨F.1, fun X w vs β hG hX _ hvs hrep => ?_⟩
  rw [bx_nil] at hrep ⊢
  rw [bo_nil]
  refine Calls.mono (F.2 X w vs hG hX hvs fun i v a hv ha => (hrep i v a hv ha).blk0) ?_
  rintro e w' ⟨v, rfl, hv, hk⟩
  exact ⟨v, B0, rfl, HeapRep.empty, hv, hk.mono fun k _ h => .inl h, ⟨fun _ => Nat.le_refl _, fun s _ hl => by simp [H0] at hl⟩, fun s b hl => by simp [H0] at hl⟩

section
variable {d : Nat} {ty : TypeId} {pos : String} {af : Array Edge} {cf : Operand} {ts : Array TypeId} {f : FuncId} {xs : List Operand} {as bs caps : List AV} {rs : List (Nat × AV)} {r r0 : AV}

theorem gOf1 {s k s' : Site} (h : gOf [(s, k)] s' = none) : s' ≠ s := by
  rintro rfl
  simp [gOf] at h
theorem Frz.toTr {h' : Heap} {g : Site → Option Site} {l l' : List AV} (f : Frz h ok l l') : Tr h h' g ok l l' := by
  induction f with
  | nil => exact .nil
  | pur hp hr ih => exact .pur hp ih
  | nils hr ih => exact .nils ih
  | agg hc hr i1 i2 => exact .agg i1 i2
  | tup hc hr i1 i2 => exact .tup i1 i2
  | own hs hB hl hn he hle hp hr i1 i2 => exact .own hs hB hl hn he hle i1 i2
  | ptr hs hB hl he hp hr i1 i2 => exact .ptr hs hB hl he i1 i2
  | ifc hp hr i1 i2 => exact .ifc i1 i2
  | fn hc hr i1 i2 => exact .fn i1 i2
/-- the boxes that are read are none any more -/
def kill (h : Heap) (s : Site) : Site × Box := (s, ⟨(h s).ver + 1, false, (h s).T, (h s).sz, []⟩)
theorem kills_dead (h0 : Heap) : ∀ (Ls : List Site) (h : Heap) (s : Site), s ∈ Ls → (∀ s', (h0 s').ver ≤ (h0 s').ver) → (hupds h (Ls.map (kill h0)) s).live = false ∧ (hupds h (Ls.map (kill h0)) s).ver = (h0 s).ver + 1
  | [], _, s, hs, _ => by cases hs
  | a :: Ls, h, s, hs, hv => by
    rw [List.map_cons, hupds]
    by_cases hm : s ∈ Ls
    · exact kills_dead h0 Ls _ s hm hv
    · have e : s = a := (List.mem_cons.1 hs).resolve_right hm
      subst e
      rw [hupds_ne _ (fun p hp e => hm (by obtain ⟨q, hq, rfl⟩ := List.mem_map.1 hp; exact e ▸ hq))]
      simp [kill, hupd]
/-- A call; what is lent to be read is none any more. -/
theorem s_callK (Ls : List Site) (hF : Fn P f bs r) (hd : d < C.n) (hc : OpV σ.t cf (.fn f caps)) (hA : Args σ.t xs as rs) (hZ : Frz σ.h (fun s => s ∈ Ls) (as ++ caps) bs) (hr : Pur r) :
    Step P C ops ⟨some d, .call { callee := .value cf, args := xs.toArray, argTypes := ts }, ty, pos, af, none⟩ σ ⟨oprs cf (.fn f caps) ++ rs, (Ls.map (kill σ.h)).map fun p => (p.1, σ.h p.1), some d, r, Ls.map (kill σ.h)⟩ := by
  have hmem : ∀ s, s ∈ (Ls.map (kill σ.h)).map (·.1) ↔ s ∈ Ls := fun s => by simp [kill]
  refine s_callS [] Ls [] (Ls.map (kill σ.h)) hF.toS hd hc hA hZ.toTr (by simp) (by simp) (fun s hl => ?_) (fun _ _ => rfl) (by simp) (by simp) (.pur hr .nil) (fun s hs => (hmem s).2 (by simpa using hs)) (fun s hs => ?_)
  · rw [bx_nil] at hl; simp [H0] at hl
  · obtain ⟨h1, h2⟩ := kills_dead σ.h Ls σ.h s ((hmem s).1 hs) (fun _ => Nat.le_refl _)
    exact ⟨by rw [h2]; exact Nat.le_succ _, fun hl => absurd (h1.symm.trans hl) (by simp), fun hl => absurd (h1.symm.trans hl) (by simp)⟩
/-- A call that is given a row, and gives it back, longer. -/
theorem s_callApp (s : Site) (v : Nat) {E : TypeId} {sz : Nat} {es es' : List (List AV)} {n n' : Nat} {as : List AV} (hB : σ.h s = ⟨v, true, E, sz, es⟩) (hp : ∀ e ∈ es, PurL e) (hp' : ∀ e ∈ es', PurL e)
    (hF : FnS P f [⟨v, true, E, sz, es⟩] (.own (.up 0) v n :: as) [⟨v + 1, false, E, sz, []⟩] [⟨1, true, E, sz, es'⟩] (.own (.loc 0) 1 n')) (hd : d < C.n) (hc : OpV σ.t cf (.fn f [])) (hA : Args σ.t xs (.own s v n :: as) rs) (hpa : PurL as) :
    Step P C ops ⟨some d, .call { callee := .value cf, args := xs.toArray, argTypes := ts }, ty, pos, af, none⟩ σ ⟨oprs cf (.fn f []) ++ rs, [(s, σ.h s)], some d, .own s (v + 1) n', [(s, ⟨v + 1, true, E, sz, es'⟩)]⟩ := by
  have hw : hupds σ.h [(s, ⟨v + 1, true, E, sz, es'⟩)] s = ⟨v + 1, true, E, sz, es'⟩ := hupd_same _ _ _
  refine s_callS [(s, .up 0)] [] [(.loc 0, s)] [(s, ⟨v + 1, true, E, sz, es'⟩)] hF hd hc hA ?_ (by simp) ?_ ?_ (by simp) (by simp) ?_ ?_ (by simp) ?_
  · rw [List.append_nil]
    exact .mvO (by simp [gOf]) (by rw [hB]) rfl (Tr.purs hpa)
  · intro p hp1
    rw [List.mem_singleton.1 hp1]
    refine ⟨by simp [gOf], by rw [hB], by rw [hB]; rfl, ?_⟩
    rw [hB]
    exact BTr.same (A := ⟨v, true, E, sz, es⟩) hp
  · intro s' hl
    cases s' with
    | loc n => simp [bx, dead] at hl
    | up k =>
      cases k with
      | zero => simp
      | succ k => simp [bx, dead] at hl
  · intro p hp1
    rw [List.mem_singleton.1 hp1]
    refine ⟨by simp [gOf], rfl, ?_⟩
    show BTr _ _ _ _ _ (hupds σ.h [(s, ⟨v + 1, true, E, sz, es'⟩)] s)
    rw [hw]
    exact BTr.same (A := ⟨1, true, E, sz, es'⟩) hp'
  · exact .mvO (by simp [gOf]) rfl (by rw [hw]) .nil
  · intro s' hs'
    obtain rfl : s' = s := by simpa using hs'
    rw [hw, hB]
    exact ⟨Nat.le_succ _, fun _ => by simp, fun _ e => absurd e (by show v ≠ v + 1; omega)⟩
/-- A call that gives a new row. -/
theorem s_callNew (s : Site) {E : TypeId} {sz : Nat} {es' : List (List AV)} {n' : Nat} {D : Box} (hD : σ.h s = D) (hp' : ∀ e ∈ es', PurL e)
    (hF : FnS P f [] as [] [⟨1, true, E, sz, es'⟩] (.own (.loc 0) 1 n')) (hd : d < C.n) (hc : OpV σ.t cf (.fn f [])) (hA : Args σ.t xs as rs) (hpa : PurL as) :
    Step P C ops ⟨some d, .call { callee := .value cf, args := xs.toArray, argTypes := ts }, ty, pos, af, none⟩ σ ⟨oprs cf (.fn f []) ++ rs, [(s, σ.h s)], some d, .own s (D.ver + 1) n', [(s, ⟨D.ver + 1, true, E, sz, es'⟩)]⟩ := by
  subst hD
  have hw : hupds σ.h [(s, ⟨(σ.h s).ver + 1, true, E, sz, es'⟩)] s = ⟨(σ.h s).ver + 1, true, E, sz, es'⟩ := hupd_same _ _ _
  refine s_callS [] [] [(.loc 0, s)] [(s, ⟨(σ.h s).ver + 1, true, E, sz, es'⟩)] hF hd hc hA ?_ (by simp) (by simp) ?_ (by simp) (by simp) ?_ ?_ (by simp) ?_
  · rw [List.append_nil]
    exact Tr.purs hpa
  · intro s' hl
    rw [bx_nil] at hl; simp [H0] at hl
  · intro p hp1
    rw [List.mem_singleton.1 hp1]
    refine ⟨by simp [gOf], rfl, ?_⟩
    show BTr _ _ _ _ _ (hupds σ.h [(s, ⟨(σ.h s).ver + 1, true, E, sz, es'⟩)] s)
    rw [hw]
    exact BTr.same (A := ⟨1, true, E, sz, es'⟩) hp'
  · exact .mvO (by simp [gOf]) rfl (by rw [hw]) .nil
  · intro s' hs'
    obtain rfl : s' = s := by simpa using hs'
    rw [hw]
    exact ⟨Nat.le_succ _, fun _ => by simp, fun _ e => absurd e (by show (σ.h s').ver ≠ (σ.h s').ver + 1; omega)⟩
/-- A call that is given a variable's place, and changes what lies there. -/
theorem s_callMut (s : Site) (v : Nat) {E : TypeId} {sz : Nat} {es es' : List (List AV)} {as : List AV} {i off : Nat} (hB : σ.h s = ⟨v, true, E, sz, es⟩) (hp : ∀ e ∈ es, PurL e) (hp' : ∀ e ∈ es', PurL e)
    (hF : FnS P f [⟨v, true, E, sz, es⟩] (.ptr (.up 0) v i off :: as) [⟨v, true, E, sz, es'⟩] [] r) (hd : d < C.n) (hc : OpV σ.t cf (.fn f [])) (hA : Args σ.t xs (.ptr s v i off :: as) rs) (hpa : PurL as) (hr : Pur r) :
    Step P C ops ⟨some d, .call { callee := .value cf, args := xs.toArray, argTypes := ts }, ty, pos, af, none⟩ σ ⟨oprs cf (.fn f []) ++ rs, [(s, σ.h s)], some d, r, [(s, ⟨v, true, E, sz, es'⟩)]⟩ := by
  have hw : hupds σ.h [(s, ⟨v, true, E, sz, es'⟩)] s = ⟨v, true, E, sz, es'⟩ := hupd_same _ _ _
  refine s_callS [(s, .up 0)] [] [(.up 0, s)] [(s, ⟨v, true, E, sz, es'⟩)] hF hd hc hA ?_ (by simp) ?_ ?_ (by simp) (by simp) ?_ ?_ (by simp) ?_
  · rw [List.append_nil]
    exact .mvP (by simp [gOf]) (by rw [hB]) rfl (Tr.purs hpa)
  · intro p hp1
    rw [List.mem_singleton.1 hp1]
    refine ⟨by simp [gOf], by rw [hB], by rw [hB]; rfl, ?_⟩
    rw [hB]
    exact BTr.same (A := ⟨v, true, E, sz, es⟩) hp
  · intro s' hl
    cases s' with
    | loc n => simp [bx, dead] at hl
    | up k =>
      cases k with
      | zero => simp
      | succ k => simp [bx, dead] at hl
  · intro p hp1
    rw [List.mem_singleton.1 hp1]
    refine ⟨by simp [gOf], rfl, ?_⟩
    show BTr _ _ _ _ _ (hupds σ.h [(s, ⟨v, true, E, sz, es'⟩)] s)
    rw [hw]
    exact BTr.same (A := ⟨v, true, E, sz, es'⟩) hp'
  · exact .pur hr .nil
  · intro s' hs'
    obtain rfl : s' = s := by simpa using hs'
    rw [hw, hB]
    exact ⟨Nat.le_refl _, fun _ => by simp, fun _ _ => ⟨.up 0, by simp, by simp, rfl⟩⟩
end

/-! ### how bodies with boxes end -/
section
variable {rs : List Nat} {r l : List AV}
/-- a row that was lent is given back as a new one -/
theorem FinS.app (s : Site) (u v n' : Nat) {E : TypeId} {sz : Nat} {es es' : List (List AV)} (hB : σ.h s = ⟨u, true, E, sz, es'⟩) (hp : ∀ e ∈ es', PurL e) (hl : rs.map σ.t = [.own s u n']) : FinS rs [⟨v, true, E, sz, es⟩] [⟨v + 1, false, E, sz, []⟩] [⟨1, true, E, sz, es'⟩] [.own (.loc 0) 1 n'] .ret σ := by
  refine ⟨rfl, [(s, .loc 0)], by simp, fun p hp1 => ?_, fun s' hl' => ?_, ?_, fun s' => ?_, fun s' hl' he => ?_⟩
  · rw [List.mem_singleton.1 hp1]
    refine ⟨by simp [gOf], by rw [hB], ?_⟩
    rw [hB]
    exact BTr.same (A := ⟨u, true, E, sz, es'⟩) hp
  · cases s' with
    | loc k => cases k with
      | zero => simp
      | succ k => simp [bo, dead] at hl'
    | up k => cases k with
      | zero => simp [bo] at hl'
      | succ k => simp [bo, dead] at hl'
  · rw [hl]; exact .mvO (by simp [gOf]) (by rw [hB]) rfl .nil
  · cases s' with
    | loc k => simp [bx, dead]
    | up k => cases k with
      | zero => simp [bo, bx]
      | succ k => simp [bo, bx, dead]
  · cases s' with
    | loc k => cases k with
      | zero => simp [bx, bo, dead] at he
      | succ k => simp [bo, dead] at hl'
    | up k => cases k with
      | zero => simp [bo] at hl'
      | succ k => simp [bo, dead] at hl'
/-- a new row -/
theorem FinS.new (s : Site) (u n' : Nat) {E : TypeId} {sz : Nat} {es' : List (List AV)} (hB : σ.h s = ⟨u, true, E, sz, es'⟩) (hp : ∀ e ∈ es', PurL e) (hl : rs.map σ.t = [.own s u n']) : FinS rs [] [] [⟨1, true, E, sz, es'⟩] [.own (.loc 0) 1 n'] .ret σ := by
  refine ⟨rfl, [(s, .loc 0)], by simp, fun p hp1 => ?_, fun s' hl' => ?_, ?_, fun s' => ?_, fun s' hl' he => ?_⟩
  · rw [List.mem_singleton.1 hp1]
    refine ⟨by simp [gOf], by rw [hB], ?_⟩
    rw [hB]
    exact BTr.same (A := ⟨u, true, E, sz, es'⟩) hp
  · cases s' with
    | loc k => cases k with
      | zero => simp
      | succ k => simp [bo, dead] at hl'
    | up k => simp [bo, dead] at hl'
  · rw [hl]; exact .mvO (by simp [gOf]) (by rw [hB]) rfl .nil
  · rw [bx_nil]; exact Nat.zero_le _
  · cases s' with
    | loc k => cases k with
      | zero => simp [bx, bo, dead] at he
      | succ k => simp [bo, dead] at hl'
    | up k => simp [bo, dead] at hl'
/-- a variable that was lent, in its place -/
theorem FinS.mut (v : Nat) {E : TypeId} {sz : Nat} {es es' : List (List AV)} (hB : σ.h (.up 0) = ⟨v, true, E, sz, es'⟩) (hp : ∀ e ∈ es', PurL e) (hl : rs.map σ.t = l) (hf : Tr σ.h (bo [⟨v, true, E, sz, es'⟩] []) (gOf [(.up 0, .up 0)]) (fun s => gOf [(.up 0, .up 0)] s = none) l r) : FinS rs [⟨v, true, E, sz, es⟩] [⟨v, true, E, sz, es'⟩] [] r .ret σ := by
  refine ⟨rfl, [(.up 0, .up 0)], by simp, fun p hp1 => ?_, fun s' hl' => ?_, ?_, fun s' => ?_, fun s' hl' he => ?_⟩
  · rw [List.mem_singleton.1 hp1]
    refine ⟨by simp [gOf], by rw [hB], ?_⟩
    rw [hB]
    exact BTr.same (A := ⟨v, true, E, sz, es'⟩) hp
  · cases s' with
    | loc k => simp [bo, dead] at hl'
    | up k => cases k with
      | zero => simp
      | succ k => simp [bo, dead] at hl'
  · rw [hl]; exact hf
  · cases s' with
    | loc k => simp [bx, dead]
    | up k => cases k with
      | zero => simp [bo, bx]
      | succ k => simp [bo, bx, dead]
  · cases s' with
    | loc k => simp [bo, dead] at hl'
    | up k => cases k with
      | zero => exact ⟨by simp [gOf], by rw [hB]; rfl⟩
      | succ k => simp [bo, dead] at hl'
end
end Go.Proofs.YtpbjbnghcbcdiaaDoor.AM
