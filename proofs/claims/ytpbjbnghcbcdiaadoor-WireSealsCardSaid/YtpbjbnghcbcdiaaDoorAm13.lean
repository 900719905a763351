/- The abstract machine, part 13: boxes lent to a call, boxes that a call hands back. Conditions: none. -/
import Derived.Test.YtpbjbnghcbcdiaaDoorAm12
set_option linter.unusedVariables false
namespace Go.Proofs.YtpbjbnghcbcdiaaDoor.AM
open Go

variable {P : Program} {C : Ctx} {ops : Array Oper} {σ : St} {w w' : World} {X X' : Nat → Prop} {h h' : Heap} {β β' : Blk} {g : Site → Option Site} {ok : Site → Prop}

/-- Sites are named anew (g), or are only read from now on (ok). -/
inductive Tr (h h' : Heap) (g : Site → Option Site) (ok : Site → Prop) : List AV → List AV → Prop
  | nil : Tr h h' g ok [] []
  | pur {a : AV} {r r' : List AV} (hp : Pur a) (hr : Tr h h' g ok r r') : Tr h h' g ok (a :: r) (a :: r')
  | nils {r r' : List AV} (hr : Tr h h' g ok r r') : Tr h h' g ok (.c (.slice none 0 0) :: r) (.sl [] :: r')
  | agg {cs cs' r r' : List AV} (hc : Tr h h' g ok cs cs') (hr : Tr h h' g ok r r') : Tr h h' g ok (.agg cs :: r) (.agg cs' :: r')
  | tup {cs cs' r r' : List AV} (hc : Tr h h' g ok cs cs') (hr : Tr h h' g ok r r') : Tr h h' g ok (.tup cs :: r) (.tup cs' :: r')
  | own {s : Site} {n : Nat} {B : Box} {es es' : List (List AV)} {r r' : List AV} (hs : ok s) (hB : h s = B) (hl : B.live = true) (hn : n ≤ B.es.length) (he : B.es.take n = es) (hle : es.length = es'.length) (hp : ∀ (i : Nat) (e e' : List AV), es[i]? = some e → es'[i]? = some e' → Tr h h' g ok e e') (hr : Tr h h' g ok r r') : Tr h h' g ok (.own s B.ver n :: r) (.sl es' :: r')
  | ptr {s : Site} {i off : Nat} {B : Box} {e e' r r' : List AV} (hs : ok s) (hB : h s = B) (hl : B.live = true) (he : B.es[i]? = some e) (hp : Tr h h' g ok (e.drop off) e') (hr : Tr h h' g ok r r') : Tr h h' g ok (.ptr s B.ver i off :: r) (.ip e' :: r')
  | ifc {T : TypeId} {a a' : AV} {r r' : List AV} (hp : Tr h h' g ok [a] [a']) (hr : Tr h h' g ok r r') : Tr h h' g ok (.ifc T a :: r) (.ifc T a' :: r')
  | fn {f : FuncId} {cs cs' r r' : List AV} (hc : Tr h h' g ok cs cs') (hr : Tr h h' g ok r r') : Tr h h' g ok (.fn f cs :: r) (.fn f cs' :: r')
  | mvO {s s' : Site} {v v' n : Nat} {r r' : List AV} (hg : g s = some s') (hv : (h s).ver = v) (hv' : (h' s').ver = v') (hr : Tr h h' g ok r r') : Tr h h' g ok (.own s v n :: r) (.own s' v' n :: r')
  | mvP {s s' : Site} {v v' i off : Nat} {r r' : List AV} (hg : g s = some s') (hv : (h s).ver = v) (hv' : (h' s').ver = v') (hr : Tr h h' g ok r r') : Tr h h' g ok (.ptr s v i off :: r) (.ptr s' v' i off :: r')
theorem Tr.length {l l' : List AV} (f : Tr h h' g ok l l') : l.length = l'.length := by
  induction f <;> simp_all
theorem Tr.purs : ∀ {l : List AV}, PurL l → Tr h h' g ok l l
  | [], _ => .nil
  | a :: l, hp => .pur (hp a List.mem_cons_self) (Tr.purs fun b hb => hp b (List.mem_cons_of_mem _ hb))

structure Mp (X : Nat → Prop) (h : Heap) (β : Blk) (X' : Nat → Prop) (h' : Heap) (β' : Blk) (g : Site → Option Site) (ok : Site → Prop) : Prop where
  okb : ∀ b, Okb X h β b → Okb X' h' β' b
  mv : ∀ s s', g s = some s' → (h s).live = true ∧ (h' s').sz = (h s).sz ∧ β'.b s' = β.b s ∧ β'.cap s' = β.cap s
  fz : ∀ s b, (h s).live = true → ok s → β.b s = some b → Okb X' h' β' b

theorem Tr.rep (H : HeapRep w X h β) (M : Mp X h β X' h' β' g ok) {l l' : List AV} (f : Tr h h' g ok l l') :
    ∀ (i : Nat) (v : Value) (a a' : AV), l[i]? = some a → l'[i]? = some a' → RepV w X h β v a → RepV w X' h' β' v a' := by
  have Mv0 : Mv w X h β w X' h' β' := ⟨Nat.le_refl _, fun b _ hb => ⟨rfl, M.okb b hb⟩⟩
  induction f with
  | nil => intro i v a a' h1; simp at h1
  | pur hp hr ih =>
    intro i v a a' h1 h2 r
    cases i with
    | zero => simp at h1 h2; subst h1; subst h2; exact hp w w X X' h h' β β' v Mv0 r
    | succ i => exact ih i v a a' (by simpa using h1) (by simpa using h2) r
  | nils hr ih =>
    intro i v a a' h1 h2 r
    cases i with
    | zero =>
      simp at h1 h2; subst h1; subst h2
      rw [r.c_inv]
      exact .sl none 0 [] 0 0 0 (fun _ _ => undef) (Nat.le_refl _) (Nat.zero_le _) (fun h => absurd rfl h) (by simp) (by simp) (fun h => absurd rfl h) (by simp)
    | succ i => exact ih i v a a' (by simpa using h1) (by simpa using h2) r
  | @agg cs cs' r r' hc hr i1 i2 =>
    intro i v a a' h1 h2 rr
    cases i with
    | zero =>
      simp at h1 h2; subst h1; subst h2
      cases rr with
      | agg vs cs e1 e2 => exact .agg vs _ (e1.trans hc.length) (fun j u b hu hb => by
          have hlt : j < vs.size := (Array.getElem?_eq_some_iff.1 hu).1
          have hj := List.getElem?_eq_getElem (l := cs) (i := j) (by omega)
          exact i1 j u _ b hj hb (e2 j u _ hu hj))
    | succ i => exact i2 i v a a' (by simpa using h1) (by simpa using h2) rr
  | @tup cs cs' r r' hc hr i1 i2 =>
    intro i v a a' h1 h2 rr
    cases i with
    | zero =>
      simp at h1 h2; subst h1; subst h2
      cases rr with
      | tup vs cs e1 e2 => exact .tup vs _ (e1.trans hc.length) (fun j u b hu hb => by
          have hlt : j < vs.size := (Array.getElem?_eq_some_iff.1 hu).1
          have hj := List.getElem?_eq_getElem (l := cs) (i := j) (by omega)
          exact i1 j u _ b hj hb (e2 j u _ hu hj))
    | succ i => exact i2 i v a a' (by simpa using h1) (by simpa using h2) rr
  | @fn f cs cs' r r' hc hr i1 i2 =>
    intro i v a a' h1 h2 rr
    cases i with
    | zero =>
      simp at h1 h2; subst h1; subst h2
      cases rr with
      | fn f vs cs e1 e2 => exact .fn f vs _ (e1.trans hc.length) (fun j u b hu hb => by
          have hlt : j < vs.size := (Array.getElem?_eq_some_iff.1 hu).1
          have hj := List.getElem?_eq_getElem (l := cs) (i := j) (by omega)
          exact i1 j u _ b hj hb (e2 j u _ hu hj))
    | succ i => exact i2 i v a a' (by simpa using h1) (by simpa using h2) rr
  | @ifc T a0 a0' r r' hp hr i1 i2 =>
    intro i v a a' h1 h2 rr
    cases i with
    | zero =>
      simp at h1 h2; subst h1; subst h2
      cases rr with
      | ifc T v a e1 => exact .ifc T v _ (i1 0 v _ _ rfl rfl e1)
    | succ i => exact i2 i v a a' (by simpa using h1) (by simpa using h2) rr
  | @mvO s s' v0 v' n r r' hg hv hv' hr ih =>
    intro i v a a' h1 h2 rr
    cases i with
    | zero =>
      simp at h1 h2; subst h1; subst h2
      obtain ⟨m1, m2, m3, m4⟩ := M.mv s s' hg
      cases rr with
      | own v s ver n g0 g1 g2 =>
        refine .own v s' v' n g0 (by omega) (fun _ hl => ?_)
        rw [m3, m4]
        exact g2 hv.symm m1
    | succ i => exact ih i v a a' (by simpa using h1) (by simpa using h2) rr
  | @mvP s s' v0 v' ii off r r' hg hv hv' hr ih =>
    intro i v a a' h1 h2 rr
    cases i with
    | zero =>
      simp at h1 h2; subst h1; subst h2
      obtain ⟨m1, m2, m3, m4⟩ := M.mv s s' hg
      cases rr with
      | ptr v s ver i off g0 g1 g2 =>
        refine .ptr v s' v' ii off g0 (by omega) (fun _ hl => ?_)
        rw [m2, m3]
        exact g2 hv.symm m1
    | succ i => exact ih i v a a' (by simpa using h1) (by simpa using h2) rr
  | @ptr s ii off B e e' r r' hs hB hl he hp hr i1 i2 =>
    intro i v a a' h1 h2 rr
    cases i with
    | zero =>
      simp at h1 h2; subst h1; subst h2
      subst hB
      cases rr with
      | ptr v s ver i off g0 g1 g2 =>
        obtain ⟨b, hb, rfl⟩ := g2 rfl hl
        rcases H.live s hl with ⟨hb2, _⟩ | ⟨b', cur, hb', hcur, hsz, hml, hle, hes, hrep⟩
        · rw [hb] at hb2; cases hb2
        · obtain rfl : b = b' := by rw [hb] at hb'; exact Option.some.inj hb'
          have hlen := hp.length
          rw [List.length_drop] at hlen
          refine .ip b _ e' (fun j => cur.getD (ii * (h s).sz + off + j) undef) ⟨(Array.getElem?_eq_some_iff.1 hcur).1, M.fz s b hl hs hb⟩ (fun j a ha => ?_) (fun j a ha => ?_)
          · have hj : j < e'.length := (List.getElem?_eq_some_iff.1 ha).1
            obtain ⟨u, hu, _⟩ := hrep ii (off + j) e (e[off + j]'(by omega)) he (by simp)
            rw [← Nat.add_assoc] at hu
            simp [World.cell?, hcur, hu]
          · have hj : j < e'.length := (List.getElem?_eq_some_iff.1 ha).1
            obtain ⟨u, hu, hr⟩ := hrep ii (off + j) e (e[off + j]'(by omega)) he (by simp)
            rw [← Nat.add_assoc] at hu
            have := i1 j u _ a (by rw [List.getElem?_drop]; simp) ha hr
            simpa [hu] using this
    | succ i => exact i2 i v a a' (by simpa using h1) (by simpa using h2) rr
  | @own s n B es es' r r' hs hB hl hn he hle hp hr i1 i2 =>
    intro i v a a' h1 h2 rr
    cases i with
    | zero =>
      simp at h1 h2; subst h1; subst h2
      subst hB
      cases rr with
      | own v s ver n g0 g1 g2 =>
        rcases g2 rfl hl with ⟨b, hb, rfl, hcap⟩ | ⟨hb, rfl, rfl⟩
        · rcases H.live s hl with ⟨hb2, _⟩ | ⟨b', cur, hb', hcur, hsz, hml, hlb, hes, hrep⟩
          · rw [hb] at hb2; cases hb2
          · obtain rfl : b = b' := by rw [hb] at hb'; exact Option.some.inj hb'
            have hlen : es.length = n := by rw [← he, List.length_take]; omega
            have hn' : n = es'.length := by omega
            subst hn'
            have hget : ∀ (i : Nat) (e' : List AV), es'[i]? = some e' → ∃ e, (h s).es[i]? = some e ∧ es[i]? = some e ∧ e.length = e'.length := by
              intro i e' hi
              have hlt := (List.getElem?_eq_some_iff.1 hi).1
              have h3 : es[i]? = some (es[i]'(by omega)) := by simp
              refine ⟨es[i]'(by omega), ?_, h3, (hp i _ e' h3 hi).length⟩
              exact (take_get ((congrArg (fun l : List (List AV) => l[i]?) he).trans h3)).2
            refine .sl _ _ es' (h s).sz b 0 (fun i j => cur.getD (i * (h s).sz + j) undef) hcap (by omega) (fun _ => rfl) (fun e' hm => ?_) (fun i j e' a hi ha => ?_) (fun _ => ⟨(Array.getElem?_eq_some_iff.1 hcur).1, M.fz s b hl hs hb⟩) (fun i j e' a hi ha => ?_)
            · obtain ⟨i, hi⟩ := List.mem_iff_getElem?.1 hm
              obtain ⟨e, h4, _, h5⟩ := hget i e' hi
              rw [← h5]; exact hes e (List.mem_of_getElem? h4)
            · obtain ⟨e, h4, h6, h5⟩ := hget i e' hi
              have hj : j < e'.length := (List.getElem?_eq_some_iff.1 ha).1
              obtain ⟨u, hu, _⟩ := hrep i j e (e[j]'(by omega)) h4 (by simp)
              simp [World.cell?, hcur, hu]
            · obtain ⟨e, h4, h6, h5⟩ := hget i e' hi
              have hj : j < e'.length := (List.getElem?_eq_some_iff.1 ha).1
              obtain ⟨u, hu, hr⟩ := hrep i j e (e[j]'(by omega)) h4 (by simp)
              have := i1 i e e' h6 hi j u _ a (by simp) ha hr
              simpa [hu] using this
        · have : es = [] := by rw [← he]; simp
          subst this
          have : es' = [] := List.eq_nil_of_length_eq_zero (by simpa using hle.symm)
          subst this
          exact .sl none 0 [] 0 0 0 (fun _ _ => undef) (Nat.le_refl _) (Nat.zero_le _) (fun h => absurd rfl h) (by simp) (by simp) (fun h => absurd rfl h) (by simp)
    | succ i => exact i2 i v a a' (by simpa using h1) (by simpa using h2) rr

/-- a box, seen anew -/
structure BTr (h h' : Heap) (g : Site → Option Site) (ok : Site → Prop) (A B : Box) : Prop where
  T : B.T = A.T
  sz : B.sz = A.sz
  n : A.es.length = B.es.length
  es : ∀ (i : Nat) (e e' : List AV), A.es[i]? = some e → B.es[i]? = some e' → Tr h h' g ok e e'
theorem BTr.hb (H : HeapRep w X h β) (M : Mp X h β X' h' β' g ok) {s s' : Site} (hg : g s = some s') (b : BTr h h' g ok (h s) (h' s')) : HB w X' h' β' s' := by
  obtain ⟨m1, m2, m3, m4⟩ := M.mv s s' hg
  rcases H.live s m1 with ⟨h1, h2⟩ | ⟨k, cur, h1, h2, h3, h4, h5, h6, h7⟩
  · refine .inl ⟨by rw [m3]; exact h1, List.eq_nil_of_length_eq_zero ?_⟩
    rw [← b.n, h2]; rfl
  · have hget : ∀ (i : Nat) (e' : List AV), (h' s').es[i]? = some e' → ∃ e, (h s).es[i]? = some e ∧ Tr h h' g ok e e' := by
      intro i e' hi
      have hlt := (List.getElem?_eq_some_iff.1 hi).1
      have h3 : (h s).es[i]? = some ((h s).es[i]'(by rw [b.n]; exact hlt)) := by simp
      exact ⟨_, h3, b.es i _ e' h3 hi⟩
    refine .inr ⟨k, cur, by rw [m3]; exact h1, by rw [b.T]; exact h2, by rw [m4, b.sz]; exact h3, by rw [m4]; exact h4, by rw [m4, ← b.n]; exact h5, fun e' he' => ?_, fun i j e' a hi ha => ?_⟩
    · obtain ⟨i, hi⟩ := List.mem_iff_getElem?.1 he'
      obtain ⟨e, h8, h9⟩ := hget i e' hi
      rw [b.sz, ← h9.length]; exact h6 e (List.mem_of_getElem? h8)
    · obtain ⟨e, h8, h9⟩ := hget i e' hi
      have hj : j < e'.length := (List.getElem?_eq_some_iff.1 ha).1
      obtain ⟨u, hu, hr⟩ := h7 i j e (e[j]'(by rw [h9.length]; exact hj)) h8 (by simp)
      exact ⟨u, by rw [b.sz]; exact hu, h9.rep H M j u _ a (by simp) ha hr⟩

/-! ### contracts with boxes -/
def dead : Box := ⟨0, false, 0, 0, []⟩
/-- the boxes that a call is lent, as it names them -/
def bx (ins : List Box) : Heap
  | .up k => ins.getD k dead
  | .loc _ => dead
/-- the boxes that it gives back: those lent, and new ones -/
def bo (outs news : List Box) : Heap
  | .up k => outs.getD k dead
  | .loc k => news.getD k dead
def FnS (P : Program) (f : FuncId) (ins : List Box) (args : List AV) (outs news : List Box) (r : AV) : Prop :=
  FnIs P f ∧ ∀ (X : Nat → Prop) (w : World) (vs : Array Value) (β : Blk), Gl X w → (∀ k, X k → k < w.heap.size) → HeapRep w X (bx ins) β → vs.size = args.length → (∀ (i : Nat) (v : Value) (a : AV), vs[i]? = some v → args[i]? = some a → RepV w X (bx ins) β v a) →
    Calls P f vs w fun e w' => ∃ v β', e = .returned v ∧ HeapRep w' X (bo outs news) β' ∧ RepV w' X (bo outs news) β' v r ∧ Keep (fun k => w.heap.size ≤ k ∨ ∃ s, (bx ins s).live = true ∧ β.b s = some k) w w' ∧
      ExB (bx ins) β (bo outs news) β' ∧ ∀ s b, (bo outs news s).live = true → β'.b s = some b → w.heap.size ≤ b ∨ ∃ s0, (bx ins s0).live = true ∧ β.b s0 = some b
theorem HeapRep.lt {w : World} (H : HeapRep w X h β) {s : Site} {b : Nat} (hl : (h s).live = true) (hb : β.b s = some b) : b < w.heap.size := by
  rcases H.live s hl with ⟨h0, _⟩ | ⟨b', c, h0, h1, _⟩
  · rw [hb] at h0; cases h0
  · obtain rfl : b = b' := by rw [hb] at h0; exact Option.some.inj h0
    exact (Array.getElem?_eq_some_iff.1 h1).1
def mkS (n : Nat) (X : Nat → Prop) (w : World) (h : Heap) (β : Blk) (hX : ∀ k, X k → k < w.heap.size) (hb : ∀ s b, (h s).live = true → β.b s = some b → ¬ X b) (hG : Gl X w) : Ctx :=
  ⟨X, fun k => w.heap.size ≤ k ∨ ∃ s, (h s).live = true ∧ β.b s = some k, w, n, fun _ h => .inl h, fun k hk hf => by
    rcases hf with hf | ⟨s, hl, hs⟩
    · exact absurd (hX k hk) (by omega)
    · exact hb s k hl hs hk, h, β, hG⟩
def gOf (L : List (Site × Site)) (s : Site) : Option Site := match L with
  | [] => none
  | p :: l => if s = p.1 then some p.2 else gOf l s
def kOf (L : List (Site × Site)) (s : Site) : Option Site := match L with
  | [] => none
  | p :: l => if s = p.2 then some p.1 else kOf l s
theorem kOf_mem {L : List (Site × Site)} {s s' : Site} (h : kOf L s' = some s) : s' ∈ L.map (·.2) := by
  induction L with
  | nil => simp [kOf] at h
  | cons p l ih =>
    simp only [kOf] at h
    split at h
    · rename_i e; simp [e]
    · exact List.mem_cons_of_mem _ (ih h)
theorem gOf_mem {L : List (Site × Site)} {s s' : Site} (h : gOf L s = some s') : (s, s') ∈ L := by
  induction L with
  | nil => simp [gOf] at h
  | cons p l ih =>
    simp only [gOf] at h
    split at h
    · rename_i e; injection h with h; subst e; subst h; exact List.mem_cons_self
    · exact List.mem_cons_of_mem _ (ih h)
theorem kOf_of {L : List (Site × Site)} (hn : (L.map (·.2)).Nodup) {s s' : Site} (h : (s, s') ∈ L) : kOf L s' = some s := by
  induction L with
  | nil => cases h
  | cons p l ih =>
    simp only [List.map_cons, List.nodup_cons] at hn
    rcases List.mem_cons.1 h with rfl | h
    · simp [kOf]
    · have : s' ≠ p.2 := fun e => hn.1 (e ▸ List.mem_map.2 ⟨(s, s'), h, rfl⟩)
      simp only [kOf, if_neg this]
      exact ih hn.2 h

/-- how a body ends: what its boxes are called from now on -/
structure FinS (rs : List Nat) (ins outs news : List Box) (r : List AV) (e : Exit) (σ : St) : Prop where
  ret : e = .ret
  fin : ∃ L : List (Site × Site), (L.map (·.2)).Nodup ∧ (∀ p ∈ L, gOf L p.1 = some p.2 ∧ (σ.h p.1).live = true ∧ BTr σ.h (bo outs news) (gOf L) (fun s => gOf L s = none) (σ.h p.1) (bo outs news p.2)) ∧
    (∀ s, (bo outs news s).live = true → s ∈ L.map (·.2)) ∧ Tr σ.h (bo outs news) (gOf L) (fun s => gOf L s = none) (rs.map σ.t) r ∧
    (∀ s, (bx ins s).ver ≤ (bo outs news s).ver) ∧ ∀ s, (bo outs news s).live = true → (bx ins s).ver = (bo outs news s).ver → gOf L s = some s ∧ (σ.h s).ver = (bx ins s).ver
theorem FnS.intro {f : FuncId} {fn : Func} {c : Code} {args : List AV} {rs : List Nat} {ins outs news : List Box} {r : List AV} {n : Nat} (hf : P.funcs[f]? = some fn) (hname : (fn.name == "runtime.NumGoroutine") = false) (hb : fn.body = some c) (hr : fn.results = (rs.map ResultVar.tmp).toArray) (hn : fn.ntmps = n) (hsz : args.length ≤ n)
    (hw : ∀ X w β hX hb hG, W P (mkS n X w (bx ins) β hX hb hG) c (FinS rs ins outs news r) ⟨asc (argL 0 args), bx ins⟩) : FnS P f ins args outs news (rOf r) := by
  refine ⟨⟨fn, hf, hname, by rw [hb]; rfl⟩, fun X w vs β hG hX H hvs hrep => ?_⟩
  refine calls_of_wp hf hb (Code.wp_mono ?_ (hw X w β hX H.bar hG _ w β ⟨?_, rfl, fun i => ?_, H, fun s b hl hb => .inr ⟨s, hl, hb⟩, Keep.refl _ _, ExB.refl _ _⟩))
  · rintro e a' w' ⟨σ', β1, ⟨rfl, L, hnd, hL, hcov, htr, hver, href⟩, S⟩
    have hgk : ∀ s s', gOf L s = some s' → kOf L s' = some s := fun s s' hg => kOf_of hnd (gOf_mem hg)
    have hkg : ∀ p ∈ L, kOf L p.2 = some p.1 := fun p hp => kOf_of hnd hp
    let β2 : Blk := ⟨fun s' => (kOf L s').bind β1.b, fun s' => ((kOf L s').map β1.cap).getD 0⟩
    have hk2 : ∀ s s', kOf L s' = some s → (s, s') ∈ L := by
      intro s s' hk
      obtain ⟨p, hp, rfl⟩ := List.mem_map.1 (kOf_mem hk)
      rw [hkg p hp] at hk; injection hk with hk; subst hk; exact hp
    have M : Mp X σ'.h β1 X (bo outs news) β2 (gOf L) (fun s => gOf L s = none) := by
      refine ⟨fun b ho => ⟨ho.1, fun s' hl hb' => ?_⟩, fun s s' hg => ?_, fun s b hl hs hb' => ⟨S.hp.bar s b hl hb', fun s' hl' hb2 => ?_⟩⟩
      · have hb3 : (kOf L s').bind β1.b = some b := hb'
        cases hk : kOf L s' with
        | none => rw [hk] at hb3; cases hb3
        | some s => rw [hk] at hb3; exact ho.2 s (hL _ (hk2 s s' hk)).2.1 hb3
      · obtain ⟨_, h2, h3⟩ := hL _ (gOf_mem hg)
        refine ⟨h2, h3.sz, ?_, ?_⟩
        · show (kOf L s').bind β1.b = _; rw [hgk s s' hg]; rfl
        · show ((kOf L s').map β1.cap).getD 0 = _; rw [hgk s s' hg]; rfl
      · have hb3 : (kOf L s').bind β1.b = some b := hb2
        cases hk : kOf L s' with
        | none => rw [hk] at hb3; cases hb3
        | some s2 =>
          rw [hk] at hb3
          obtain ⟨h1, h2, _⟩ := hL _ (hk2 s2 s' hk)
          have := S.hp.inj s s2 b hl h2 hb' hb3
          subst this
          have h4 : gOf L s = none := hs
          rw [h4] at h1; cases h1
    have hR : ∀ (i : Nat) (v : Value) (b : AV), (rs.map fun t => a'.tmps.getD t undef)[i]? = some v → r[i]? = some b → RepV w' X (bo outs news) β2 v b := by
      intro i v b hv hb'
      obtain ⟨t, ht, rfl⟩ := List.getElem?_map .. ▸ hv |> fun h => (by simpa using h : ∃ t, rs[i]? = some t ∧ a'.tmps.getD t undef = v)
      exact htr.rep S.hp M i _ (σ'.t t) b (by simp [ht]) hb' (S.t t)
    have hlen : rs.length = r.length := by have := htr.length; simpa using this
    have hsrc : ∀ s, (bo outs news s).live = true → ∃ s1, (s1, s) ∈ L ∧ kOf L s = some s1 ∧ gOf L s1 = some s ∧ (σ'.h s1).live = true ∧ BTr σ'.h (bo outs news) (gOf L) (fun s => gOf L s = none) (σ'.h s1) (bo outs news s) := by
      intro s hl
      obtain ⟨p, hp, rfl⟩ := List.mem_map.1 (hcov s hl)
      obtain ⟨h1, h2, h3⟩ := hL p hp
      exact ⟨p.1, hp, hkg p hp, h1, h2, h3⟩
    have hbb : ∀ s b, (bo outs news s).live = true → β2.b s = some b → ∃ s1, gOf L s1 = some s ∧ (σ'.h s1).live = true ∧ β1.b s1 = some b := by
      intro s b hl hb'
      obtain ⟨s1, hm, hk, hg, hl1, _⟩ := hsrc s hl
      have hb3 : (kOf L s).bind β1.b = some b := hb'
      rw [hk] at hb3
      exact ⟨s1, hg, hl1, hb3⟩
    refine ⟨S.d, _, results_tmps hr _ _, _, β2, rfl, ⟨fun s hl => ?_, fun s s' b hl hl' e1 e2 => ?_, fun s b hl hb' => ?_⟩, ?_, S.keep, ⟨hver, fun s hv hl => ?_⟩, fun s b hl hb' => ?_⟩
    · obtain ⟨s1, hm, hk, hg, hl1, hB⟩ := hsrc s hl
      exact BTr.hb S.hp M hg hB
    · obtain ⟨s1, hg1, hl1, hb1⟩ := hbb s b hl e1
      obtain ⟨s2, hg2, hl2, hb2⟩ := hbb s' b hl' e2
      have := S.hp.inj s1 s2 b hl1 hl2 hb1 hb2
      subst this
      rw [hg1] at hg2; exact Option.some.inj hg2
    · obtain ⟨s1, hg1, hl1, hb1⟩ := hbb s b hl hb'
      exact S.hp.bar s1 b hl1 hb1
    · match rs, r, hlen, hR with
      | [], [], _, _ => exact .tup _ _ rfl (fun i v a hv => by simp at hv)
      | [t], [a], _, hk => exact hk 0 _ _ rfl rfl
      | t :: t' :: rs, a :: a2 :: r, hl, hk =>
        refine .tup _ _ (by simpa using hl) (fun i v b hv hb' => hk i v b (by simpa using hv) hb')
    · obtain ⟨hg, hv1⟩ := href s hl hv
      obtain ⟨m1, m2, m3, m4⟩ := M.mv s s hg
      obtain ⟨l1, s1, b1, c1⟩ := S.ex.ref s hv1.symm m1
      exact ⟨l1, m2.trans s1, m3.trans b1, m4.trans c1⟩
    · obtain ⟨s1, hg1, hl1, hb1⟩ := hbb s b hl hb'
      exact S.fr s1 b hl1 hb1
  · show (vs ++ Array.replicate (fn.ntmps - vs.size) undef).size = n
    simp [hn, hvs]; omega
  · show RepV w X (bx ins) β ((vs ++ Array.replicate (fn.ntmps - vs.size) undef).getD i undef) (asc (argL 0 args) i)
    rw [asc_argL, if_pos (Nat.zero_le _), Nat.sub_zero]
    by_cases hi : i < args.length
    · have h1 : (vs ++ Array.replicate (fn.ntmps - vs.size) undef).getD i undef = vs[i]'(by omega) := by simp [Array.getElem?_append_left (show i < vs.size by omega), show i < vs.size by omega]
      rw [h1]
      exact hrep i _ _ (by simp) (by simp [hi])
    · rw [show args.getD i .junk = .junk from by simp [Nat.not_lt.1 hi]]
      exact .junk _
end Go.Proofs.YtpbjbnghcbcdiaaDoor.AM
