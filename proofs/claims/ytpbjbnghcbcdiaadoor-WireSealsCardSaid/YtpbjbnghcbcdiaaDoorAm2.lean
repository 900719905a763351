/- The abstract machine, part 2: one operation's effect as data, and regions, in the text's order or in a drawn one. Conditions: none. -/
import Derived.Test.YtpbjbnghcbcdiaaDoorAm1
namespace Go.Proofs.YtpbjbnghcbcdiaaDoor.AM
open Go

structure OpD where
  rs : List (Nat × AV)
  rh : List (Site × Box)
  d : Option Nat
  v : AV
  wh : List (Site × Box)

def hupds (f : Heap) : List (Site × Box) → Heap
  | [] => f
  | p :: r => hupds (hupd f p.1 p.2) r

def OpD.facts (x : OpD) (σ : St) : Prop := (∀ p ∈ x.rs, σ.t p.1 = p.2) ∧ (∀ p ∈ x.rh, σ.h p.1 = p.2)
def OpD.app (x : OpD) (σ : St) : St := ⟨updO σ.t x.d x.v, hupds σ.h x.wh⟩

/-- Where its facts hold, the operation leads on to its effect. -/
def OpSem (P : Program) (C : Ctx) (ops : Array Oper) (o : Oper) (x : OpD) : Prop :=
  ∀ σ a w β, x.facts σ → Sim C σ a w β → ∀ (K : Act → World → Prop) (Q : Exit → Act → World → Prop), (∀ a' w' β', Sim C (x.app σ) a' w' β' → K a' w') →
    if Region.wanted o (yielded ops a.tmps) then o.wp P a w K Q else K (a.put o.dst undef) w

structure Step (P : Program) (C : Ctx) (ops : Array Oper) (o : Oper) (σ : St) (x : OpD) : Prop where
  sem : OpSem P C ops o x
  facts : x.facts σ

inductive Chain (P : Program) (C : Ctx) (ops : Array Oper) : List Oper → St → List OpD → St → Prop
  | nil (σ : St) : Chain P C ops [] σ [] σ
  | cons {o : Oper} {l : List Oper} {σ σ' : St} {x : OpD} {xs : List OpD} (h : Step P C ops o σ x) (r : Chain P C ops l (x.app σ) xs σ') : Chain P C ops (o :: l) σ (x :: xs) σ'

theorem Chain.wpList {P : Program} {C : Ctx} {ops : Array Oper} {l : List Oper} {σ σ' : St} {xs : List OpD} (c : Chain P C ops l σ xs σ') {Q : Exit → Act → World → Prop}
    (hQ : ∀ a w β, Sim C σ' a w β → Q .normal a w) : ∀ a w β, Sim C σ a w β → wpList P ops Q l a w := by
  induction c with
  | nil σ => exact fun a w β S => hQ a w β S
  | cons h r ih =>
    intro a w β S
    refine wpList_step fun K hK => ?_
    exact h.sem _ a w β h.facts S K Q (fun a' w' β' S' => hK _ _ (ih hQ a' w' β' S'))

/-! ### a drawn order -/
def sEq (a b : Site) : Bool := decide (a = b)
/-- Does x write what y reads or writes? -/
def OpD.hits (x y : OpD) : Bool :=
  (match x.d with | some k => y.rs.any (fun p => p.1 == k) || y.d == some k | none => false) ||
  x.wh.any fun p => y.rh.any (fun q => sEq p.1 q.1) || y.wh.any (fun q => sEq p.1 q.1)
def OpD.apart (x y : OpD) : Bool := !x.hits y && !y.hits x

theorem updO_ne {t : Nat → AV} {d : Option Nat} {v : AV} {i : Nat} (h : d ≠ some i) : updO t d v i = t i := by
  cases d with
  | none => rfl
  | some k => exact upd_ne _ _ (fun e => h (by rw [e]))
theorem hupds_ne (l : List (Site × Box)) : ∀ {f : Heap} {s : Site}, (∀ p ∈ l, p.1 ≠ s) → hupds f l s = f s := by
  induction l with
  | nil => intro f s _; rfl
  | cons p l ih =>
    intro f s h
    rw [hupds, ih (fun q hq => h q (List.mem_cons_of_mem _ hq)), hupd_ne _ _ (fun e => h p List.mem_cons_self e.symm)]
theorem OpD.hits_t {x y : OpD} (h : x.hits y = false) {p : Nat × AV} (hp : p ∈ y.rs) (σ : St) : (x.app σ).t p.1 = σ.t p.1 := by
  refine updO_ne fun e => ?_
  simp only [OpD.hits, e, Bool.or_eq_false_iff, List.any_eq_false] at h
  exact h.1.1 p hp (by simp)
theorem OpD.hits_d {x y : OpD} (h : x.hits y = false) {k : Nat} (hk : x.d = some k) : y.d ≠ some k := by
  simp only [OpD.hits, hk, Bool.or_eq_false_iff] at h
  intro e
  simp [e] at h
theorem OpD.hits_wr {x y : OpD} (h : x.hits y = false) {p q : Site × Box} (hp : p ∈ x.wh) (hq : q ∈ y.rh) : p.1 ≠ q.1 := by
  simp only [OpD.hits, Bool.or_eq_false_iff, List.any_eq_false, Bool.not_eq_true] at h
  have := (h.2 p hp).1 q hq
  simpa [sEq] using this
theorem OpD.hits_ww {x y : OpD} (h : x.hits y = false) {p q : Site × Box} (hp : p ∈ x.wh) (hq : q ∈ y.wh) : p.1 ≠ q.1 := by
  simp only [OpD.hits, Bool.or_eq_false_iff, List.any_eq_false, Bool.not_eq_true] at h
  have := (h.2 p hp).2 q hq
  simpa [sEq] using this
theorem OpD.facts_app {x y : OpD} (h : x.hits y = false) (σ : St) : y.facts (x.app σ) ↔ y.facts σ := by
  have e1 : ∀ p ∈ y.rs, (x.app σ).t p.1 = σ.t p.1 := fun p hp => OpD.hits_t h hp σ
  have e2 : ∀ q ∈ y.rh, (x.app σ).h q.1 = σ.h q.1 := fun q hq => hupds_ne _ (fun p hp => OpD.hits_wr h hp hq)
  constructor
  · rintro ⟨a, b⟩
    exact ⟨fun p hp => (e1 p hp).symm.trans (a p hp), fun q hq => (e2 q hq).symm.trans (b q hq)⟩
  · rintro ⟨a, b⟩
    exact ⟨fun p hp => (e1 p hp).trans (a p hp), fun q hq => (e2 q hq).trans (b q hq)⟩
theorem updO_comm {t : Nat → AV} {d e : Option Nat} {v u : AV} (h : ∀ k, d = some k → e ≠ some k) : updO (updO t d v) e u = updO (updO t e u) d v := by
  cases d with
  | none => rfl
  | some k =>
    cases e with
    | none => rfl
    | some m =>
      have hne : m ≠ k := fun e => h k rfl (by rw [e])
      funext i
      simp only [updO, upd]
      by_cases h1 : i = m <;> by_cases h2 : i = k <;> simp [h1, h2]
      · exact absurd (h1.symm.trans h2) hne
      · subst h1; simp [hne]
      · subst h2; simp [Ne.symm hne]
theorem hupd_comm {f : Heap} {s s' : Site} {b b' : Box} (h : s ≠ s') : hupd (hupd f s b) s' b' = hupd (hupd f s' b') s b := by
  funext i
  simp only [hupd]
  by_cases h1 : i = s' <;> by_cases h2 : i = s <;> simp [h1, h2]
  · exact absurd (h2.symm.trans h1) h
  · subst h1; simp [Ne.symm h]
  · subst h2; simp [h]
theorem hupds_hupd (l : List (Site × Box)) : ∀ {f : Heap} {s : Site} {b : Box}, (∀ p ∈ l, p.1 ≠ s) → hupds (hupd f s b) l = hupd (hupds f l) s b := by
  induction l with
  | nil => intros; rfl
  | cons p l ih =>
    intro f s b h
    rw [hupds, hupds, hupd_comm (fun e => h p List.mem_cons_self e.symm), ih (fun q hq => h q (List.mem_cons_of_mem _ hq))]
theorem hupds_comm (l : List (Site × Box)) : ∀ {m : List (Site × Box)} {f : Heap}, (∀ p ∈ l, ∀ q ∈ m, p.1 ≠ q.1) → hupds (hupds f l) m = hupds (hupds f m) l := by
  induction l with
  | nil => intros; rfl
  | cons p l ih =>
    intro m f h
    rw [hupds, hupds, ih (fun q hq => h q (List.mem_cons_of_mem _ hq)), hupds_hupd m (fun q hq e => h p List.mem_cons_self q hq e.symm)]
theorem OpD.app_comm {x y : OpD} (h : x.apart y = true) (σ : St) : y.app (x.app σ) = x.app (y.app σ) := by
  simp only [OpD.apart, Bool.and_eq_true, Bool.not_eq_true'] at h
  simp only [OpD.app, St.mk.injEq]
  exact ⟨updO_comm (fun k hk => OpD.hits_d h.1 hk), hupds_comm _ (fun p hp q hq => OpD.hits_ww h.1 hp hq)⟩

/-- Chains over numbered operations. -/
inductive NChain (P : Program) (C : Ctx) (ops : Array Oper) (X : Nat → OpD) : List Nat → St → St → Prop
  | nil (σ : St) : NChain P C ops X [] σ σ
  | cons {i : Nat} {l : List Nat} {σ σ' : St} (o : Oper) (ho : ops[i]? = some o) (h : OpSem P C ops o (X i)) (f : (X i).facts σ) (r : NChain P C ops X l ((X i).app σ) σ') : NChain P C ops X (i :: l) σ σ'

theorem NChain.swap {P : Program} {C : Ctx} {ops : Array Oper} {X : Nat → OpD} {i j : Nat} {l : List Nat} {σ σ' : St} (h : (X i).apart (X j) = true) (c : NChain P C ops X (i :: j :: l) σ σ') : NChain P C ops X (j :: i :: l) σ σ' := by
  cases c with
  | cons o ho h1 f1 r =>
    cases r with
    | cons o' ho' h2 f2 r =>
      have hh := h
      simp only [OpD.apart, Bool.and_eq_true, Bool.not_eq_true'] at hh
      have fj : (X j).facts σ := (OpD.facts_app hh.1 σ).1 f2
      have fi : (X i).facts ((X j).app σ) := (OpD.facts_app hh.2 σ).2 f1
      refine .cons o' ho' h2 fj (.cons o ho h1 fi ?_)
      rw [← OpD.app_comm h σ]
      exact r

theorem NChain.front {P : Program} {C : Ctx} {ops : Array Oper} {X : Nat → OpD} {i : Nat} {l m : List Nat} : ∀ {σ σ' : St}, (∀ j ∈ l, (X j).apart (X i) = true) → NChain P C ops X (l ++ i :: m) σ σ' → NChain P C ops X (i :: (l ++ m)) σ σ' := by
  induction l with
  | nil => exact fun _ c => c
  | cons j l ih =>
    intro σ σ' h c
    cases c with
    | cons o ho h1 f1 r =>
      have c2 := ih (fun k hk => h k (List.mem_cons_of_mem _ hk)) r
      exact NChain.swap (h j List.mem_cons_self) (.cons o ho h1 f1 c2)

/-- The operations that must come ahead of one, by the edges that bind, directly or not. -/
def anc (ops : Array Oper) : Nat → List Nat
  | i => (match ops[i]? with
    | none => []
    | some o => o.after.toList.flatMap fun e => if _h : Region.binds .any e = true ∧ e.on < i then e.on :: anc ops e.on else [])
termination_by i => i
decreasing_by omega

theorem anc_listed {ops : Array Oper} {L : Nat → Prop} :
    ∀ i o, ops[i]? = some o → (∀ e ∈ o.after, Region.binds .any e = true → L e.on) → (∀ k o', L k → ops[k]? = some o' → ∀ e ∈ o'.after, Region.binds .any e = true → L e.on) → ∀ j ∈ anc ops i, L j := by
  intro i
  induction i using Nat.strongRecOn with
  | _ i ih =>
    intro o ho hr hclosed j hj
    rw [anc] at hj
    simp only [ho, List.mem_flatMap] at hj
    obtain ⟨e, he, hj⟩ := hj
    have he' : e ∈ o.after := by simpa using he
    split at hj
    · rename_i hb
      rcases List.mem_cons.1 hj with rfl | hj
      · exact hr e he' hb.1
      · have hl := hr e he' hb.1
        cases ho2 : ops[e.on]? with
        | none => rw [anc] at hj; simp [ho2] at hj
        | some o2 => exact ih e.on hb.2 o2 ho2 (hclosed e.on o2 hl ho2) hclosed j hj
    · simp at hj

/-- Static: edges go back; whatever is not apart is ordered. -/
def backOk (ops : Array Oper) : Bool := (List.range ops.size).all fun i => match ops[i]? with | some o => o.after.all fun e => !Region.binds .any e || decide (e.on < i) | none => true
def drawOk (A : List (List Nat)) (xs : List OpD) : Bool :=
  (List.range xs.length).all fun i => (List.range i).all fun j => (A.getD i []).contains j || (match xs[j]?, xs[i]? with | some x, some y => x.apart y | _, _ => false)
def ancs (ops : Array Oper) : List (List Nat) := (List.range ops.size).map (anc ops)

theorem NChain.of_chain {P : Program} {C : Ctx} {ops : Array Oper} {l : List Oper} {σ σ' : St} {xs : List OpD} (c : Chain P C ops l σ xs σ') :
    ∀ k, (∀ j, l[j]? = ops[k + j]?) → ∀ X : Nat → OpD, (∀ j x, xs[j]? = some x → X (k + j) = x) → NChain P C ops X (List.range' k l.length) σ σ' := by
  induction c with
  | nil σ => exact fun _ _ _ _ => .nil σ
  | cons h r ih =>
    rename_i o l σ σ' x xs
    intro k hl X hX
    have hk : X k = x := hX 0 x rfl
    rw [List.length_cons, List.range'_succ]
    refine .cons o (by have := hl 0; simpa using this.symm) (by rw [hk]; exact h.sem) (by rw [hk]; exact h.facts) ?_
    rw [hk]
    refine ih (k + 1) (fun j => ?_) X (fun j y hy => ?_)
    · have := hl (j + 1)
      rw [List.getElem?_cons_succ] at this
      rw [this]; congr 1; omega
    · rw [show k + 1 + j = k + (j + 1) from by omega]
      exact hX (j + 1) y (by simpa using hy)
theorem Chain.length {P : Program} {C : Ctx} {ops : Array Oper} {l : List Oper} {σ σ' : St} {xs : List OpD} (c : Chain P C ops l σ xs σ') : xs.length = l.length := by
  induction c with
  | nil => rfl
  | cons _ _ ih => simp [ih]

theorem wpAny_of_chain {P : Program} {C : Ctx} {ops : Array Oper} {X : Nat → OpD} {Q : Exit → Act → World → Prop} {σ' : St}
    (hback : ∀ i o, ops[i]? = some o → ∀ e ∈ o.after, Region.binds .any e = true → e.on < i)
    (hord : ∀ i j, i < ops.size → j < i → j ∉ anc ops i → (X j).apart (X i) = true)
    (hQ : ∀ a w β, Sim C σ' a w β → Q .normal a w) :
    ∀ (fuel : Nat) (T : List Nat) (listed : Array Bool) (σ : St) (a : Act) (w : World) (β : Blk),
      T.length ≤ fuel → T.Pairwise (· < ·) → listed.size = ops.size → (∀ i, i < ops.size → (i ∈ T ↔ listed.getD i true = false)) → (∀ i ∈ T, i < ops.size) →
      (∀ k o, listed.getD k false = true → ops[k]? = some o → ∀ e ∈ o.after, Region.binds .any e = true → listed.getD e.on false = true) →
      NChain P C ops X T σ σ' → Sim C σ a w β → wpAny P .any ops Q fuel listed a w := by
  intro fuel
  induction fuel with
  | zero =>
    intro T listed σ a w β hlen _ hsz hT hTs _ hc S
    obtain rfl : T = [] := List.eq_nil_of_length_eq_zero (by omega)
    cases hc
    refine ⟨?_, hQ a w β S⟩
    rw [List.eq_nil_iff_forall_not_mem]
    intro i hi
    obtain ⟨h0, o, ho, _⟩ := mem_ready.1 hi
    have := (hT i (Array.getElem?_eq_some_iff.1 ho).1).2 h0
    cases this
  | succ fuel ih =>
    intro T listed σ a w β hlen hsorted hsz hT hTs hclosed hc S
    refine ⟨fun hr => ?_, fun i hi => ?_⟩
    · -- nothing is ready: nothing is left
      cases T with
      | nil => cases hc; exact hQ a w β S
      | cons t T =>
        exfalso
        have ht := hTs t List.mem_cons_self
        have : t ∈ Region.ready .any ops listed := by
          refine mem_ready.2 ⟨(hT t ht).1 List.mem_cons_self, ops[t], by simp [ht], fun e he hb => ?_⟩
          have hlt := hback t ops[t] (by simp [ht]) e he hb
          have hnot : e.on ∉ t :: T := by
            intro hm
            rcases List.mem_cons.1 hm with h | h
            · omega
            · have := List.rel_of_pairwise_cons hsorted h; omega
          have := mt (hT e.on (by omega)).2 hnot
          rcases hd : listed.getD e.on false with _ | _
          · exfalso; apply this
            have hes : e.on < listed.size := by omega
            simpa [hes] using hd
          · rfl
        rw [hr] at this; cases this
    · obtain ⟨h0, o, ho, hall⟩ := mem_ready.1 hi
      have hilt := (Array.getElem?_eq_some_iff.1 ho).1
      have hiT := (hT i hilt).2 h0
      obtain ⟨l, m, rfl⟩ := List.append_of_mem hiT
      have hanc : ∀ j ∈ anc ops i, listed.getD j false = true := anc_listed i o ho hall hclosed
      have hpw := List.pairwise_append.1 hsorted
      have hap : ∀ j ∈ l, (X j).apart (X i) = true := fun j hj => by
        have hji : j < i := hpw.2.2 j hj i List.mem_cons_self
        refine hord i j hilt hji fun hm => ?_
        have h1 := hanc j hm
        have h2 := (hT j (by omega)).1 (List.mem_append_left _ hj)
        have hjs : j < listed.size := by omega
        simp [hjs] at h1 h2
        rw [h1] at h2; cases h2
      have c2 := NChain.front hap hc
      cases c2 with
      | cons o' ho' hsem hf hr2 =>
        obtain rfl : o = o' := by rw [ho] at ho'; exact Option.some.inj ho'
        have hmi : i ∉ l ++ m := by
          intro hm
          rcases List.mem_append.1 hm with h | h
          · have := hpw.2.2 i h i List.mem_cons_self; omega
          · have := List.rel_of_pairwise_cons hpw.2.1 h; omega
        have key : ∀ a' w' β', Sim C ((X i).app σ) a' w' β' → wpAny P .any ops Q fuel (listed.setIfInBounds i true) a' w' := fun a' w' β' S' => by
          refine ih (l ++ m) _ _ a' w' β' (by simp at hlen ⊢; omega) ?_ (by simpa using hsz) (fun k hk => ?_) (fun k hk => hTs k ?_) (fun k o2 hk ho2 e he hb => ?_) hr2 S'
          · refine List.pairwise_append.2 ⟨hpw.1, (List.pairwise_cons.1 hpw.2.1).2, fun x hx y hy => hpw.2.2 x hx y (List.mem_cons_of_mem _ hy)⟩
          · by_cases hki : i = k
            · subst hki
              have his : i < listed.size := by omega
              constructor
              · exact fun h => absurd h hmi
              · intro h; simp [his] at h
            · rw [getD_set_ne true hki, ← hT k hk]
              simp only [List.mem_append, List.mem_cons]
              constructor
              · rintro (h | h)
                · exact .inl h
                · exact .inr (.inr h)
              · rintro (h | h | h)
                · exact .inl h
                · exact absurd h.symm hki
                · exact .inr h
          · rcases List.mem_append.1 hk with h | h
            · exact List.mem_append_left _ h
            · exact List.mem_append_right _ (List.mem_cons_of_mem _ h)
          · by_cases hki : i = k
            · subst hki
              obtain rfl : o = o2 := by rw [ho] at ho2; exact Option.some.inj ho2
              exact getD_set_true (hall e he hb)
            · rw [getD_set_ne false hki] at hk
              exact getD_set_true (hclosed k o2 hk ho2 e he hb)
        have := hsem σ a w β hf S (wpAny P .any ops Q fuel (listed.setIfInBounds i true)) Q key
        unfold wpOp
        simp only [ho]
        split
        · rename_i hw; rw [if_pos hw] at this; exact .inl this
        · rename_i hw; rw [if_neg hw] at this; exact this

theorem wp_drawn {P : Program} {C : Ctx} {id : Nat} {ops : Array Oper} {σ σ' : St} {xs : List OpD} (hm : P.follows .mixedOrders = true) (c : Chain P C ops ops.toList σ xs σ') (hb : backOk ops = true) {A : List (List Nat)} (hA : ancs ops = A) (hd : drawOk A xs = true)
    {Q : Exit → Act → World → Prop} (hQ : ∀ a w β, Sim C σ' a w β → Q .normal a w) {a : Act} {w : World} {β : Blk} (S : Sim C σ a w β) : (Code.region id ops true).wp P Q a w := by
  refine wp_region_any hm ?_
  have hback : ∀ i o, ops[i]? = some o → ∀ e ∈ o.after, Region.binds .any e = true → e.on < i := by
    intro i o ho e he hbd
    simp only [backOk, List.all_eq_true, List.mem_range] at hb
    have := hb i (Array.getElem?_eq_some_iff.1 ho).1
    simp only [ho] at this
    have h2 := Array.all_eq_true_iff_forall_mem.1 this e he
    simpa [hbd] using h2
  have hlen : xs.length = ops.size := c.length.trans Array.length_toList
  have hX : NChain P C ops (fun i => xs.getD i ⟨[], [], none, .junk, []⟩) (List.range' 0 ops.toList.length) σ σ' :=
    NChain.of_chain c 0 (fun j => by simp) _ (fun j x hx => by simp [List.getD_eq_getElem?_getD, hx])
  refine wpAny_of_chain hback (X := fun i => xs.getD i ⟨[], [], none, .junk, []⟩) (fun i j hi hj hn => ?_) hQ ops.size (List.range' 0 ops.toList.length) _ σ a _ β (by simp) (by simpa [← List.range_eq_range'] using List.pairwise_lt_range) (by simp) (fun i hi => ?_) (fun i hi => ?_) (fun k o hk => ?_) hX S.drew
  · simp only [drawOk, List.all_eq_true, List.mem_range, Bool.or_eq_true] at hd
    have h1 := hd i (by omega) j hj
    rcases h1 with h1 | h1
    · exfalso
      rw [← hA] at h1
      simp [ancs, List.getD_eq_getElem?_getD, List.getElem?_map, List.getElem?_range hi] at h1
      exact hn h1
    · have hi' : i < xs.length := by omega
      have hj' : j < xs.length := by omega
      simpa [List.getD_eq_getElem?_getD, hi', hj'] using h1
  · simp [hi]
  · simpa using hi
  · exfalso
    by_cases hk2 : k < ops.size <;> simp [hk2] at hk

end Go.Proofs.YtpbjbnghcbcdiaaDoor.AM
