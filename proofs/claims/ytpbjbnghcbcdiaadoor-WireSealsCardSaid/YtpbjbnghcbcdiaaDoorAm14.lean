/- The abstract machine, part 14: a call that is lent boxes, from its caller's side. Conditions: none. -/
import Derived.Test.YtpbjbnghcbcdiaaDoorAm13
set_option linter.unusedVariables false
namespace Go.Proofs.YtpbjbnghcbcdiaaDoor.AM
open Go

variable {P : Program} {C : Ctx} {ops : Array Oper} {σ : St} {w w' : World} {X X' : Nat → Prop} {h h' : Heap} {β β' : Blk} {g : Site → Option Site} {ok : Site → Prop}

theorem Tr.congr {h2 h2' : Heap} (hh : ∀ s, (g s ≠ none ∨ ok s) → h2 s = h s) (hh' : ∀ s s', g s = some s' → h2' s' = h' s') {l l' : List AV} (f : Tr h h' g ok l l') : Tr h2 h2' g ok l l' := by
  induction f with
  | nil => exact .nil
  | pur hp hr ih => exact .pur hp ih
  | nils hr ih => exact .nils ih
  | agg hc hr i1 i2 => exact .agg i1 i2
  | tup hc hr i1 i2 => exact .tup i1 i2
  | own hs hB hl hn he hle hp hr i1 i2 => exact .own hs ((hh _ (.inr hs)).trans hB) hl hn he hle i1 i2
  | ptr hs hB hl he hp hr i1 i2 => exact .ptr hs ((hh _ (.inr hs)).trans hB) hl he i1 i2
  | ifc hp hr i1 i2 => exact .ifc i1 i2
  | fn hc hr i1 i2 => exact .fn i1 i2
  | mvO hg hv hv' hr ih => exact .mvO hg (by rw [hh _ (.inl (by rw [hg]; simp))]; exact hv) (by rw [hh' _ _ hg]; exact hv') ih
  | mvP hg hv hv' hr ih => exact .mvP hg (by rw [hh _ (.inl (by rw [hg]; simp))]; exact hv) (by rw [hh' _ _ hg]; exact hv') ih
theorem BTr.congr {h2 h2' : Heap} (hh : ∀ s, (g s ≠ none ∨ ok s) → h2 s = h s) (hh' : ∀ s s', g s = some s' → h2' s' = h' s') {A B : Box} (b : BTr h h' g ok A B) : BTr h2 h2' g ok A B :=
  ⟨b.T, b.sz, b.n, fun i e e' he he' => (b.es i e e' he he').congr hh hh'⟩
theorem BTr.same {A : Box} (hp : ∀ e ∈ A.es, PurL e) {v' : Nat} {l' : Bool} : BTr h h' g ok A ⟨v', l', A.T, A.sz, A.es⟩ :=
  ⟨rfl, rfl, rfl, fun i e e' he he' => by
    have h1 : A.es[i]? = some e' := he'
    rw [he] at h1; obtain rfl := Option.some.inj h1; exact Tr.purs (hp e (List.mem_of_getElem? he))⟩

def bOf (L : List (Site × Site)) (β : Blk) : Blk := ⟨fun s' => (kOf L s').bind β.b, fun s' => ((kOf L s').map β.cap).getD 0⟩
theorem k_mem {L : List (Site × Site)} (hnd : (L.map (·.2)).Nodup) {s s' : Site} (hk : kOf L s' = some s) : (s, s') ∈ L := by
  obtain ⟨p, hp, rfl⟩ := List.mem_map.1 (kOf_mem hk)
  rw [kOf_of hnd (show (p.1, p.2) ∈ L from hp)] at hk; injection hk with hk; subst hk; exact hp
/-- boxes, named anew for a call -/
theorem canon (H : HeapRep w X h β) {L : List (Site × Site)} (hnd : (L.map (·.2)).Nodup) (hL : ∀ p ∈ L, gOf L p.1 = some p.2 ∧ (h p.1).live = true ∧ BTr h h' (gOf L) ok (h p.1) (h' p.2)) (hcov : ∀ s, (h' s).live = true → s ∈ L.map (·.2))
    (hX : ∀ b, Okb X h β b → ¬ X' b) (hX2 : ∀ s b, (h s).live = true → (gOf L s ≠ none ∨ ok s) → β.b s = some b → ¬ X' b) (hok : ∀ s, ok s → gOf L s = none) :
    Mp X h β X' h' (bOf L β) (gOf L) ok ∧ HeapRep w X' h' (bOf L β) := by
  have M : Mp X h β X' h' (bOf L β) (gOf L) ok := by
    refine ⟨fun b ho => ⟨hX b ho, fun s' hl hb' => ?_⟩, fun s s' hg => ?_, fun s b hl hs hb' => ⟨hX2 s b hl (.inr hs) hb', fun s' hl' hb2 => ?_⟩⟩
    · have hb3 : (kOf L s').bind β.b = some b := hb'
      cases hk : kOf L s' with
      | none => rw [hk] at hb3; cases hb3
      | some s => rw [hk] at hb3; exact ho.2 s (hL _ (k_mem hnd hk)).2.1 hb3
    · obtain ⟨_, h2, h3⟩ := hL _ (gOf_mem hg)
      refine ⟨h2, h3.sz, ?_, ?_⟩
      · show (kOf L s').bind β.b = _; rw [kOf_of hnd (gOf_mem hg)]; rfl
      · show ((kOf L s').map β.cap).getD 0 = _; rw [kOf_of hnd (gOf_mem hg)]; rfl
    · have hb3 : (kOf L s').bind β.b = some b := hb2
      cases hk : kOf L s' with
      | none => rw [hk] at hb3; cases hb3
      | some s2 =>
        rw [hk] at hb3
        obtain ⟨h1, h2, _⟩ := hL _ (k_mem hnd hk)
        have := H.inj s s2 b hl h2 hb' hb3
        subst this
        have h4 : gOf L s = none := hok s hs
        rw [h4] at h1; cases h1
  have hsrc : ∀ s b, (h' s).live = true → (bOf L β).b s = some b → ∃ s1, gOf L s1 = some s ∧ (h s1).live = true ∧ β.b s1 = some b := by
    intro s b hl hb'
    obtain ⟨p, hp, rfl⟩ := List.mem_map.1 (hcov s hl)
    obtain ⟨h1, h2, h3⟩ := hL p hp
    have hb3 : (kOf L p.2).bind β.b = some b := hb'
    rw [kOf_of hnd (show (p.1, p.2) ∈ L from hp)] at hb3
    exact ⟨p.1, h1, h2, hb3⟩
  refine ⟨M, fun s hl => ?_, fun s s' b hl hl' e1 e2 => ?_, fun s b hl hb' => ?_⟩
  · obtain ⟨p, hp, rfl⟩ := List.mem_map.1 (hcov s hl)
    obtain ⟨h1, h2, h3⟩ := hL p hp
    exact BTr.hb H M h1 h3
  · obtain ⟨s1, hg1, hl1, hb1⟩ := hsrc s b hl e1
    obtain ⟨s2, hg2, hl2, hb2⟩ := hsrc s' b hl' e2
    have := H.inj s1 s2 b hl1 hl2 hb1 hb2
    subst this
    rw [hg1] at hg2; exact Option.some.inj hg2
  · obtain ⟨s1, hg1, hl1, hb1⟩ := hsrc s b hl hb'
    exact hX2 s1 b hl1 (.inl (by rw [hg1]; simp)) hb1

section
variable {d : Nat} {ty : TypeId} {pos : String} {af : Array Edge} {cf : Operand} {ts : Array TypeId} {f : FuncId} {xs : List Operand} {as bs caps : List AV} {rs : List (Nat × AV)} {r r0 : AV} {ins outs news : List Box}

/-- A call: the boxes of Lin are lent to be written, those of Ls to be read (and are none any more); Lout: what the boxes that it gives back are called. -/
theorem s_callS (Lin : List (Site × Site)) (Ls : List Site) (Lout : List (Site × Site)) (wh : List (Site × Box)) (hF : FnS P f ins bs outs news r0) (hd : d < C.n) (hc : OpV σ.t cf (.fn f caps)) (hA : Args σ.t xs as rs)
    (hZ : Tr σ.h (bx ins) (gOf Lin) (fun s => s ∈ Ls) (as ++ caps) bs) (n1 : (Lin.map (·.2)).Nodup)
    (i1 : ∀ p ∈ Lin, gOf Lin p.1 = some p.2 ∧ (σ.h p.1).live = true ∧ (bx ins p.2).ver = (σ.h p.1).ver ∧ BTr σ.h (bx ins) (gOf Lin) (fun s => s ∈ Ls) (σ.h p.1) (bx ins p.2)) (i2 : ∀ s, (bx ins s).live = true → s ∈ Lin.map (·.2)) (i3 : ∀ s ∈ Ls, gOf Lin s = none)
    (n2 : (Lout.map (·.2)).Nodup) (o1 : ∀ p ∈ Lout, gOf Lout p.1 = some p.2 ∧ (bo outs news p.1).live = true ∧ BTr (bo outs news) (hupds σ.h wh) (gOf Lout) (fun _ => False) (bo outs news p.1) (hupds σ.h wh p.2))
    (o2 : Tr (bo outs news) (hupds σ.h wh) (gOf Lout) (fun _ => False) [r0] [r])
    (w1 : ∀ s, (s ∈ Lin.map (·.1) ∨ s ∈ Ls ∨ s ∈ Lout.map (·.2)) → s ∈ wh.map (·.1))
    (w2 : ∀ s ∈ wh.map (·.1), (σ.h s).ver ≤ (hupds σ.h wh s).ver ∧ ((hupds σ.h wh s).live = true → s ∈ Lout.map (·.2)) ∧ ((hupds σ.h wh s).live = true → (σ.h s).ver = (hupds σ.h wh s).ver → ∃ k, (s, k) ∈ Lin ∧ (k, s) ∈ Lout ∧ (bx ins k).ver = (bo outs news k).ver)) :
    Step P C ops ⟨some d, .call { callee := .value cf, args := xs.toArray, argTypes := ts }, ty, pos, af, none⟩ σ ⟨oprs cf (.fn f caps) ++ rs, wh.map fun p => (p.1, σ.h p.1), some d, r, wh⟩ := by
  refine ⟨fun τ a w β hf S K Q hK => ?_, ⟨fapp hc.facts hA.facts, fun p hp => by obtain ⟨q, _, rfl⟩ := List.mem_map.1 hp; rfl⟩⟩
  have hh : ∀ s, s ∈ wh.map (·.1) → τ.h s = σ.h s := fun s hs => by
    obtain ⟨p, hp, rfl⟩ := List.mem_map.1 hs
    exact hf.2 (p.1, σ.h p.1) (List.mem_map.2 ⟨p, hp, rfl⟩)
  have hup : ∀ (wl : List (Site × Box)) (f1 f2 : Heap) (s : Site), f1 s = f2 s → hupds f1 wl s = hupds f2 wl s := by
    intro wl
    induction wl with
    | nil => intro f1 f2 s e; exact e
    | cons p l ih => intro f1 f2 s e; exact ih _ _ s (by by_cases h : s = p.1 <;> simp [hupd, h, e])
  have hh2 : ∀ s, s ∈ wh.map (·.1) → hupds τ.h wh s = hupds σ.h wh s := fun s hs => hup wh _ _ s (hh s hs)
  have hns : ∀ s, s ∉ wh.map (·.1) → hupds τ.h wh s = τ.h s := fun s hs => hupds_ne wh fun p hp e => hs (List.mem_map.2 ⟨p, hp, e⟩)
  have gin : ∀ s, gOf Lin s ≠ none → s ∈ wh.map (·.1) := fun s hs => by
    cases hg : gOf Lin s with
    | none => exact absurd hg hs
    | some s' => exact w1 s (.inl (List.mem_map.2 ⟨_, gOf_mem hg, rfl⟩))
  have hZ' : Tr τ.h (bx ins) (gOf Lin) (fun s => s ∈ Ls) (as ++ caps) bs := hZ.congr (fun s hs => hh s (hs.elim (gin s) fun h => w1 s (.inr (.inl h)))) (fun _ _ _ => rfl)
  have i1' : ∀ p ∈ Lin, gOf Lin p.1 = some p.2 ∧ (τ.h p.1).live = true ∧ BTr τ.h (bx ins) (gOf Lin) (fun s => s ∈ Ls) (τ.h p.1) (bx ins p.2) := fun p hp => by
    obtain ⟨a1, a2, a3, a4⟩ := i1 p hp
    have e := hh p.1 (w1 _ (.inl (List.mem_map.2 ⟨p, hp, rfl⟩)))
    exact ⟨a1, by rw [e]; exact a2, by rw [e]; exact a4.congr (fun s hs => hh s (hs.elim (gin s) fun h => w1 s (.inr (.inl h)))) (fun _ _ _ => rfl)⟩
  have gout : ∀ s s', gOf Lout s = some s' → s' ∈ wh.map (·.1) := fun s s' hg => w1 s' (.inr (.inr (List.mem_map.2 ⟨_, gOf_mem hg, rfl⟩)))
  have o1' : ∀ p ∈ Lout, gOf Lout p.1 = some p.2 ∧ (bo outs news p.1).live = true ∧ BTr (bo outs news) (hupds τ.h wh) (gOf Lout) (fun _ => False) (bo outs news p.1) (hupds τ.h wh p.2) := fun p hp => by
    obtain ⟨a1, a2, a3⟩ := o1 p hp
    refine ⟨a1, a2, ?_⟩
    rw [hh2 p.2 (gout _ _ a1)]
    exact a3.congr (fun _ _ => rfl) (fun s s' hg => hh2 s' (gout s s' hg))
  have o2' : Tr (bo outs news) (hupds τ.h wh) (gOf Lout) (fun _ => False) [r0] [r] := o2.congr (fun _ _ => rfl) (fun s s' hg => hh2 s' (gout s s' hg))
  have rc := hc.rep (fl hf.1) S
  have ra := hA.rep S (fr hf.1)
  rw [if_pos (by simp [Region.wanted])]
  generalize hu : a.eval cf = u at rc
  cases rc with
  | fn f cv caps e1 e2 =>
    unfold Oper.wp
    rw [run_call (caps := cv.toList) hF.1 (by simpa using hu)]
    have hlen : (xs.map a.eval ++ cv.toList).length = (as ++ caps).length := by simp [hA.len, e1]
    have hrep : ∀ (i : Nat) (v : Value) (b : AV), (xs.map a.eval ++ cv.toList)[i]? = some v → (as ++ caps)[i]? = some b → RepV w C.X τ.h β v b := by
      intro i v b hv hb
      have hl0 : (xs.map a.eval).length = as.length := by simp [hA.len]
      rw [List.getElem?_append, hl0] at hv
      rw [List.getElem?_append] at hb
      split at hv
      · rename_i hi; rw [if_pos hi] at hb; exact ra i v b hv hb
      · rename_i hi; rw [if_neg hi] at hb; exact e2 _ v b (by simpa using hv) hb
    let X2 : Nat → Prop := fun k => C.X k ∨ ∃ s, (τ.h s).live = true ∧ ¬ (gOf Lin s ≠ none ∨ s ∈ Ls) ∧ β.b s = some k
    have hX2lt : ∀ k, X2 k → k < w.heap.size := S.xlt (fun s => gOf Lin s ≠ none ∨ s ∈ Ls)
    obtain ⟨M1, H1⟩ := canon (X' := X2) (ok := fun s => s ∈ Ls) S.hp n1 i1' i2 (fun b ho => by
      rintro (hx | ⟨s, hl, _, hb⟩)
      · exact ho.1 hx
      · exact ho.2 s hl hb) (fun s b hl hs hb => by
      rintro (hx | ⟨s', hl', hns', hb'⟩)
      · exact S.hp.bar s b hl hb hx
      · have := S.hp.inj s s' b hl hl' hb hb'
        subst this; exact hns' hs) i3
    have hargs : ∀ (i : Nat) (v : Value) (b : AV), (xs.map a.eval ++ cv.toList).toArray[i]? = some v → bs[i]? = some b → RepV w X2 (bx ins) (bOf Lin β) v b := by
      intro i v b hv hb
      have hv' : (xs.map a.eval ++ cv.toList)[i]? = some v := by simpa using hv
      have hi : i < (as ++ caps).length := by rw [← hlen]; exact (List.getElem?_eq_some_iff.1 hv').1
      exact hZ'.rep S.hp M1 i v _ b (by simp) hb (hrep i v _ hv' (List.getElem?_eq_getElem hi))
    refine Calls.mono (hF.2 X2 w _ (bOf Lin β) (S.gl fun k h => .inl h) hX2lt H1 (by rw [List.size_toArray, hlen, hZ.length]) hargs) ?_
    rintro e w' ⟨v, β1, rfl, H2, hv, hk, hex, hblk⟩
    -- a lent block is a box's of the caller's
    have hlent : ∀ b, (∃ s, (bx ins s).live = true ∧ (bOf Lin β).b s = some b) → ∃ s, gOf Lin s ≠ none ∧ (τ.h s).live = true ∧ β.b s = some b := by
      rintro b ⟨s, hl, hb⟩
      obtain ⟨p, hp, rfl⟩ := List.mem_map.1 (i2 s hl)
      have hb3 : (kOf Lin p.2).bind β.b = some b := hb
      rw [kOf_of n1 (show (p.1, p.2) ∈ Lin from hp)] at hb3
      obtain ⟨a1, a2, _⟩ := i1' p hp
      exact ⟨p.1, by rw [a1]; simp, a2, hb3⟩
    open Classical in
    let β' : Blk := ⟨fun s => if s ∈ wh.map (·.1) then (kOf Lout s).bind β1.b else β.b s, fun s => if s ∈ wh.map (·.1) then ((kOf Lout s).map β1.cap).getD 0 else β.cap s⟩
    have bw : ∀ s, s ∈ wh.map (·.1) → β'.b s = (kOf Lout s).bind β1.b := fun s hs => if_pos hs
    have bn : ∀ s, s ∉ wh.map (·.1) → β'.b s = β.b s := fun s hs => if_neg hs
    have cw : ∀ s, s ∈ wh.map (·.1) → β'.cap s = ((kOf Lout s).map β1.cap).getD 0 := fun s hs => if_pos hs
    have cn : ∀ s, s ∉ wh.map (·.1) → β'.cap s = β.cap s := fun s hs => if_neg hs
    -- the boxes that were given back
    have hsrc : ∀ s, s ∈ wh.map (·.1) → (hupds τ.h wh s).live = true → ∃ k, (k, s) ∈ Lout ∧ kOf Lout s = some k ∧ gOf Lout k = some s ∧ (bo outs news k).live = true ∧ BTr (bo outs news) (hupds τ.h wh) (gOf Lout) (fun _ => False) (bo outs news k) (hupds τ.h wh s) := by
      intro s hs hl
      rw [hh2 s hs] at hl
      obtain ⟨p, hp, rfl⟩ := List.mem_map.1 ((w2 s hs).2.1 hl)
      obtain ⟨a1, a2, a3⟩ := o1' p hp
      exact ⟨p.1, hp, kOf_of n2 hp, a1, a2, a3⟩
    have hout : ∀ s b, s ∉ wh.map (·.1) → (τ.h s).live = true → β.b s = some b → X2 b := fun s b hs hl hb =>
      .inr ⟨s, hl, fun hn => hs (hn.elim (gin s) fun h => w1 s (.inr (.inl h))), hb⟩
    have M2 : Mp X2 (bo outs news) β1 C.X (hupds τ.h wh) β' (gOf Lout) (fun _ => False) := by
      refine ⟨fun b ho => ⟨fun hx => ho.1 (.inl hx), fun s hl hb => ?_⟩, fun s s' hg => ?_, fun s b hl hs => hs.elim⟩
      · by_cases hs : s ∈ wh.map (·.1)
        · obtain ⟨k, hm, hk', hg, hlk, _⟩ := hsrc s hs hl
          rw [bw s hs, hk'] at hb
          exact ho.2 k hlk hb
        · rw [hns s hs] at hl
          rw [bn s hs] at hb
          exact ho.1 (hout s b hs hl hb)
      · obtain ⟨a1, a2, a3⟩ := o1' _ (gOf_mem hg)
        have hs := gout s s' hg
        refine ⟨a2, a3.sz, ?_, ?_⟩
        · rw [bw s' hs, kOf_of n2 (gOf_mem hg)]; rfl
        · rw [cw s' hs, kOf_of n2 (gOf_mem hg)]; rfl
    have hlt : ∀ s b, (τ.h s).live = true → β.b s = some b → b < w.heap.size := fun s b hl hb => S.hp.lt hl hb
    have hsame : ∀ b, b < w.heap.size → (∀ s, gOf Lin s ≠ none → (τ.h s).live = true → β.b s ≠ some b) → w'.heap[b]? = w.heap[b]? := fun b hb hno => hk.block b hb (by
      rintro (h | h)
      · omega
      · obtain ⟨s, h1, h2, h3⟩ := hlent b h
        exact hno s h1 h2 h3)
    have E : Ext w C.X τ.h β w' C.X (hupds τ.h wh) β' := by
      refine ⟨hk.size, fun b hb ho => ⟨hsame b hb fun s _ hl => ho.2 s hl, ho.1, fun s hl hbs => ?_⟩, fun s => ?_, fun s hve hl => ?_⟩
      · by_cases hs : s ∈ wh.map (·.1)
        · obtain ⟨k, hm, hk', hg, hlk, _⟩ := hsrc s hs hl
          rw [bw s hs, hk'] at hbs
          rcases hblk k b hlk hbs with h | h
          · omega
          · obtain ⟨s1, _, h2, h3⟩ := hlent b h
            exact ho.2 s1 h2 h3
        · rw [hns s hs] at hl
          rw [bn s hs] at hbs
          exact ho.2 s hl hbs
      · by_cases hs : s ∈ wh.map (·.1)
        · rw [hh s hs, hh2 s hs]; exact (w2 s hs).1
        · rw [hns s hs]; exact Nat.le_refl _
      · by_cases hs : s ∈ wh.map (·.1)
        · have hl' := hl
          rw [hh2 s hs] at hl'
          rw [hh s hs, hh2 s hs] at hve
          obtain ⟨k, hk1, hk2, hk3⟩ := (w2 s hs).2.2 hl' hve
          obtain ⟨a1, a2, a3⟩ := i1' _ hk1
          obtain ⟨b1, b2, b3⟩ := o1' _ hk2
          obtain ⟨r1, r2, r3, r4⟩ := hex.ref k hk3 b2
          refine ⟨a2, b3.sz.trans (r2.trans a3.sz), ?_, ?_⟩
          · rw [bw s hs, kOf_of n2 hk2]
            show β1.b k = β.b s
            rw [r3]; show (kOf Lin k).bind β.b = _; rw [kOf_of n1 hk1]; rfl
          · rw [cw s hs, kOf_of n2 hk2]
            show β1.cap k = β.cap s
            rw [r4]; show ((kOf Lin k).map β.cap).getD 0 = _; rw [kOf_of n1 hk1]; rfl
        · rw [hns s hs] at hl ⊢
          exact ⟨hl, rfl, bn s hs, cn s hs⟩
    refine hK _ _ β' (S.put E ⟨fun s hl => ?_, fun s s' b hl hl' e1 e2 => ?_, fun s b hl hb => ?_⟩ (fun s b hl hb => ?_) (hk.mono fun k hlt' hfr => ?_) (someLt hd) (o2'.rep H2 M2 0 v r0 r rfl rfl hv))
    · by_cases hs : s ∈ wh.map (·.1)
      · obtain ⟨k, hm, hk', hg, hlk, hB⟩ := hsrc s hs hl
        exact BTr.hb H2 M2 hg hB
      · have hl2 := hl
        rw [hns s hs] at hl2
        refine HB.keep E (hns s hs) (bn s hs) (cn s hs) (fun b hb => hsame b (hlt s b hl2 hb) fun s1 hg1 hl1 hb1 => ?_) (S.hp.live s hl2)
        have := S.hp.inj s s1 b hl2 hl1 hb hb1
        subst this
        exact hs (gin s hg1)
    · by_cases hs : s ∈ wh.map (·.1) <;> by_cases hs' : s' ∈ wh.map (·.1)
      · obtain ⟨k, hm, hk', hg, hlk, _⟩ := hsrc s hs hl
        obtain ⟨k2, hm2, hk2', hg2, hlk2, _⟩ := hsrc s' hs' hl'
        rw [bw s hs, hk'] at e1
        rw [bw s' hs', hk2'] at e2
        have := H2.inj k k2 b hlk hlk2 e1 e2
        subst this
        rw [hg] at hg2; exact Option.some.inj hg2
      · obtain ⟨k, hm, hk', hg, hlk, _⟩ := hsrc s hs hl
        rw [bw s hs, hk'] at e1
        rw [hns s' hs'] at hl'
        rw [bn s' hs'] at e2
        exact absurd (hout s' b hs' hl' e2) (H2.bar k b hlk e1)
      · obtain ⟨k, hm, hk', hg, hlk, _⟩ := hsrc s' hs' hl'
        rw [bw s' hs', hk'] at e2
        rw [hns s hs] at hl
        rw [bn s hs] at e1
        exact absurd (hout s b hs hl e1) (H2.bar k b hlk e2)
      · rw [hns s hs] at hl
        rw [hns s' hs'] at hl'
        rw [bn s hs] at e1
        rw [bn s' hs'] at e2
        exact S.hp.inj s s' b hl hl' e1 e2
    · by_cases hs : s ∈ wh.map (·.1)
      · obtain ⟨k, hm, hk', hg, hlk, _⟩ := hsrc s hs hl
        rw [bw s hs, hk'] at hb
        exact fun hx => H2.bar k b hlk hb (.inl hx)
      · rw [hns s hs] at hl
        rw [bn s hs] at hb
        exact S.hp.bar s b hl hb
    · by_cases hs : s ∈ wh.map (·.1)
      · obtain ⟨k, hm, hk', hg, hlk, _⟩ := hsrc s hs hl
        rw [bw s hs, hk'] at hb
        rcases hblk k b hlk hb with h | h
        · exact C.hfree b (Nat.le_trans S.keep.size h)
        · obtain ⟨s1, _, h2, h3⟩ := hlent b h
          exact S.fr s1 b h2 h3
      · rw [hns s hs] at hl
        rw [bn s hs] at hb
        exact S.fr s b hl hb
    · rcases hfr with h | h
      · omega
      · obtain ⟨s1, _, h2, h3⟩ := hlent k h
        exact S.fr s1 k h2 h3
end
end Go.Proofs.YtpbjbnghcbcdiaaDoor.AM
