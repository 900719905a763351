/- The abstract machine, part 8: append. Conditions: none. -/
import Derived.Test.YtpbjbnghcbcdiaaDoorAm7
set_option linter.unusedVariables false
namespace Go.Proofs.YtpbjbnghcbcdiaaDoor.AM
open Go

variable {P : Program} {C : Ctx} {ops : Array Oper} {σ : St} {w w' : World} {h : Heap} {β β' : Blk}

/-- A row comes to be at a site, out of a row that goes (ob its block), or anew. -/
theorem Sim.newRow {τ : St} {a : Act} (S : Sim C τ a w β) (h1 : Heap) (s : Site) (E : TypeId) (sz n : Nat) (es : List (List AV)) (v : Value) (g : Option Nat) (cap : Nat)
    (k1 : ∀ s', s' ≠ s → (h1 s').live = true → h1 s' = τ.h s' ∧ (∀ b, β.b s' = some b → g ≠ some b ∧ w'.heap[b]? = w.heap[b]?))
    (k2 : ∀ s', (τ.h s').ver ≤ (h1 s').ver ∧ ((τ.h s').ver = (h1 s').ver → h1 s' = τ.h s'))
    (hk : Keep C.free w w') (him : ∀ b, b < w.heap.size → Okb C.X τ.h β b → w'.heap[b]? = w.heap[b]? ∧ g ≠ some b) (hgf : ∀ b, g = some b → C.free b)
    (hes : ∀ e ∈ es, e.length = sz) (hn : es.length = n)
    (hv : (g = none ∧ es = [] ∧ v = .slice none 0 0) ∨ ∃ b cur, g = some b ∧ v = .slice (some ⟨b, 0, none⟩) n cap ∧ w'.heap[b]? = some (.cells cur E (0, 0)) ∧ cur.size = cap * sz ∧ cap ≤ maxLen ∧ n ≤ cap ∧
      ∀ (i j : Nat) (e : List AV) (a : AV), es[i]? = some e → e[j]? = some a → ∃ u, cur[i * sz + j]? = some u ∧ RepV w C.X τ.h β u a)
    {d : Option Nat} (hd : ∀ k, d = some k → k < C.n) :
    Sim C ⟨updO τ.t d (.own s ((h1 s).ver + 1) n), hupd h1 s ⟨(h1 s).ver + 1, true, E, sz, es⟩⟩ (a.put d v) w' (β.set s g cap) := by
  have E' : Ext w C.X τ.h β w' C.X (hupd h1 s ⟨(h1 s).ver + 1, true, E, sz, es⟩) (β.set s g cap) := by
    refine ⟨hk.size, fun b hb ho => ⟨(him b hb ho).1, ho.1, fun s' hl hb' => ?_⟩, fun s' => ?_, fun s' hver hl => ?_⟩
    · by_cases hs : s' = s
      · subst hs; rw [Blk.set_b] at hb'; exact (him b hb ho).2 hb'
      · rw [hupd_ne _ _ hs] at hl; rw [Blk.set_b_ne _ _ _ hs] at hb'
        exact ho.2 s' (by rw [← (k1 s' hs hl).1]; exact hl) hb'
    · by_cases hs : s' = s
      · subst hs; rw [hupd_same]; exact Nat.le_succ_of_le (k2 s').1
      · rw [hupd_ne _ _ hs]; exact (k2 s').1
    · by_cases hs : s' = s
      · subst hs; rw [hupd_same] at hver
        have := (k2 s').1
        have h2 : (τ.h s').ver = (h1 s').ver + 1 := hver
        omega
      · rw [hupd_ne _ _ hs] at hl hver ⊢
        have := (k1 s' hs hl).1
        rw [this] at hl ⊢
        exact ⟨hl, rfl, Blk.set_b_ne _ _ _ hs, Blk.set_cap_ne _ _ _ hs⟩
  refine S.put E' ⟨fun s' hl => ?_, fun s1 s2 b h1' h2 e1 e2 => ?_, fun s' b hl hb => ?_⟩ (fun s' b hl hb => ?_) hk hd ?_
  · by_cases hs : s' = s
    · subst hs
      rcases hv with ⟨hg, he, hv⟩ | ⟨b, cur, hg, hv, hcur, hcs, hml, hnc, hr⟩
      · exact .inl ⟨by rw [Blk.set_b]; exact hg, by rw [hupd_same]; exact he⟩
      · refine .inr ⟨b, cur, by rw [Blk.set_b]; exact hg, ?_, ?_, ?_, ?_, ?_, ?_⟩
        · rw [hupd_same]; exact hcur
        · rw [hupd_same, Blk.set_cap]; exact hcs
        · rw [Blk.set_cap]; exact hml
        · rw [hupd_same, Blk.set_cap]; show es.length ≤ cap; omega
        · rw [hupd_same]; exact hes
        · rw [hupd_same]
          intro i j e a he ha
          obtain ⟨u, hu, hr⟩ := hr i j e a he ha
          exact ⟨u, hu, hr.ext E'⟩
    · rw [hupd_ne _ _ hs] at hl
      have hk1 := k1 s' hs hl
      refine HB.keep E' ((hupd_ne _ _ hs).trans hk1.1) (Blk.set_b_ne _ _ _ hs) (Blk.set_cap_ne _ _ _ hs) (fun b hb => (hk1.2 b hb).2) (S.hp.live s' (by rw [← hk1.1]; exact hl))
  · by_cases hs1 : s1 = s <;> by_cases hs2 : s2 = s
    · rw [hs1, hs2]
    · subst hs1
      rw [Blk.set_b] at e1; rw [Blk.set_b_ne _ _ _ hs2] at e2; rw [hupd_ne _ _ hs2] at h2
      exact absurd e1 ((k1 s2 hs2 h2).2 b e2).1
    · subst hs2
      rw [Blk.set_b] at e2; rw [Blk.set_b_ne _ _ _ hs1] at e1; rw [hupd_ne _ _ hs1] at h1'
      exact absurd e2 ((k1 s1 hs1 h1').2 b e1).1
    · rw [Blk.set_b_ne _ _ _ hs1] at e1; rw [Blk.set_b_ne _ _ _ hs2] at e2; rw [hupd_ne _ _ hs1] at h1'; rw [hupd_ne _ _ hs2] at h2
      exact S.hp.inj s1 s2 b (by rw [← (k1 s1 hs1 h1').1]; exact h1') (by rw [← (k1 s2 hs2 h2).1]; exact h2) e1 e2
  · by_cases hs : s' = s
    · subst hs; rw [Blk.set_b] at hb; exact fun hx => C.hX _ hx (hgf b hb)
    · rw [hupd_ne _ _ hs] at hl; rw [Blk.set_b_ne _ _ _ hs] at hb; exact S.hp.bar s' b (by rw [← (k1 s' hs hl).1]; exact hl) hb
  · by_cases hs : s' = s
    · subst hs; rw [Blk.set_b] at hb; exact hgf b hb
    · rw [hupd_ne _ _ hs] at hl; rw [Blk.set_b_ne _ _ _ hs] at hb; exact S.fr s' b (by rw [← (k1 s' hs hl).1]; exact hl) hb
  · refine .own v s _ n ?_ (by rw [hupd_same]; exact Nat.le_refl _) (fun _ _ => ?_)
    · rcases hv with ⟨_, _, rfl⟩ | ⟨b, cur, _, rfl, _⟩ <;> rfl
    · rw [Blk.set_b, Blk.set_cap]
      rcases hv with ⟨hg, he, hv⟩ | ⟨b, cur, hg, hv, hcur, hcs, hml, hnc, hr⟩
      · subst he; exact .inr ⟨hg, hv, hn.symm⟩
      · exact .inl ⟨b, hg, hv, hnc⟩

/-- the cells of what is read -/
theorem reads_cells {X : Nat → Prop} {A : Option Addr} {cap sz b off : Nat} {es : List (List AV)} {cell : Nat → Nat → Value} (r : Reads w X h β A cap es sz b off cell) (hp : 0 < sz) :
    ∃ news : List Value, news.length = es.length * sz ∧ (∀ (j : Nat) (u : Value), news[j]? = some u → w.cell? ((⟨b, off, none⟩ : Addr).add j) = some u) ∧
      (∀ (i j : Nat) (e : List AV) (a : AV), es[i]? = some e → e[j]? = some a → news[i * sz + j]? = some (cell i j)) ∧ (∀ u ∈ news, ∃ (i j : Nat) (e : List AV) (a : AV), es[i]? = some e ∧ e[j]? = some a ∧ u = cell i j) := by
  refine ⟨(List.range (es.length * sz)).map fun q => cell (q / sz) (q % sz), by simp, fun j u hu => ?_, fun i j e a he ha => ?_, fun u hu => ?_⟩
  · rw [List.getElem?_map] at hu
    cases hq : (List.range (es.length * sz))[j]? with
    | none => rw [hq] at hu; cases hu
    | some q =>
      rw [hq] at hu
      obtain ⟨hlt, rfl⟩ := List.getElem?_eq_some_iff.1 hq
      simp only [List.length_range] at hlt
      simp only [List.getElem_range, Option.map_some, Option.some.injEq] at hu
      subst hu
      have hi : j / sz < es.length := Nat.div_lt_of_lt_mul (by rw [Nat.mul_comm]; exact hlt)
      have hj : j % sz < (es[j / sz]).length := by rw [r.h4 _ (List.getElem_mem hi)]; exact Nat.mod_lt _ hp
      have := r.h5 (j / sz) (j % sz) _ _ (List.getElem?_eq_getElem hi) (List.getElem?_eq_getElem hj)
      rw [addr_add, ← this]
      congr 2
      have := Nat.div_add_mod j sz
      rw [Nat.mul_comm] at this
      omega
  · have hi : i < es.length := (List.getElem?_eq_some_iff.1 he).1
    have hj : j < sz := by rw [← r.h4 e (List.mem_of_getElem? he)]; exact (List.getElem?_eq_some_iff.1 ha).1
    have hlt : i * sz + j < es.length * sz := seg_lt hi hj
    rw [List.getElem?_map, List.getElem?_range hlt, Option.map_some]
    congr 2
    · rw [Nat.mul_comm, Nat.mul_add_div hp, Nat.div_eq_of_lt hj, Nat.add_zero]
    · rw [Nat.mul_comm, Nat.mul_add_mod, Nat.mod_eq_of_lt hj]
  · obtain ⟨q, hq, rfl⟩ := List.mem_map.1 hu
    have hlt := List.mem_range.1 hq
    have hi : q / sz < es.length := Nat.div_lt_of_lt_mul (by rw [Nat.mul_comm]; exact hlt)
    have hj : q % sz < (es[q / sz]).length := by rw [r.h4 _ (List.getElem_mem hi)]; exact Nat.mod_lt _ hp
    exact ⟨_, _, _, _, List.getElem?_eq_getElem hi, List.getElem?_eq_getElem hj, rfl⟩

/-- append in a row of one's own (or a nil one): what the machine does, whatever the second slice. -/
theorem run_append_any {T E : TypeId} {agg : Bool} {sz : Nat} {z : Value} {bytes : Nat} {X : Nat → Prop} {A : Option Addr} {cap2 sz2 b2 off2 : Nat} {es2 : List (List AV)} {cell : Nat → Nat → Value} (ht : P.underlying T = some (.slice E)) (hE : TI P E agg sz z bytes)
    (r : Reads w X h β A cap2 es2 sz2 b2 off2 cell) (hz2 : ∀ e ∈ es2, e.length = sz) (h1 : ∀ e ∈ es2, e.all oneA = true) {v : Value} {n : Nat} {xs : List Value} (hown : w.ownsRow 0 E sz v n xs) (hb : (n + es2.length) * bytes ≤ 140737488355328) (ty : TypeId) :
    ∃ v' w' news, (Builtin.append_ #[T, T] ty #[v, .slice A es2.length cap2]).run P w = .ok v' w' ∧ w'.ownsRow 0 E sz v' (n + es2.length) (xs ++ news) ∧ w.grownBy w' v.ownBlock ∧ (v' = .slice none 0 0 ↔ v = .slice none 0 0 ∧ es2 = []) ∧ (v'.ownBlock = v.ownBlock ∨ v'.ownBlock = some w.heap.size) ∧
      news.length = es2.length * sz ∧ ∀ (i j : Nat) (e : List AV) (a : AV), es2[i]? = some e → e[j]? = some a → news[i * sz + j]? = some (cell i j) := by
  obtain ⟨i, hi, hiz, his, hib⟩ := hE.get
  have hle : n + es2.length ≤ 140737488355328 := Nat.le_trans (Nat.le_mul_of_pos_right _ hE.bpos) hb
  cases hes : es2 with
  | nil =>
    subst hes
    have hshape : ∃ base cap, v = .slice base n cap ∧ n ≤ cap := by
      rcases hown.2 with ⟨rfl, rfl⟩ | ⟨g, cap, cur, rfl, _, _, hnc, _⟩
      · exact ⟨none, 0, rfl, Nat.le_refl _⟩
      · exact ⟨_, cap, rfl, hnc⟩
    obtain ⟨base, cap, rfl, hnc⟩ := hshape
    refine ⟨.slice base n cap, w, [], ?_, by simpa using hown, ⟨rfl, rfl, rfl, Nat.le_refl _, fun _ _ _ => rfl⟩, by simp, .inl rfl, by simp, by simp⟩
    have hu2 : (P.underlying T).isSome = true := by rw [ht]; rfl
    rcases base with _ | base <;> rcases A with _ | A <;> simp [Builtin.append_, run_underlying ht, hE.size, Builtin.lenOf, Builtin.firstCells, loadCells, loadCellsFrom, storeCells, hnc]
  | cons e0 er =>
    have hne : es2 ≠ [] := by rw [hes]; exact List.cons_ne_nil _ _
    rw [← hes]
    have hA := r.h3 hne
    subst hA
    have hsz2 : sz2 = sz := by rw [← r.h4 e0 (by rw [hes]; exact List.mem_cons_self)]; exact hz2 e0 (by rw [hes]; exact List.mem_cons_self)
    subst hsz2
    obtain ⟨news, n1, n2, n3, n4⟩ := reads_cells r hE.pos
    obtain ⟨v', w', hrun, ho, hg, hn, hbk⟩ := run_append_own_at (P := P) w 0 T ty E i z sz2 bytes ht hi hiz his hib hE.zs hE.pos v n xs hown ⟨b2, off2, none⟩ es2.length cap2 news n1 n2 (fun u hu => by
      obtain ⟨i, j, e, a, he, ha, rfl⟩ := n4 u hu
      exact oneA_rep (r.h7 i j e a he ha) (List.all_eq_true.1 (h1 e (List.mem_of_getElem? he)) a (List.mem_of_getElem? ha))) (by unfold maxLen; omega) hb (Nat.zero_le _)
    refine ⟨v', w', news, hrun, ho, hg, ?_, hbk, n1, n3⟩
    rw [hn]
    constructor
    · rintro ⟨h1, h2⟩; exact absurd (List.eq_nil_of_length_eq_zero h2) hne
    · rintro ⟨h1, h2⟩; exact absurd h2 hne

theorem keep_grown {free : Nat → Prop} {row : Option Nat} (hg : w.grownBy w' row) (hf : ∀ k, row = some k → free k) : Keep free w w' :=
  ⟨hg.os, hg.tape, hg.output, hg.size, fun k hk hn => hg.block k hk (fun e => hn (hf k e.symm))⟩

theorem take_get {es : List (List AV)} {n i : Nat} {e : List AV} (h : (es.take n)[i]? = some e) : i < n ∧ es[i]? = some e := by
  rw [List.getElem?_take] at h
  split at h
  · exact ⟨by assumption, h⟩
  · cases h

section
variable {d : Nat} {ty : TypeId} {pos : String} {af : Array Edge} {x y : Operand} {av bv : AV} {es2 : List (List AV)} {rh2 : List (Site × Box)}

/-- what the law leaves, as a row -/
theorem row_of_own {E : TypeId} {sz n : Nat} {v : Value} {xs : List Value} (ho : w'.ownsRow 0 E sz v n xs) {X : Nat → Prop} {es : List (List AV)} (hn : es.length = n) (hp : 0 < sz)
    (hr : ∀ (i j : Nat) (e : List AV) (a : AV), es[i]? = some e → e[j]? = some a → j < sz ∧ ∃ u, xs[i * sz + j]? = some u ∧ RepV w X h β u a) :
    ∃ cap, (v.ownBlock = none ∧ es = [] ∧ v = .slice none 0 0) ∨ ∃ b cur, v.ownBlock = some b ∧ v = .slice (some ⟨b, 0, none⟩) n cap ∧ w'.heap[b]? = some (.cells cur E (0, 0)) ∧ cur.size = cap * sz ∧ cap ≤ maxLen ∧ n ≤ cap ∧
      ∀ (i j : Nat) (e : List AV) (a : AV), es[i]? = some e → e[j]? = some a → ∃ u, cur[i * sz + j]? = some u ∧ RepV w X h β u a := by
  rcases ho.2 with ⟨rfl, rfl⟩ | ⟨g, cap, cur, rfl, _, hh, h1, h2, h3, h4⟩
  · exact ⟨0, .inl ⟨rfl, List.eq_nil_of_length_eq_zero hn, rfl⟩⟩
  · refine ⟨cap, .inr ⟨g, cur, rfl, rfl, hh, h3, h2, h1, fun i j e a he ha => ?_⟩⟩
    obtain ⟨hj, u, hu, hr'⟩ := hr i j e a he ha
    refine ⟨u, ?_, hr'⟩
    rw [← h4, List.getElem?_take] at hu
    split at hu
    · simpa using hu
    · cases hu

theorem s_append {T E : TypeId} {agg : Bool} {sz : Nat} {z : Value} {bytes n m : Nat} {s s2 : Site} {B D : Box} {es' : List (List AV)} (hd : d < C.n) (hx : OpV σ.t x (.own s B.ver n)) (hy : OpV σ.t y av) (hs : SV σ.h av es2 rh2)
    (ht : P.underlying T = some (.slice E)) (hE : TI P E agg sz z bytes) (hB : σ.h s = B) (hl : B.live = true) (hT : B.T = E) (hz : B.sz = sz) (hn : n ≤ B.es.length) (hz2 : ∀ e ∈ es2, e.length = sz) (h1 : ∀ e ∈ es2, e.all oneA = true)
    (hm : n + es2.length = m) (hb : m * bytes ≤ 140737488355328) (hD : σ.h s2 = D) (he : B.es.take n ++ es2 = es') :
    Step P C ops ⟨some d, .call { callee := .builtin .append, args := #[x, y], argTypes := #[T, T] }, ty, pos, af, none⟩ σ
      ⟨oprs x (.own s B.ver n) ++ oprs y av, (s, B) :: (s2, D) :: rh2, some d, .own s2 ((if s = s2 then B.ver + 1 else D.ver) + 1) m, [(s, ⟨B.ver + 1, false, B.T, B.sz, []⟩), (s2, ⟨(if s = s2 then B.ver + 1 else D.ver) + 1, true, E, sz, es'⟩)]⟩ := by
  subst hm; subst he
  refine ⟨fun τ a w β hf S K Q hK => ?_, ⟨fapp hx.facts hy.facts, fun p hp => ?_⟩⟩
  · have hB' : τ.h s = B := hf.2 (s, B) List.mem_cons_self
    have hD' : τ.h s2 = D := hf.2 (s2, D) (List.mem_cons_of_mem _ List.mem_cons_self)
    subst hB'; subst hD'
    subst hT; subst hz
    have r1 := hx.rep (fl hf.1) S
    obtain ⟨A, cap2, sz2, b2, off2, cell, hv2, hR⟩ := hs.reads (fun p hp => hf.2 p (List.mem_cons_of_mem _ (List.mem_cons_of_mem _ hp))) S.hp (hy.rep (fr hf.1) S)
    rw [if_pos (by simp [Region.wanted])]
    have hoes : ∀ e ∈ (τ.h s).es, β.b s ≠ none → e.length = (τ.h s).sz := by
      intro e he hne
      rcases S.hp.live s hl with ⟨h0, _⟩ | ⟨b', cur, h0, hcur, hcsz, hcap, hle, hes, hrep⟩
      · exact absurd h0 hne
      · exact hes e he
    -- the row as the law has it
    obtain ⟨xs, hown, hob, hrx⟩ : ∃ xs, w.ownsRow 0 (τ.h s).T (τ.h s).sz (a.eval x) n xs ∧ (a.eval x).ownBlock = β.b s ∧ ∀ (i j : Nat) (e : List AV) (b : AV), ((τ.h s).es.take n)[i]? = some e → e[j]? = some b → j < (τ.h s).sz ∧ ∃ u, xs[i * (τ.h s).sz + j]? = some u ∧ RepV w C.X τ.h β u b := by
      generalize hu : a.eval x = u at r1
      cases r1 with
      | own u s ver n h0 h1 h2 =>
        rcases h2 rfl hl with ⟨b, hb, rfl, hcap⟩ | ⟨hbn, rfl, rfl⟩
        · rcases S.hp.live s hl with ⟨h0, _⟩ | ⟨b', cur, h0, hcur, hcsz, hcapm, hle, hes, hrep⟩
          · rw [hb] at h0; cases h0
          · obtain rfl : b = b' := by rw [hb] at h0; exact Option.some.inj h0
            have hnsz : n * (τ.h s).sz ≤ cur.size := by rw [hcsz]; exact Nat.mul_le_mul_right _ hcap
            refine ⟨cur.toList.take (n * (τ.h s).sz), ⟨by rw [List.length_take, Array.length_toList]; omega, .inr ⟨b, β.cap s, cur, rfl, Nat.zero_le _, hcur, hcap, hcapm, hcsz, rfl⟩⟩, hb.symm, fun i j e q he hq => ?_⟩
            obtain ⟨hi, he'⟩ := take_get he
            have hj : j < (τ.h s).sz := by rw [← hes e (List.mem_of_getElem? he')]; exact (List.getElem?_eq_some_iff.1 hq).1
            obtain ⟨u, hu, hr⟩ := hrep i j e q he' hq
            exact ⟨hj, u, by rw [List.getElem?_take, if_pos (seg_lt hi hj)]; simpa using hu, hr⟩
        · exact ⟨[], World.ownsRow_nil _ _ _ _, hbn.symm, fun i j e q he => by simp at he⟩
    obtain ⟨v', w', news, hrun, ho, hg, hnil, hbk, hnl, hnews⟩ := run_append_any (P := P) (ty := ty) ht hE hR hz2 h1 hown hb
    have hbs : ∀ k, (a.eval x).ownBlock = some k → C.free k := fun k e => S.fr s k hl (by rw [← hob]; exact e)
    have hsize : ∀ s' b, (τ.h s').live = true → β.b s' = some b → b < w.heap.size := fun s' b hl' hb' => by
      rcases S.hp.live s' hl' with ⟨h0, _⟩ | ⟨b', c, h0, h1, _⟩
      · rw [hb'] at h0; cases h0
      · obtain rfl : b = b' := by rw [hb'] at h0; exact Option.some.inj h0
        exact (Array.getElem?_eq_some_iff.1 h1).1
    have hxl : xs.length = n * (τ.h s).sz := hown.1
    have htl : ((τ.h s).es.take n).length = n := by rw [List.length_take]; omega
    obtain ⟨cap', hrow⟩ := row_of_own (w := w) (h := τ.h) (β := β) (X := C.X) ho (es := (τ.h s).es.take n ++ es2) (by rw [List.length_append, htl]) hE.pos (fun i j e q he hq => by
      rw [List.getElem?_append, htl] at he
      split at he
      · rename_i hi
        obtain ⟨hj, u, hu, hr⟩ := hrx i j e q he hq
        exact ⟨hj, u, by rw [List.getElem?_append, hxl, if_pos (seg_lt hi hj)]; exact hu, hr⟩
      · rename_i hi
        have hj : j < (τ.h s).sz := by rw [← hz2 e (List.mem_of_getElem? he)]; exact (List.getElem?_eq_some_iff.1 hq).1
        refine ⟨hj, cell (i - n) j, ?_, hR.h7 _ j e q he hq⟩
        have hge : n * (τ.h s).sz ≤ i * (τ.h s).sz := Nat.mul_le_mul_right _ (by omega)
        rw [List.getElem?_append, hxl, if_neg (by omega)]
        have := hnews (i - n) j e q he hq
        rw [← this]
        congr 1
        rw [Nat.sub_mul]; omega)
    have hh1 : ∀ s', s' ≠ s → hupd τ.h s ⟨(τ.h s).ver + 1, false, (τ.h s).T, (τ.h s).sz, []⟩ s' = τ.h s' := fun s' hne => hupd_ne _ _ hne
    have hver : (hupd τ.h s ⟨(τ.h s).ver + 1, false, (τ.h s).T, (τ.h s).sz, []⟩ s2).ver = (if s = s2 then (τ.h s).ver + 1 else (τ.h s2).ver) := by
      by_cases hsd : s = s2
      · subst hsd; rw [hupd_same, if_pos rfl]
      · rw [hupd_ne _ _ (Ne.symm hsd), if_neg hsd]
    have key := S.newRow (w' := w') (hupd τ.h s ⟨(τ.h s).ver + 1, false, (τ.h s).T, (τ.h s).sz, []⟩) s2 (τ.h s).T (τ.h s).sz (n + es2.length) ((τ.h s).es.take n ++ es2) v' v'.ownBlock cap'
      (fun s' hne hlv => by
        by_cases hss : s' = s
        · subst hss; rw [hupd_same] at hlv; cases hlv
        · rw [hh1 s' hss] at hlv ⊢
          refine ⟨rfl, fun b hb' => ?_⟩
          have hbs' : β.b s ≠ some b := fun e => hss (S.hp.inj s' s b hlv hl hb' e)
          refine ⟨fun e => ?_, hg.block b (hsize s' b hlv hb') (fun e => hbs' (by rw [← hob]; exact e.symm))⟩
          rcases hbk with hbk | hbk
          · rw [hbk, hob] at e; exact hbs' e
          · rw [hbk] at e; injection e with e; have := hsize s' b hlv hb'; omega)
      (fun s' => by
        by_cases hss : s' = s
        · subst hss; rw [hupd_same]; exact ⟨Nat.le_succ _, fun e => absurd e (by show ¬ _ = (τ.h s').ver + 1; omega)⟩
        · rw [hh1 s' hss]; exact ⟨Nat.le_refl _, fun _ => rfl⟩)
      (keep_grown hg hbs) (fun b hb' hok => ?_) (fun b e => ?_) (fun e he => ?_) (by rw [List.length_append, htl]) hrow (d := some d) (someLt hd)
    · unfold Oper.wp
      have hrun' : (execOp a.eval ⟨some d, .call { callee := .builtin .append, args := #[x, y], argTypes := #[T, T] }, ty, pos, af, none⟩).run P w = .ok (.value v') w' := by
        simp only [execOp, resolve, invoke, builtin, Sem.run_bind, Sem.run_pure, Result.andThen_ok, List.map_toArray, List.map_cons, List.map_nil, hv2, hrun]
      rw [hrun']
      rw [hver] at key
      exact hK _ _ _ key
    · have hbs' : β.b s ≠ some b := hok.2 s hl
      refine ⟨hg.block b hb' (fun e => hbs' (by rw [← hob]; exact e.symm)), fun e => ?_⟩
      rcases hbk with hbk | hbk
      · rw [hbk, hob] at e; exact hbs' e
      · rw [hbk] at e; injection e with e; omega
    · rcases hbk with hbk | hbk
      · rw [hbk] at e; exact hbs b e
      · rw [hbk] at e; injection e with e; subst e; exact C.hfree _ S.keep.size
    · rcases List.mem_append.1 he with h | h
      · have hm := List.mem_of_mem_take h
        by_cases hbn : β.b s = none
        · rcases S.hp.live s hl with ⟨_, h0⟩ | ⟨b', _, h0, _⟩
          · rw [h0] at hm; cases hm
          · rw [hbn] at h0; cases h0
        · exact hoes e hm hbn
      · exact hz2 e h
  · rcases List.mem_cons.1 hp with rfl | hp
    · exact hB
    · rcases List.mem_cons.1 hp with rfl | hp
      · exact hD
      · exact hs.facts p hp

/-- append to nil -/
theorem s_append_nil {T E : TypeId} {agg : Bool} {sz : Nat} {z : Value} {bytes m : Nat} {s2 : Site} {D : Box} (hd : d < C.n) (hx : OpV σ.t x (.c (.slice none 0 0))) (hy : OpV σ.t y av) (hs : SV σ.h av es2 rh2)
    (ht : P.underlying T = some (.slice E)) (hE : TI P E agg sz z bytes) (hz2 : ∀ e ∈ es2, e.length = sz) (h1 : ∀ e ∈ es2, e.all oneA = true) (hm : es2.length = m) (hb : m * bytes ≤ 140737488355328) (hD : σ.h s2 = D) :
    Step P C ops ⟨some d, .call { callee := .builtin .append, args := #[x, y], argTypes := #[T, T] }, ty, pos, af, none⟩ σ
      ⟨oprs x (.c (.slice none 0 0)) ++ oprs y av, (s2, D) :: rh2, some d, .own s2 (D.ver + 1) m, [(s2, ⟨D.ver + 1, true, E, sz, es2⟩)]⟩ := by
  subst hm
  refine ⟨fun τ a w β hf S K Q hK => ?_, ⟨fapp hx.facts hy.facts, fun p hp => ?_⟩⟩
  · have hD' : τ.h s2 = D := hf.2 (s2, D) List.mem_cons_self
    subst hD'
    have r1 := (hx.rep (fl hf.1) S).c_inv
    obtain ⟨A, cap2, sz2, b2, off2, cell, hv2, hR⟩ := hs.reads (fun p hp => hf.2 p (List.mem_cons_of_mem _ hp)) S.hp (hy.rep (fr hf.1) S)
    rw [if_pos (by simp [Region.wanted])]
    have hown : w.ownsRow 0 E sz (a.eval x) 0 [] := by rw [r1]; exact World.ownsRow_nil _ _ _ _
    obtain ⟨v', w', news, hrun, ho, hg, hnil, hbk, hnl, hnews⟩ := run_append_any (P := P) (ty := ty) ht hE hR hz2 h1 hown (by rw [Nat.zero_add]; exact hb)
    rw [r1] at hg hbk
    have hbk' : v'.ownBlock = none ∨ v'.ownBlock = some w.heap.size := hbk
    have hg' : w.grownBy w' none := hg
    have hsize : ∀ s' b, (τ.h s').live = true → β.b s' = some b → b < w.heap.size := fun s' b hl' hb' => by
      rcases S.hp.live s' hl' with ⟨h0, _⟩ | ⟨b', c, h0, h1, _⟩
      · rw [hb'] at h0; cases h0
      · obtain rfl : b = b' := by rw [hb'] at h0; exact Option.some.inj h0
        exact (Array.getElem?_eq_some_iff.1 h1).1
    obtain ⟨cap', hrow⟩ := row_of_own (w := w) (h := τ.h) (β := β) (X := C.X) ho (es := es2) (by omega) hE.pos (fun i j e q he hq => by
      have hj : j < sz := by rw [← hz2 e (List.mem_of_getElem? he)]; exact (List.getElem?_eq_some_iff.1 hq).1
      exact ⟨hj, cell i j, by rw [List.nil_append]; exact hnews i j e q he hq, hR.h7 i j e q he hq⟩)
    rw [Nat.zero_add] at hrow
    have hne : ∀ b, b < w.heap.size → v'.ownBlock ≠ some b := fun b hb' e => by
      rcases hbk' with hbk | hbk
      · rw [hbk] at e; cases e
      · rw [hbk] at e; injection e with e; omega
    have key := S.newRow (w' := w') τ.h s2 E sz es2.length es2 v' v'.ownBlock cap'
      (fun s' hne' hlv => ⟨rfl, fun b hb' => ⟨hne b (hsize s' b hlv hb'), hg'.block b (hsize s' b hlv hb') (by simp)⟩⟩)
      (fun s' => ⟨Nat.le_refl _, fun _ => rfl⟩) (keep_grown hg' (fun k e => by cases e)) (fun b hb' hok => ⟨hg'.block b hb' (by simp), hne b hb'⟩) (fun b e => ?_) hz2 rfl hrow (d := some d) (someLt hd)
    · unfold Oper.wp
      have hrun' : (execOp a.eval ⟨some d, .call { callee := .builtin .append, args := #[x, y], argTypes := #[T, T] }, ty, pos, af, none⟩).run P w = .ok (.value v') w' := by
        simp only [execOp, resolve, invoke, builtin, Sem.run_bind, Sem.run_pure, Result.andThen_ok, List.map_toArray, List.map_cons, List.map_nil, hv2, hrun]
      rw [hrun']
      exact hK _ _ _ key
    · rcases hbk' with hbk | hbk
      · rw [hbk] at e; cases e
      · rw [hbk] at e; injection e with e; subst e; exact C.hfree _ S.keep.size
  · rcases List.mem_cons.1 hp with rfl | hp
    · exact hD
    · exact hs.facts p hp
end

end Go.Proofs.YtpbjbnghcbcdiaaDoor.AM
