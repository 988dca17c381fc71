/- The tree logic, part P: the law of a call. -/
import Derived.Test.YtpbgiccloeihcaaTlO
namespace Go.Tl
open Go.RowKit

def obMp (g : Nat → Option Nat) : Ob → Ob
  | .gone => .gone
  | .cells fr cs => .cells fr (M.mpL g cs)

def rsOb (al : Bool) (T : Tbl) (ρ : List Nat) (d : Nat) : Ob → Ob
  | .gone => .gone
  | .cells _ cs => .cells false (cs.map (rs al T ρ d true))

def frOb : Ob → Bool
  | .gone => true
  | .cells _ cs => frL cs

def setOb : Ob → Ob → Ob
  | .cells f _, .cells f' cs => .cells (f || f') cs
  | _, o => o

def setAll : Tbl → List Nat → List Ob → Tbl
  | T, id :: ρ, o :: os => setAll (T.set id (setOb (T.getD id .gone) o)) ρ os
  | T, _, _ => T

def gMap (N : Nat) (ρ : List Nat) (i : Nat) : Option Nat := if i < ρ.length then ρ[i]? else some (N + (i - ρ.length))

theorem setAll_length : ∀ (ρ : List Nat) (T : Tbl) (os : List Ob), (setAll T ρ os).length = T.length
  | [], T, os => by simp [setAll]
  | id :: ρ, T, [] => by simp [setAll]
  | id :: ρ, T, o :: os => by rw [setAll, setAll_length ρ]; simp

theorem setAll_other : ∀ (ρ : List Nat) (T : Tbl) (os : List Ob) (i : Nat), i ∉ ρ → (setAll T ρ os)[i]? = T[i]?
  | [], T, os, i, _ => by simp [setAll]
  | id :: ρ, T, [], i, _ => by simp [setAll]
  | id :: ρ, T, o :: os, i, h => by
    simp only [List.mem_cons, not_or] at h
    rw [setAll, setAll_other ρ _ os i h.2, List.getElem?_set_ne (Ne.symm h.1)]

theorem setAll_at : ∀ (ρ : List Nat) (T : Tbl) (os : List Ob) (j id : Nat) (o : Ob), ρ.Nodup → ρ[j]? = some id → os[j]? = some o → id < T.length → (setAll T ρ os)[id]? = some (setOb (T.getD id .gone) o)
  | [], T, os, j, id, o, _, h, _, _ => by simp at h
  | i :: ρ, T, [], j, id, o, _, _, h, _ => by simp at h
  | i :: ρ, T, o' :: os, j, id, o, hn, h1, h2, h3 => by
    rw [setAll]
    simp only [List.nodup_cons] at hn
    cases j with
    | zero =>
      simp only [List.getElem?_cons_zero, Option.some.injEq] at h1 h2
      subst h1; subst h2
      rw [setAll_other ρ _ os _ hn.1, List.getElem?_set_self h3]
    | succ j =>
      simp only [List.getElem?_cons_succ] at h1 h2
      have hne : i ≠ id := fun e => hn.1 (e ▸ List.mem_of_getElem? h1)
      rw [setAll_at ρ _ os j id o hn.2 h1 h2 (by simpa using h3)]
      congr 2
      simp [List.getD, List.getElem?_set_ne hne]

section
variable {P : Program} {q : Bool} {f : FuncId} {args args' : List M} {T Tc : Tbl} {K K' : M → Tbl → Prop}

theorem call_con (hc : Con P f args' Tc K') (al : Bool) (d : Nat) (ρ : List Nat) (hn : ρ.Nodup) (hlt : ∀ id ∈ ρ, id < T.length)
    (hT : Tc = ρ.map fun id => rsOb al T ρ d (T.getD id .gone)) (ha : args' = args.map (rs al T ρ d true)) (hq : q = true → ρ = [])
    (hk : ∀ m T', K' m T' → ρ.length ≤ T'.length → (al = false → frM m = true ∧ T'.all frOb = true) ∧
      K (m.mp (gMap T.length ρ)) (setAll T ρ ((T'.take ρ.length).map (obMp (gMap T.length ρ))) ++ (T'.drop ρ.length).map (obMp (gMap T.length ρ)))) : CallW P q f args T K := by
  refine ⟨hc.1, fun A w0 β0 T0 w β hP us hus => ?_⟩
  have hTcl : Tc.length = ρ.length := by rw [hT]; simp
  have hTcj : ∀ (j id : Nat), ρ[j]? = some id → Tc[j]? = some (rsOb al T ρ d (T.getD id .gone)) := fun j id h => by rw [hT]; simp [h]
  have hTid : ∀ (j id : Nat), ρ[j]? = some id → T[id]? = some (T.getD id .gone) := fun j id h => by
    have := hlt id (List.mem_of_getElem? h)
    simp [List.getD, List.getElem?_eq_getElem this]
  let β1 : Nat → Option Nat := fun j => (ρ[j]?).bind β
  have hβ1 : ∀ (j id : Nat), ρ[j]? = some id → β1 j = β id := fun j id h => by simp [β1, h]
  have hgone : ∀ (j id : Nat), ρ[j]? = some id → (isGone T id ↔ isGone Tc j) := fun j id h => by
    unfold isGone
    rw [hTcj j id h, hTid j id h]
    cases T.getD id .gone <;> simp [rsOb]
  have hlive : ∀ (j id : Nat), ρ[j]? = some id → (live T id ↔ live Tc j) := fun j id h => by
    unfold live
    rw [hTcj j id h, hTid j id h]
    cases T.getD id .gone <;> simp [rsOb]
  have hliveρ : ∀ j, live Tc j → ∃ id, ρ[j]? = some id ∧ live T id ∧ β1 j = β id := fun j hj => by
    have hj' := live_lt hj
    have : ρ[j]? = some ρ[j] := List.getElem?_eq_getElem (by omega)
    exact ⟨_, this, (hlive j _ this).2 hj, hβ1 j _ this⟩
  let A' : Nat → Prop := fun k => al = false ∨ okB w β T w0.heap.size A false k
  have hokc : ∀ fr k, okB w β T w0.heap.size A fr k → okB w β1 Tc w.heap.size A' false k := fun fr k h =>
    ⟨h.1, fun j hj => by obtain ⟨id, _, h1, h2⟩ := hliveρ j hj; rw [h2]; exact h.2.1 id h1, fun e => (by cases e), .inl (.inr ⟨h.1, h.2.1, fun e => (by cases e), h.2.2.2⟩)⟩
  have hokc2 : al = false → ∀ id g, id ∉ ρ → live T id → β id = some g → okB w β1 Tc w.heap.size A' false g := fun hal id g hid hl hg =>
    ⟨hP.wf.bnd id g hl hg, fun j hj e => by
      obtain ⟨id', h0, h1, h2⟩ := hliveρ j hj
      exact hid (hP.wf.inj id id' g hl h1 hg (h2 ▸ e) ▸ List.mem_of_getElem? h0), fun e => (by cases e), .inl (.inl hal)⟩
  have hρ : ∀ (j id : Nat), ρ[j]? = some id → β1 j = β id ∧ (isGone T id → isGone Tc j) ∧ (live T id → live Tc j) := fun j id h => ⟨hβ1 j id h, (hgone j id h).1, (hlive j id h).1⟩
  have rsok := fun (m : M) (x : Value) (h : RepS A w0 w β T m x) => rs_ok (ok' := okB w β1 Tc w.heap.size A') (Tc := Tc) hP hokc hokc2 hρ d true Tc m x (by simp) h
  have hPc : Post A' w β1 Tc w β1 Tc := by
    refine ⟨rfl, rfl, rfl, Nat.le_refl _, fun _ _ _ => rfl, ⟨fun j b hj hb => ?_, fun i j b hi hj hb hb' => ?_, fun j fr cs hj => ?_⟩, Nat.le_refl _, fun i _ => ⟨id, fun hl => ⟨hl, rfl, fun _ _ => rfl⟩⟩, fun i b hi hl => absurd (live_lt hl) (by omega)⟩
    · obtain ⟨id', _, h1, h2⟩ := hliveρ j hj
      exact hP.wf.bnd id' b h1 (h2 ▸ hb)
    · obtain ⟨id1, h0, h1, h2⟩ := hliveρ i hi
      obtain ⟨id2, h3, h4, h5⟩ := hliveρ j hj
      have e := hP.wf.inj id1 id2 b h1 h4 (h2 ▸ hb) (h5 ▸ hb')
      subst e
      have hi' : i < ρ.length := (List.getElem?_eq_some_iff.1 h0).1
      exact (List.getElem?_inj hi' hn).1 (h0.trans h3.symm)
    · obtain ⟨id', h0, h1, h2⟩ := hliveρ j ⟨fr, cs, hj⟩
      rw [hTcj j id' h0] at hj
      have hTi := hTid j id' h0
      generalize T.getD id' .gone = o at hj hTi
      cases o with
      | gone => simp [rsOb] at hj
      | cells fr0 cs0 =>
        simp only [rsOb, Option.some.injEq, Ob.cells.injEq] at hj
        obtain ⟨rfl, rfl⟩ := hj
        rcases hP.wf.obj id' fr0 cs0 hTi with ⟨h3, rfl⟩ | ⟨b, us, sp, t, h3, _, h5, h6⟩
        · exact .inl ⟨h2.trans h3, rfl⟩
        · exact .inr ⟨b, us, sp, t, h2.trans h3, fun e => (by cases e), h5, RepL.map_of rsok cs0 us h6⟩
  have hargs : RepSL A' w w β1 Tc args' us := by rw [ha]; exact RepL.map_of rsok args us hus
  refine (hc.2 A' w β1 us hPc hargs).mono fun e w' he => ?_
  obtain ⟨x, m, T', β', rfl, hK', hP', hm⟩ := he
  have hTl : ρ.length ≤ T'.length := by have := hP'.len; omega
  obtain ⟨hfr, hK⟩ := hk m T' hK' hTl
  let β'' : Nat → Option Nat := fun i => if i < T.length then β i else β' (ρ.length + (i - T.length))
  have hβold : ∀ i, i < T.length → β'' i = β i := fun i hi => by simp [β'', hi]
  have hβnew : ∀ j, ρ.length ≤ j → β'' (T.length + (j - ρ.length)) = β' j := fun j hj => by
    simp only [β'']; rw [if_neg (by omega)]; congr 1; omega
  generalize hg : gMap T.length ρ = g at *
  generalize hT2 : setAll T ρ ((T'.take ρ.length).map (obMp g)) ++ (T'.drop ρ.length).map (obMp g) = T'' at *
  have hsl : (setAll T ρ ((T'.take ρ.length).map (obMp g))).length = T.length := setAll_length _ _ _
  have at_other : ∀ i, i < T.length → i ∉ ρ → T''[i]? = T[i]? := fun i hi hr => by rw [← hT2, List.getElem?_append_left (by omega), setAll_other _ _ _ _ hr]
  have at_ρ : ∀ (j id : Nat) (o : Ob), ρ[j]? = some id → T'[j]? = some o → T''[id]? = some (setOb (T.getD id .gone) (obMp g o)) := fun j id o h1 h2 => by
    have hid := hlt id (List.mem_of_getElem? h1)
    have hj : j < ρ.length := (List.getElem?_eq_some_iff.1 h1).1
    rw [← hT2, List.getElem?_append_left (by omega)]
    exact setAll_at ρ T _ j id (obMp g o) hn h1 (by simp [hj, h2]) hid
  have at_new : ∀ j, ρ.length ≤ j → T''[T.length + (j - ρ.length)]? = (T'[j]?).map (obMp g) := fun j hj => by
    rw [← hT2, List.getElem?_append_right (by omega), hsl, List.getElem?_map, List.getElem?_drop]
    congr 2; omega
  have setlive : ∀ o o' : Ob, (setOb o (obMp g o') = .gone ↔ o' = .gone) := fun o o' => by cases o <;> cases o' <;> simp [setOb, obMp]
  have hT'j : ∀ j, j < T'.length → isGone T' j ∨ live T' j := fun j hj => by
    have e : T'[j]? = some T'[j] := List.getElem?_eq_getElem hj
    cases e' : T'[j] with
    | gone => exact .inl (by unfold isGone; rw [e, e'])
    | cells fr cs => exact .inr ⟨fr, cs, by rw [e, e']⟩
  -- which are live
  have liveT : ∀ i, live T'' i → (i < T.length ∧ i ∉ ρ ∧ live T i) ∨ (∃ j, ρ[j]? = some i ∧ live T' j ∧ i < T.length ∧ live T i ∧ β' j = β i) ∨ (∃ j, ρ.length ≤ j ∧ i = T.length + (j - ρ.length) ∧ live T' j) := fun i hi => by
    rcases Nat.lt_or_ge i T.length with hlt' | hge
    · by_cases hr : i ∈ ρ
      · obtain ⟨j, hj⟩ := List.getElem?_of_mem hr
        have hjl : j < T'.length := Nat.lt_of_lt_of_le (List.getElem?_eq_some_iff.1 hj).1 hTl
        rcases hT'j j hjl with hg' | hl
        · have := at_ρ j i .gone hj hg'
          obtain ⟨fr, cs, hc'⟩ := hi
          rw [this] at hc'
          have := (setlive (T.getD i .gone) .gone).2 rfl
          simp only [Option.some.injEq] at hc'
          rw [this] at hc'; cases hc'
        · have hjc : j < Tc.length := by rw [hTcl]; exact (List.getElem?_eq_some_iff.1 hj).1
          obtain ⟨h1, h2, _⟩ := (hP'.old j hjc).2 hl
          exact .inr (.inl ⟨j, hj, hl, hlt', (hlive j i hj).2 h1, h2.trans (hβ1 j i hj)⟩)
      · refine .inl ⟨hlt', hr, ?_⟩
        obtain ⟨fr, cs, hc'⟩ := hi
        rw [at_other i hlt' hr] at hc'
        exact ⟨fr, cs, hc'⟩
    · refine .inr (.inr ⟨ρ.length + (i - T.length), by omega, by omega, ?_⟩)
      have := at_new (ρ.length + (i - T.length)) (by omega)
      rw [show T.length + (ρ.length + (i - T.length) - ρ.length) = i from by omega] at this
      obtain ⟨fr, cs, hc'⟩ := hi
      rw [this] at hc'
      cases e : T'[ρ.length + (i - T.length)]? with
      | none => rw [e] at hc'; cases hc'
      | some o =>
        rw [e] at hc'
        cases o with
        | gone => simp [obMp] at hc'
        | cells fr' cs' => exact ⟨fr', cs', e⟩
  have liveOld : ∀ i, i ∉ ρ → live T i → live T'' i := fun i hr hl => by
    obtain ⟨fr, cs, hc'⟩ := hl
    exact ⟨fr, cs, by rw [at_other i (List.getElem?_eq_some_iff.1 hc').1 hr]; exact hc'⟩
  have liveRho : ∀ j i, ρ[j]? = some i → live T' j → live T'' i := fun j i hj hl => by
    obtain ⟨fr, cs, hc'⟩ := hl
    have := at_ρ j i _ hj hc'
    cases e : T.getD i .gone <;> rw [e] at this <;> exact ⟨_, _, this⟩
  have liveNew : ∀ j, ρ.length ≤ j → live T' j → live T'' (T.length + (j - ρ.length)) := fun j hj hl => by
    obtain ⟨fr, cs, hc'⟩ := hl
    exact ⟨fr, _, by rw [at_new j hj, hc']; rfl⟩
  have goneRho : ∀ j i, ρ[j]? = some i → isGone T' j → isGone T'' i := fun j i hj hl => by
    have := at_ρ j i _ hj hl
    unfold isGone
    rw [this, (setlive _ _).2 rfl]
  have goneNew : ∀ j, ρ.length ≤ j → isGone T' j → isGone T'' (T.length + (j - ρ.length)) := fun j hj hl => by
    unfold isGone at *
    rw [at_new j hj, hl]; rfl
  -- a callee's block, seen from the caller
  have blk : ∀ j b, live T' j → β' j = some b → w.heap.size ≤ b ∨ ∃ id, id ∈ ρ ∧ live T id ∧ β id = some b := fun j b hl hb => by
    rcases Nat.lt_or_ge j ρ.length with h1 | h1
    · obtain ⟨h2, h3, _⟩ := (hP'.old j (by omega)).2 hl
      obtain ⟨id', h4, h5, h6⟩ := hliveρ j h2
      exact .inr ⟨id', List.mem_of_getElem? h4, h5, (h6.symm.trans h3.symm).trans hb⟩
    · rcases hP'.new j b (by omega) hl hb with h2 | ⟨j0, h2, h3⟩
      · exact .inl h2
      · obtain ⟨id', h4, h5, h6⟩ := hliveρ j0 h2
        exact .inr ⟨id', List.mem_of_getElem? h4, h5, h6.symm.trans h3⟩
  have hfrm : ∀ k, k < w.heap.size → (∀ id, id ∈ ρ → live T id → β id ≠ some k) → w'.heap[k]? = w.heap[k]? := fun k hk hne => hP'.frame k hk fun j hj e => by
    obtain ⟨id', h4, h5, h6⟩ := hliveρ j hj
    exact hne id' (List.mem_of_getElem? h4) h5 (h6 ▸ e)
  have okUp : ∀ b k, (b = false → al = true) → okB w' β' T' w.heap.size A' b k → okB w' β'' T'' w0.heap.size A b k := fun b k hb hok => by
    have hnew : ¬ (w.heap.size ≤ k) → okB w β T w0.heap.size A false k := fun hnk => by
      rcases hok.2.2.2 with (h1 | h1) | h1
      · cases b
        · rw [hb rfl] at h1; cases h1
        · exact absurd (hok.2.2.1 rfl) hnk
      · exact h1
      · exact absurd h1 hnk
    refine ⟨hok.1, fun i hi e => ?_, fun e => Nat.le_trans hP.size (hok.2.2.1 e), ?_⟩
    · rcases liveT i hi with ⟨h1, h2, h3⟩ | ⟨j, h1, h2, h3, h4, h5⟩ | ⟨j, h1, rfl, h2⟩
      · rw [hβold i h1] at e
        rcases Nat.lt_or_ge k w.heap.size with h4 | h4
        · exact (hnew (by omega)).2.1 i h3 e
        · have := hP.wf.bnd i k h3 e; omega
      · rw [hβold i h3, ← h5] at e; exact hok.2.1 j h2 e
      · rw [hβnew j h1] at e; exact hok.2.1 j h2 e
    · rcases Nat.lt_or_ge k w.heap.size with h4 | h4
      · exact (hnew (by omega)).2.2.2
      · exact .inr (Nat.le_trans hP.size h4)
  have hgm : ∀ i j, g i = some j → (isGone T' i → isGone T'' j) ∧ (live T' i → isGone T'' j ∨ (live T'' j ∧ β'' j = β' i)) := fun i j hij => by
    subst hg
    unfold gMap at hij
    split at hij
    · rename_i hi
      refine ⟨goneRho i j hij, fun hl => .inr ⟨liveRho i j hij hl, ?_⟩⟩
      obtain ⟨h2, h3, _⟩ := (hP'.old i (by omega)).2 hl
      rw [hβold j (hlt j (List.mem_of_getElem? hij)), h3, hβ1 i j hij]
    · rename_i hi
      simp only [Option.some.injEq] at hij
      subst hij
      exact ⟨goneNew i (by omega), fun hl => .inr ⟨liveNew i (by omega) hl, hβnew i (by omega)⟩⟩
  have hup : ∀ (m : M) (x : Value), (al = false → frM m = true) → Rep w' β' (okB w' β' T' w.heap.size A') T' m x → Rep w' β'' (okB w' β'' T'' w0.heap.size A) T'' (m.mp g) x := fun m x hf hr =>
    Rep.mp (!al) (fun k h => okUp true k (fun e => by cases e) h) (fun hb k h => okUp false k (fun _ => by simpa using hb) h) hgm m x (fun hb => hf (by simpa using hb)) hr
  have hupL : ∀ (ms : List M) (us : List Value), (al = false → frL ms = true) → RepL w' β' (okB w' β' T' w.heap.size A') T' ms us → RepL w' β'' (okB w' β'' T'' w0.heap.size A) T'' (M.mpL g ms) us := fun ms us hf hr =>
    RepL.mp (!al) (fun k h => okUp true k (fun e => by cases e) h) (fun hb k h => okUp false k (fun _ => by simpa using hb) h) hgm ms us (fun hb => hf (by simpa using hb)) hr
  have hfrO : ∀ (j : Nat) fr cs, T'[j]? = some (Ob.cells fr cs) → al = false → frL cs = true := fun j fr cs hj hal => by
    have := List.all_eq_true.1 (hfr hal).2 _ (List.mem_of_getElem? hj)
    simpa [frOb] using this
  have hlast : Lasts w β (okB w β T w0.heap.size A) T w' β'' (okB w' β'' T'' w0.heap.size A) T'' := by
    refine ⟨fun fr k hk' => ⟨⟨Nat.lt_of_lt_of_le hk'.1 hP'.size, fun i hi e => ?_, hk'.2.2⟩, hfrm k hk'.1 fun id _ hl => hk'.2.1 id hl⟩, fun i hi => ?_, fun i hi => ?_⟩
    · rcases liveT i hi with ⟨h1, h2, h3⟩ | ⟨j, h1, h2, h3, h4, h5⟩ | ⟨j, h1, rfl, h2⟩
      · rw [hβold i h1] at e; exact hk'.2.1 i h3 e
      · rw [hβold i h3] at e; exact hk'.2.1 i h4 e
      · rw [hβnew j h1] at e
        rcases blk j k h2 e with h3 | ⟨id', _, h3, h4⟩
        · have := hk'.1; omega
        · exact hk'.2.1 id' h3 h4
    · by_cases hr : i ∈ ρ
      · obtain ⟨j, hj⟩ := List.getElem?_of_mem hr
        exact goneRho j i hj ((hP'.old j (by rw [hTcl]; exact (List.getElem?_eq_some_iff.1 hj).1)).1 ((hgone j i hj).1 hi))
      · unfold isGone at *
        rw [at_other i (List.getElem?_eq_some_iff.1 hi).1 hr]; exact hi
    · have hil := live_lt hi
      by_cases hr : i ∈ ρ
      · obtain ⟨j, hj⟩ := List.getElem?_of_mem hr
        have hjl : j < ρ.length := (List.getElem?_eq_some_iff.1 hj).1
        rcases hT'j j (by omega) with hg' | hl
        · exact .inl (goneRho j i hj hg')
        · obtain ⟨h2, h3, h4⟩ := (hP'.old j (by omega)).2 hl
          refine .inr ⟨liveRho j i hj hl, hβold i hil, fun b hb => h4 b ?_⟩
          rw [h3, hβ1 j i hj]; exact hb
      · refine .inr ⟨liveOld i hr hi, hβold i hil, fun b hb => ?_⟩
        unfold bsize
        rw [hfrm b (hP.wf.bnd i b hi hb) fun id hid hl e => hr (hP.wf.inj i id b hi hl hb e ▸ hid)]
  refine ⟨x, m.mp g, T'', β'', rfl, hK, ⟨⟨hP'.os.trans hP.os, hP'.tape.trans hP.tape, hP'.output.trans hP.output, Nat.le_trans hP.size hP'.size, fun k hk' hne => ?_, ⟨fun i b hi hb => ?_, fun i i' b hi hi' hb hb' => ?_, fun i fr cs hi => ?_⟩, ?_, fun i hi => ⟨fun hgi => hlast.gone i ((hP.old i hi).1 hgi), fun hli => ?_⟩, fun i b hi hli hb => ?_⟩, hlast⟩, hup m x (fun h => (hfr h).1) hm, fun hq' k hk' => hfrm k hk' fun id hid => by rw [hq hq'] at hid; cases hid⟩
  · refine (hfrm k (Nat.lt_of_lt_of_le hk' hP.size) fun id _ hl e => ?_).trans (hP.frame k hk' hne)
    rcases Nat.lt_or_ge id T0.length with h1 | h1
    · obtain ⟨h2, h3, _⟩ := (hP.old id h1).2 hl
      exact hne id h2 (h3 ▸ e)
    · rcases hP.new id k h1 hl e with h2 | ⟨j, h2, h3⟩
      · omega
      · exact hne j h2 h3
  · rcases liveT i hi with ⟨h1, h2, h3⟩ | ⟨j, h1, h2, h3, h4, h5⟩ | ⟨j, h1, rfl, h2⟩
    · rw [hβold i h1] at hb; exact Nat.lt_of_lt_of_le (hP.wf.bnd i b h3 hb) hP'.size
    · rw [hβold i h3] at hb; exact Nat.lt_of_lt_of_le (hP.wf.bnd i b h4 hb) hP'.size
    · rw [hβnew j h1] at hb; exact hP'.wf.bnd j b h2 hb
  · -- no two numbers for one block
    have side : ∀ i i', live T'' i → live T'' i' → (i < T.length ∧ i ∉ ρ ∧ live T i) → β'' i = some b → β'' i' = some b → i = i' := fun i i' hi hi' h hb hb' => by
      rw [hβold i h.1] at hb
      rcases liveT i' hi' with ⟨h1, h2, h3⟩ | ⟨j, h1, h2, h3, h4, h5⟩ | ⟨j, h1, rfl, h2⟩
      · rw [hβold i' h1] at hb'; exact hP.wf.inj i i' b h.2.2 h3 hb hb'
      · rw [hβold i' h3] at hb'; exact hP.wf.inj i i' b h.2.2 h4 hb hb'
      · rw [hβnew j h1] at hb'
        rcases blk j b h2 hb' with h3 | ⟨id', h3, h4, h5⟩
        · have := hP.wf.bnd i b h.2.2 hb; omega
        · exact absurd (hP.wf.inj i id' b h.2.2 h4 hb h5 ▸ h3) h.2.1
    rcases liveT i hi with h | ⟨j, h1, h2, h3, h4, h5⟩ | ⟨j, h1, rfl, h2⟩
    · exact side i i' hi hi' h hb hb'
    · rcases liveT i' hi' with h | ⟨j', h1', h2', h3', h4', h5'⟩ | ⟨j', h1', rfl, h2'⟩
      · exact (side i' i hi' hi h hb' hb).symm
      · rw [hβold i h3] at hb; rw [hβold i' h3'] at hb'; exact hP.wf.inj i i' b h4 h4' hb hb'
      · rw [hβold i h3, ← h5] at hb
        rw [hβnew j' h1'] at hb'
        have e := hP'.wf.inj j j' b h2 h2' hb hb'
        have := (List.getElem?_eq_some_iff.1 h1).1
        omega
    · rcases liveT i' hi' with h | ⟨j', h1', h2', h3', h4', h5'⟩ | ⟨j', h1', rfl, h2'⟩
      · exact (side i' _ hi' hi h hb' hb).symm
      · rw [hβold i' h3', ← h5'] at hb'
        rw [hβnew j h1] at hb
        have e := hP'.wf.inj j j' b h2 h2' hb hb'
        have := (List.getElem?_eq_some_iff.1 h1').1
        omega
      · rw [hβnew j h1] at hb; rw [hβnew j' h1'] at hb'
        have e := hP'.wf.inj j j' b h2 h2' hb hb'
        omega
  · rcases liveT i ⟨fr, cs, hi⟩ with ⟨h1, h2, h3⟩ | ⟨j, h1, ⟨fr', cs', h2⟩, h3, h4, h5⟩ | ⟨j, h1, rfl, ⟨fr', cs', h2⟩⟩
    · rw [at_other i h1 h2] at hi
      rcases hP.wf.obj i fr cs hi with ⟨h4, h5⟩ | ⟨b, us', sp, t, h4, h5, h6, h7⟩
      · exact .inl ⟨(hβold i h1).trans h4, h5⟩
      · exact .inr ⟨b, us', sp, t, (hβold i h1).trans h4, h5, by rw [hfrm b (hP.wf.bnd i b h3 h4) fun id hid hl e => h2 (hP.wf.inj i id b h3 hl h4 e ▸ hid)]; exact h6, RepL.last hlast _ _ h7⟩
    · rw [at_ρ j i _ h1 h2] at hi
      have hTi := hTid j i h1
      have hfl : ∃ f0 c0, T.getD i .gone = .cells f0 c0 := by
        obtain ⟨f0, c0, h6⟩ := h4
        rw [hTi] at h6
        exact ⟨f0, c0, by simpa using h6⟩
      obtain ⟨f0, c0, hf0⟩ := hfl
      rw [hf0] at hi hTi
      simp only [setOb, obMp, Option.some.injEq, Ob.cells.injEq] at hi
      obtain ⟨rfl, rfl⟩ := hi
      rcases hP'.wf.obj j fr' cs' h2 with ⟨h6, rfl⟩ | ⟨b, us', sp, t, h6, h7, h8, h9⟩
      · exact .inl ⟨(hβold i h3).trans (h5.symm.trans h6), by simp [M.mpL]⟩
      · refine .inr ⟨b, us', sp, t, (hβold i h3).trans (h5.symm.trans h6), fun e => ?_, h8, hupL cs' us' (hfrO j fr' cs' h2) h9⟩
        simp only [Bool.or_eq_true] at e
        rcases e with e | e
        · rcases hP.wf.obj i f0 c0 hTi with ⟨h10, _⟩ | ⟨b2, _, _, _, h10, h11, _⟩
          · rw [← h5, h6] at h10; cases h10
          · rw [← h5, h6] at h10; injection h10 with h10; rw [h10]; exact h11 e
        · exact Nat.le_trans hP.size (h7 e)
    · rw [at_new j h1, h2] at hi
      simp only [Option.map_some, obMp, Option.some.injEq, Ob.cells.injEq] at hi
      obtain ⟨rfl, rfl⟩ := hi
      rcases hP'.wf.obj j fr' cs' h2 with ⟨h6, rfl⟩ | ⟨b, us', sp, t, h6, h7, h8, h9⟩
      · exact .inl ⟨(hβnew j h1).trans h6, by simp [M.mpL]⟩
      · exact .inr ⟨b, us', sp, t, (hβnew j h1).trans h6, fun e => Nat.le_trans hP.size (h7 e), h8, hupL cs' us' (hfrO j fr' cs' h2) h9⟩
  · rw [← hT2, List.length_append, hsl]; have := hP.len; omega
  · have hil : i < T.length := by have := hP.len; omega
    have hl : live T i := by
      rcases liveT i hli with ⟨_, _, h3⟩ | ⟨_, _, _, _, h4, _⟩ | ⟨j, h1, h2, _⟩
      · exact h3
      · exact h4
      · omega
    obtain ⟨h1, h2, h3⟩ := (hP.old i hi).2 hl
    refine ⟨h1, (hβold i hil).trans h2, fun b hb => ?_⟩
    rw [hβold i hil] at hb
    rcases hlast.live i hl with h4 | ⟨_, _, h6⟩
    · exact absurd hli (not_live_gone h4)
    · exact (h6 b hb).trans (h3 b hb)
  · rcases liveT i hli with ⟨h1, h2, h3⟩ | ⟨j, h1, h2, h3, h4, h5⟩ | ⟨j, h1, rfl, h2⟩
    · rw [hβold i h1] at hb; exact hP.new i b hi h3 hb
    · rw [hβold i h3] at hb; exact hP.new i b hi h4 hb
    · rw [hβnew j h1] at hb
      rcases blk j b h2 hb with h3 | ⟨id', _, h3, h4⟩
      · exact .inl (Nat.le_trans hP.size h3)
      · rcases Nat.lt_or_ge id' T0.length with h5 | h5
        · obtain ⟨h6, h7, _⟩ := (hP.old id' h5).2 h3
          exact .inr ⟨id', h6, h7 ▸ h4⟩
        · exact hP.new id' b h5 h3 h4
end
end Go.Tl
