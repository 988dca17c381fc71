/- The tree logic, part B: how the world moves, and the state with it. -/
import Derived.Test.YtpbgiccloeihcaaTlA
namespace Go.Tl
open Go.RowKit

/-- One step of the world, as the state sees it. -/
structure Move (A : Nat → Prop) (w0 : World) (β0 : Nat → Option Nat) (T0 : Tbl) (w : World) (β : Nat → Option Nat) (T : Tbl) (w' : World) (β' : Nat → Option Nat) (T' : Tbl) : Prop where
  post : Post A w0 β0 T0 w' β' T'
  last : Lasts w β (okB w β T w0.heap.size A) T w' β' (okB w' β' T' w0.heap.size A) T'

section
variable {A : Nat → Prop} {w0 : World} {β0 : Nat → Option Nat} {T0 : Tbl} {w : World} {β : Nat → Option Nat} {T : Tbl}

theorem Move.refl (h : Post A w0 β0 T0 w β T) : Move A w0 β0 T0 w β T w β T :=
  ⟨h, ⟨fun _ _ h => ⟨h, rfl⟩, fun _ h => h, fun _ h => .inr ⟨h, rfl, fun _ _ => rfl⟩⟩⟩

theorem Lasts.trans {w1 w2 w3 : World} {β1 β2 β3 : Nat → Option Nat} {ok1 ok2 ok3 : Bool → Nat → Prop} {T1 T2 T3 : Tbl}
    (h : Lasts w1 β1 ok1 T1 w2 β2 ok2 T2) (k : Lasts w2 β2 ok2 T2 w3 β3 ok3 T3) : Lasts w1 β1 ok1 T1 w3 β3 ok3 T3 := by
  refine ⟨fun fr b hb => ?_, fun i hi => k.gone i (h.gone i hi), fun i hi => ?_⟩
  · obtain ⟨h1, h2⟩ := h.ok fr b hb
    obtain ⟨h3, h4⟩ := k.ok fr b h1
    exact ⟨h3, h4.trans h2⟩
  · rcases h.live i hi with hg | ⟨hl, hb, hs⟩
    · exact .inl (k.gone i hg)
    · rcases k.live i hl with hg | ⟨hl', hb', hs'⟩
      · exact .inl hg
      · exact .inr ⟨hl', hb'.trans hb, fun b hbb => (hs' b (hb.trans hbb)).trans (hs b hbb)⟩

theorem Move.trans {w1 w2 : World} {β1 β2 : Nat → Option Nat} {T1 T2 : Tbl} (h : Move A w0 β0 T0 w β T w1 β1 T1) (k : Move A w0 β0 T0 w1 β1 T1 w2 β2 T2) :
    Move A w0 β0 T0 w β T w2 β2 T2 := ⟨k.post, h.last.trans k.last⟩

theorem Move.rep {w' : World} {β' : Nat → Option Nat} {T' : Tbl} (h : Move A w0 β0 T0 w β T w' β' T') {m : M} {x : Value}
    (hr : Rep w β (okB w β T w0.heap.size A) T m x) : Rep w' β' (okB w' β' T' w0.heap.size A) T' m x := Rep.last h.last m x hr

theorem Move.repL {w' : World} {β' : Nat → Option Nat} {T' : Tbl} (h : Move A w0 β0 T0 w β T w' β' T') {m : List M} {x : List Value}
    (hr : RepL w β (okB w β T w0.heap.size A) T m x) : RepL w' β' (okB w' β' T' w0.heap.size A) T' m x := RepL.last h.last m x hr

/-- A draw. -/
theorem Post.drew (h : Post A w0 β0 T0 w β T) : Move A w0 β0 T0 w β T { w with drawn := w.drawn + 1 } β T := by
  have hl : Lasts w β (okB w β T w0.heap.size A) T { w with drawn := w.drawn + 1 } β (okB { w with drawn := w.drawn + 1 } β T w0.heap.size A) T :=
    ⟨fun _ _ h => ⟨h, rfl⟩, fun _ h => h, fun _ h => .inr ⟨h, rfl, fun _ _ => rfl⟩⟩
  refine ⟨⟨h.os, h.tape, h.output, h.size, h.frame, ⟨h.wf.bnd, h.wf.inj, fun i fr cs hc => ?_⟩, h.len, h.old, h.new⟩, hl⟩
  rcases h.wf.obj i fr cs hc with h0 | ⟨b, us, sp, t, hb, h0, h1, h2⟩
  · exact .inl h0
  · exact .inr ⟨b, us, sp, t, hb, h0, h1, RepL.last hl _ _ h2⟩

def setβ (β : Nat → Option Nat) (i : Nat) (k : Option Nat) : Nat → Option Nat := fun j => if j = i then k else β j

theorem live_append {T : Tbl} {o : Ob} {i : Nat} : live (T ++ [o]) i ↔ live T i ∨ (i = T.length ∧ ∃ fr cs, o = .cells fr cs) := by
  unfold live
  rw [List.getElem?_append]
  split
  · rename_i hlt
    constructor
    · exact .inl
    · rintro (h | ⟨h, _⟩)
      · exact h
      · omega
  · rename_i hge
    have hT : T[i]? = none := List.getElem?_eq_none (by omega)
    rw [hT]
    constructor
    · rintro ⟨fr, cs, hc⟩
      have hi := (List.getElem?_eq_some_iff.1 hc).1
      simp only [List.length_cons, List.length_nil] at hi
      have hi0 : i - T.length = 0 := by omega
      rw [hi0] at hc
      refine .inr ⟨by omega, fr, cs, ?_⟩
      simpa using hc
    · rintro (⟨fr, cs, hc⟩ | ⟨rfl, fr, cs, rfl⟩)
      · cases hc
      · exact ⟨fr, cs, by simp⟩

theorem gone_append {T : Tbl} {o : Ob} {i : Nat} (h : isGone T i) : isGone (T ++ [o]) i := by
  unfold isGone at *
  rw [List.getElem?_append_left (gone_lt h)]
  exact h

/-- A new block. -/
theorem Post.alloc (h : Post A w0 β0 T0 w β T) (fr : Bool) {cs : List M} {us : List Value} (sp : List Value) (t : TypeId) (hr : RepL w β (okB w β T w0.heap.size A) T cs us) :
    Move A w0 β0 T0 w β T { w with heap := w.heap.push (.cells (us ++ sp).toArray t) } (setβ β T.length (some w.heap.size)) (T ++ [.cells fr cs]) := by
  have hold : ∀ k, k < w.heap.size → (w.heap.push (Obj.cells (us ++ sp).toArray t))[k]? = w.heap[k]? := fun k hk => by rw [Array.getElem?_push, if_neg (by omega)]
  have hβ : ∀ i, live T i → setβ β T.length (some w.heap.size) i = β i := fun i hi => by unfold setβ; rw [if_neg (by have := live_lt hi; omega)]
  have hβn : setβ β T.length (some w.heap.size) T.length = some w.heap.size := by unfold setβ; rw [if_pos rfl]
  have hl : Lasts w β (okB w β T w0.heap.size A) T { w with heap := w.heap.push (.cells (us ++ sp).toArray t) } (setβ β T.length (some w.heap.size))
      (okB { w with heap := w.heap.push (.cells (us ++ sp).toArray t) } (setβ β T.length (some w.heap.size)) (T ++ [.cells fr cs]) w0.heap.size A) (T ++ [.cells fr cs]) := by
    refine ⟨fun fr k hk => ⟨⟨?_, fun i hi => ?_, hk.2.2⟩, hold k hk.1⟩, fun i hi => gone_append hi, fun i hi => .inr ⟨live_append.2 (.inl hi), hβ i hi, fun b hb => ?_⟩⟩
    · simp only [Array.size_push]; have := hk.1; omega
    · rcases live_append.1 hi with hi | ⟨rfl, _⟩
      · rw [hβ i hi]; exact hk.2.1 i hi
      · rw [hβn]; intro e; injection e with e; have := hk.1; omega
    · unfold bsize; rw [hold _ (h.wf.bnd i b hi hb)]
  refine ⟨⟨h.os, h.tape, h.output, ?_, fun k hk hn => ?_, ⟨fun i b hi hb => ?_, fun i j b hi hj hb hb' => ?_, fun i fr' cs' hc => ?_⟩, ?_, fun i hi => ⟨fun hg => ?_, fun hli => ?_⟩, fun i b hi hli hb => ?_⟩, hl⟩
  · simp only [Array.size_push]; have := h.size; omega
  · exact (hold k (by have := h.size; omega)).trans (h.frame k hk hn)
  · simp only [Array.size_push]
    rcases live_append.1 hi with hi | ⟨rfl, _⟩
    · rw [hβ i hi] at hb; have := h.wf.bnd i b hi hb; omega
    · rw [hβn] at hb; injection hb with hb; omega
  · rcases live_append.1 hi with hi | ⟨rfl, _⟩ <;> rcases live_append.1 hj with hj | ⟨rfl, _⟩
    · rw [hβ i hi] at hb; rw [hβ j hj] at hb'; exact h.wf.inj i j b hi hj hb hb'
    · rw [hβ i hi] at hb; rw [hβn] at hb'; injection hb' with hb'; have := h.wf.bnd i b hi hb; omega
    · rw [hβ j hj] at hb'; rw [hβn] at hb; injection hb with hb; have := h.wf.bnd j b hj hb'; omega
    · rfl
  · rcases Nat.lt_or_ge i T.length with hlt | hge
    · rw [List.getElem?_append_left hlt] at hc
      have hb := hβ i ⟨fr', cs', hc⟩
      rcases h.wf.obj i fr' cs' hc with ⟨h0, h1⟩ | ⟨b, us', sp', t', hbb, h0, h1, h2⟩
      · exact .inl ⟨hb.trans h0, h1⟩
      · exact .inr ⟨b, us', sp', t', hb.trans hbb, h0, by rw [hold _ (h.wf.bnd i b ⟨fr', cs', hc⟩ hbb)]; exact h1, RepL.last hl _ _ h2⟩
    · have hi' := (List.getElem?_eq_some_iff.1 hc).1
      simp only [List.length_append, List.length_cons, List.length_nil] at hi'
      obtain rfl : i = T.length := by omega
      simp only [List.getElem?_append_right (Nat.le_refl _), Nat.sub_self, List.getElem?_cons_zero, Option.some.injEq, Ob.cells.injEq] at hc
      obtain ⟨rfl, rfl⟩ := hc
      exact .inr ⟨w.heap.size, us, sp, t, hβn, fun _ => h.size, by simp, RepL.last hl _ _ hr⟩
  · simp only [List.length_append, List.length_cons, List.length_nil]; have := h.len; omega
  · exact gone_append ((h.old i hi).1 hg)
  · rcases live_append.1 hli with hli | ⟨rfl, _⟩
    · obtain ⟨h1, h2, h3⟩ := (h.old i hi).2 hli
      refine ⟨h1, (hβ i hli).trans h2, fun b hb => ?_⟩
      rw [hβ i hli] at hb
      rw [← h3 b hb]
      unfold bsize; rw [hold _ (h.wf.bnd i b hli hb)]
    · have := h.len; omega
  · rcases live_append.1 hli with hli | ⟨rfl, _⟩
    · rw [hβ i hli] at hb; exact h.new i b hi hli hb
    · rw [hβn] at hb; injection hb with hb; subst hb; exact .inl h.size

/-- A row that has no block yet. -/
theorem Post.phantom (h : Post A w0 β0 T0 w β T) (fr : Bool) : Move A w0 β0 T0 w β T w (setβ β T.length none) (T ++ [.cells fr []]) := by
  have hβ : ∀ i, live T i → setβ β T.length none i = β i := fun i hi => by unfold setβ; rw [if_neg (by have := live_lt hi; omega)]
  have hβn : setβ β T.length none T.length = none := by unfold setβ; rw [if_pos rfl]
  have hl : Lasts w β (okB w β T w0.heap.size A) T w (setβ β T.length none) (okB w (setβ β T.length none) (T ++ [.cells fr []]) w0.heap.size A) (T ++ [.cells fr []]) := by
    refine ⟨fun fr k hk => ⟨⟨hk.1, fun i hi => ?_, hk.2.2⟩, rfl⟩, fun i hi => gone_append hi, fun i hi => .inr ⟨live_append.2 (.inl hi), hβ i hi, fun b hb => rfl⟩⟩
    rcases live_append.1 hi with hi | ⟨rfl, _⟩
    · rw [hβ i hi]; exact hk.2.1 i hi
    · rw [hβn]; intro e; cases e
  refine ⟨⟨h.os, h.tape, h.output, h.size, h.frame, ⟨fun i b hi hb => ?_, fun i j b hi hj hb hb' => ?_, fun i fr' cs' hc => ?_⟩, ?_, fun i hi => ⟨fun hg => gone_append ((h.old i hi).1 hg), fun hli => ?_⟩, fun i b hi hli hb => ?_⟩, hl⟩
  · rcases live_append.1 hi with hi | ⟨rfl, _⟩
    · rw [hβ i hi] at hb; exact h.wf.bnd i b hi hb
    · rw [hβn] at hb; cases hb
  · rcases live_append.1 hi with hi | ⟨rfl, _⟩ <;> rcases live_append.1 hj with hj | ⟨rfl, _⟩
    · rw [hβ i hi] at hb; rw [hβ j hj] at hb'; exact h.wf.inj i j b hi hj hb hb'
    · rw [hβn] at hb'; cases hb'
    · rw [hβn] at hb; cases hb
    · rfl
  · rcases Nat.lt_or_ge i T.length with hlt | hge
    · rw [List.getElem?_append_left hlt] at hc
      have hb := hβ i ⟨fr', cs', hc⟩
      rcases h.wf.obj i fr' cs' hc with ⟨h0, h1⟩ | ⟨b, us', sp', t', hbb, h0, h1, h2⟩
      · exact .inl ⟨hb.trans h0, h1⟩
      · exact .inr ⟨b, us', sp', t', hb.trans hbb, h0, h1, RepL.last hl _ _ h2⟩
    · have hi' := (List.getElem?_eq_some_iff.1 hc).1
      simp only [List.length_append, List.length_cons, List.length_nil] at hi'
      obtain rfl : i = T.length := by omega
      simp only [List.getElem?_append_right (Nat.le_refl _), Nat.sub_self, List.getElem?_cons_zero, Option.some.injEq, Ob.cells.injEq] at hc
      exact .inl ⟨hβn, hc.2.symm⟩
  · simp only [List.length_append, List.length_cons, List.length_nil]; have := h.len; omega
  · rcases live_append.1 hli with hli | ⟨rfl, _⟩
    · obtain ⟨h1, h2, h3⟩ := (h.old i hi).2 hli
      exact ⟨h1, (hβ i hli).trans h2, fun b hb => h3 b (by rw [← hβ i hli]; exact hb)⟩
    · have := h.len; omega
  · rcases live_append.1 hli with hli | ⟨rfl, _⟩
    · rw [hβ i hli] at hb; exact h.new i b hi hli hb
    · rw [hβn] at hb; cases hb

theorem live_set {T : Tbl} {id : Nat} {o : Ob} {i : Nat} (hid : id < T.length) : live (T.set id o) i ↔ (i ≠ id ∧ live T i) ∨ (i = id ∧ ∃ fr cs, o = .cells fr cs) := by
  unfold live
  by_cases hi : i = id
  · subst hi
    rw [List.getElem?_set_self hid]
    constructor
    · rintro ⟨fr, cs, hc⟩; exact .inr ⟨rfl, fr, cs, by simpa using hc⟩
    · rintro (⟨h, _⟩ | ⟨_, fr, cs, rfl⟩)
      · exact absurd rfl h
      · exact ⟨fr, cs, rfl⟩
  · rw [List.getElem?_set_ne (Ne.symm hi)]
    constructor
    · exact fun h => .inl ⟨hi, h⟩
    · rintro (⟨_, h⟩ | ⟨h, _⟩)
      · exact h
      · exact absurd h hi

theorem gone_set {T : Tbl} {id : Nat} {o : Ob} {i : Nat} (hid : live T id) (h : isGone T i) : isGone (T.set id o) i := by
  have hne : id ≠ i := fun e => not_live_gone h (e ▸ hid)
  unfold isGone at *
  rw [List.getElem?_set_ne hne]
  exact h

/-- One of the call's own blocks turns. -/
theorem Post.write (h : Post A w0 β0 T0 w β T) {id g : Nat} {fr : Bool} {cs0 cs : List M} {us us0 sp sp0 : List Value} {t : TypeId} (hid : T[id]? = some (.cells fr cs0)) (hg : β id = some g)
    (h0 : w.heap[g]? = some (.cells (us0 ++ sp0).toArray t (0, 0))) (hs : (us ++ sp).length = (us0 ++ sp0).length)
    (hr : RepL w β (okB w β T w0.heap.size A) T cs us) :
    Move A w0 β0 T0 w β T (w.setRow g (us ++ sp).toArray) β (T.set id (.cells fr cs)) := by
  have hlive : live T id := ⟨fr, cs0, hid⟩
  have hlt := live_lt hlive
  have hat' : (w.setRow g (us ++ sp).toArray).heap[g]? = some (.cells (us ++ sp).toArray t (0, 0)) := setRow_heap w _ _ _ t _ h0
  have hne : ∀ k, k ≠ g → (w.setRow g (us ++ sp).toArray).heap[k]? = w.heap[k]? := fun k hk => setRow_other w _ _ _ hk
  have hsz : (w.setRow g (us ++ sp).toArray).heap.size = w.heap.size := setRow_size _ _ _
  generalize hw : w.setRow g (us ++ sp).toArray = w' at *
  have hiff : ∀ i, live (T.set id (.cells fr cs)) i ↔ live T i := fun i => by
    rw [live_set hlt]
    constructor
    · rintro (⟨_, h⟩ | ⟨rfl, _⟩)
      · exact h
      · exact hlive
    · intro h
      by_cases e : i = id
      · exact .inr ⟨e, fr, cs, rfl⟩
      · exact .inl ⟨e, h⟩
  have hbs : ∀ k, bsize w' k = bsize w k := fun k => by
    unfold bsize
    by_cases e : k = g
    · subst e; rw [hat', h0]; simpa using hs
    · rw [hne k e]
  have hl : Lasts w β (okB w β T w0.heap.size A) T w' β (okB w' β (T.set id (.cells fr cs)) w0.heap.size A) (T.set id (.cells fr cs)) :=
    ⟨fun fr k hk => ⟨⟨by rw [hsz]; exact hk.1, fun i hi => hk.2.1 i ((hiff i).1 hi), hk.2.2⟩, hne k (fun e => hk.2.1 id hlive (e ▸ hg))⟩, fun i hi => gone_set hlive hi,
      fun i hi => .inr ⟨(hiff i).2 hi, rfl, fun _ _ => hbs _⟩⟩
  refine ⟨⟨?_, ?_, ?_, by rw [hsz]; exact h.size, fun k hk hn => ?_, ⟨fun i b hi hb => by rw [hsz]; exact h.wf.bnd i b ((hiff i).1 hi) hb, fun i j b hi hj hb hb' => h.wf.inj i j b ((hiff i).1 hi) ((hiff j).1 hj) hb hb', fun i fr' cs' hc => ?_⟩,
    by rw [List.length_set]; exact h.len, fun i hi => ⟨fun hg => gone_set hlive ((h.old i hi).1 hg), fun hli => ?_⟩, fun i b hi hli hb => h.new i b hi ((hiff i).1 hli) hb⟩, hl⟩
  · subst hw; exact h.os
  · subst hw; exact h.tape
  · subst hw; exact h.output
  · have hk' : k ≠ g := by
      rintro rfl
      rcases Nat.lt_or_ge id T0.length with hlt0 | hge0
      · obtain ⟨h1, h2, _⟩ := (h.old id hlt0).2 hlive
        exact hn id h1 (h2.symm.trans hg)
      · rcases h.new id k hge0 hlive hg with h1 | ⟨j, h1, h2⟩
        · omega
        · exact hn j h1 h2
    exact (hne k hk').trans (h.frame k hk hn)
  · by_cases e : i = id
    · subst e
      rw [List.getElem?_set_self hlt] at hc
      simp only [Option.some.injEq, Ob.cells.injEq] at hc
      obtain ⟨rfl, rfl⟩ := hc
      refine .inr ⟨g, us, sp, t, hg, ?_, hat', RepL.last hl _ _ hr⟩
      rcases h.wf.obj i _ _ hid with ⟨h1, _⟩ | ⟨b, _, _, _, hb, h1, _⟩
      · rw [h1] at hg; cases hg
      · rw [hb] at hg; injection hg with hg; rw [← hg]; exact h1
    · rw [List.getElem?_set_ne (Ne.symm e)] at hc
      rcases h.wf.obj i fr' cs' hc with h1 | ⟨b, us', sp', t', hb, hf, h1, h2⟩
      · exact .inl h1
      · exact .inr ⟨b, us', sp', t', hb, hf, by rw [hne b (fun e' => e (h.wf.inj i id b ⟨fr', cs', hc⟩ hlive hb (by rw [e']; exact hg)))]; exact h1, RepL.last hl _ _ h2⟩
  · obtain ⟨h1, h2, h3⟩ := (h.old i hi).2 ((hiff i).1 hli)
    exact ⟨h1, h2, fun b hb => (hbs _).trans (h3 b hb)⟩
end
end Go.Tl
