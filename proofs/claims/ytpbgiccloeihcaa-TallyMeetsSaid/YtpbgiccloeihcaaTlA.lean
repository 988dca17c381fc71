/- The tree logic, part A: abstract values, what they say of a value in a world, and how that lasts. -/
import Derived.WalkKit
namespace Go.Tl
open Go.RowKit

/-- What is known of a value. -/
inductive M where
  | any
  | v (x : Value)
  | sl (fr : Bool) (cells : List M) (len : Nat)
  | ip (fr : Bool) (cells : List M) (off : Nat)
  | ref (id off : Nat)
  | sr (id off len sz : Nat)
  | sx
  | fn (f : Fn) (first captured : List M)
  | ifc (t : TypeId) (x : M)
  | agg (cells : List M)
  | tup (vs : List M)
  deriving Inhabited

/-- A block of the call's own. -/
inductive Ob where
  | gone
  | cells (fr : Bool) (cs : List M)
  deriving Inhabited

abbrev Tbl := List Ob

def live (T : Tbl) (i : Nat) : Prop := ∃ fr cs, T[i]? = some (.cells fr cs)
def isGone (T : Tbl) (i : Nat) : Prop := T[i]? = some .gone

theorem live_lt {T : Tbl} {i : Nat} (h : live T i) : i < T.length := by
  obtain ⟨fr, cs, h⟩ := h
  exact (List.getElem?_eq_some_iff.1 h).1

theorem gone_lt {T : Tbl} {i : Nat} (h : isGone T i) : i < T.length := (List.getElem?_eq_some_iff.1 h).1

theorem not_live_gone {T : Tbl} {i : Nat} (h : isGone T i) : ¬ live T i := by
  rintro ⟨fr, cs, hc⟩
  rw [isGone] at h
  rw [h] at hc
  cases hc

/-- A block that none of the live ones is; from 'lo' on, if it is said to be new; else new or of the set 'A'. -/
def okB (w : World) (β : Nat → Option Nat) (T : Tbl) (lo : Nat) (A : Nat → Prop) (fr : Bool) (k : Nat) : Prop :=
  k < w.heap.size ∧ (∀ i, live T i → β i ≠ some k) ∧ (fr = true → lo ≤ k) ∧ (A k ∨ lo ≤ k)

/-- How many cells a block has. -/
def bsize (w : World) (k : Nat) : Option Nat :=
  match w.heap[k]? with
  | some (.cells c _ _) => some c.size
  | _ => none

mutual
def Rep (w : World) (β : Nat → Option Nat) (ok : Bool → Nat → Prop) (T : Tbl) : M → Value → Prop
  | .any, _ => True
  | .v y, x => x = y
  | .sl fr cells len, x => (x = .slice none 0 0 ∧ cells = [] ∧ len = 0) ∨
      ∃ (a : Addr) (cap : Nat) (us : List Value), x = .slice (some a) len cap ∧ len ≤ cap ∧ cap ≤ maxLen ∧ RepL w β ok [] cells us ∧
        (∀ (j : Nat) (u : Value), us[j]? = some u → ok fr a.block ∧ w.cell? (a.add j) = some u)
  | .ip fr cells off, x => ∃ (a : Addr) (us : List Value), x = .pointer (some (a.add off)) ∧ RepL w β ok [] cells us ∧
        (∀ (j : Nat) (u : Value), us[j]? = some u → ok fr a.block ∧ w.cell? (a.add j) = some u)
  | .ref id off, x => isGone T id ∨ (live T id ∧ ∃ b, β id = some b ∧ x = .pointer (some ⟨b, off, none⟩))
  | .sr id off len sz, x => isGone T id ∨ (live T id ∧ ((∃ b cap n, β id = some b ∧ x = .slice (some ⟨b, off, none⟩) len cap ∧ len ≤ cap ∧ cap ≤ maxLen ∧ bsize w b = some n ∧ off + cap * sz ≤ n) ∨ (len = 0 ∧ ∃ A, x = .slice A 0 0)))
  | .sx, x => ∃ A, x = .slice A 0 0
  | .fn f first captured, x => ∃ us vs, x = .func f us.toArray vs.toArray ∧ RepL w β ok T first us ∧ RepL w β ok T captured vs
  | .ifc t m, x => ∃ u, x = .iface t u ∧ Rep w β ok T m u
  | .agg cells, x => ∃ us, x = .agg us.toArray ∧ RepL w β ok T cells us
  | .tup ms, x => ∃ us, x = .tuple us.toArray ∧ RepL w β ok T ms us
def RepL (w : World) (β : Nat → Option Nat) (ok : Bool → Nat → Prop) (T : Tbl) : List M → List Value → Prop
  | [], us => us = []
  | m :: ms, us => ∃ u vs, us = u :: vs ∧ Rep w β ok T m u ∧ RepL w β ok T ms vs
end

/-- What must last for all that was known to be known still. -/
structure Lasts (w : World) (β : Nat → Option Nat) (ok : Bool → Nat → Prop) (T : Tbl) (w' : World) (β' : Nat → Option Nat) (ok' : Bool → Nat → Prop) (T' : Tbl) : Prop where
  ok : ∀ fr k, ok fr k → ok' fr k ∧ w'.heap[k]? = w.heap[k]?
  gone : ∀ i, isGone T i → isGone T' i
  live : ∀ i, live T i → isGone T' i ∨ (live T' i ∧ β' i = β i ∧ ∀ b, β i = some b → bsize w' b = bsize w b)

theorem not_gone_nil (i : Nat) : ¬ isGone [] i := by simp [isGone]
theorem not_live_nil (i : Nat) : ¬ live [] i := by simp [live]

theorem Lasts.nil {w : World} {β : Nat → Option Nat} {ok : Bool → Nat → Prop} {T : Tbl} {w' : World} {β' : Nat → Option Nat} {ok' : Bool → Nat → Prop} {T' : Tbl} (h : Lasts w β ok T w' β' ok' T') :
    Lasts w β ok [] w' β' ok' [] := ⟨h.ok, fun i hi => absurd hi (not_gone_nil i), fun i hi => absurd hi (not_live_nil i)⟩

theorem cell?_of_heap {w w' : World} {a : Addr} (h : w'.heap[a.block]? = w.heap[a.block]?) : w'.cell? a = w.cell? a := by
  unfold World.cell?
  rw [h]

theorem add_block (a : Addr) (n : Nat) : (a.add n).block = a.block := by
  unfold Addr.add
  split <;> rfl

mutual
theorem Rep.last {w : World} {β : Nat → Option Nat} {ok : Bool → Nat → Prop} {T : Tbl} {w' : World} {β' : Nat → Option Nat} {ok' : Bool → Nat → Prop} {T' : Tbl} (h : Lasts w β ok T w' β' ok' T') :
    ∀ (m : M) (x : Value), Rep w β ok T m x → Rep w' β' ok' T' m x
  | .any, _, _ => by simp [Rep]
  | .v y, x, hx => by simpa [Rep] using hx
  | .sl fr cells len, x, hx => by
    simp only [Rep] at hx ⊢
    rcases hx with hx | ⟨a, cap, us, rfl, h1, h2, h3, h4⟩
    · exact .inl hx
    · refine .inr ⟨a, cap, us, rfl, h1, h2, RepL.last h.nil cells us h3, fun j u hj => ?_⟩
      obtain ⟨h5, h6⟩ := h4 j u hj
      obtain ⟨h7, h8⟩ := h.ok fr _ h5
      exact ⟨h7, (cell?_of_heap (a := a.add j) (by rw [add_block]; exact h8)).trans h6⟩
  | .ip fr cells off, x, hx => by
    simp only [Rep] at hx ⊢
    obtain ⟨a, us, rfl, h3, h4⟩ := hx
    refine ⟨a, us, rfl, RepL.last h.nil cells us h3, fun j u hj => ?_⟩
    obtain ⟨h5, h6⟩ := h4 j u hj
    obtain ⟨h7, h8⟩ := h.ok fr _ h5
    exact ⟨h7, (cell?_of_heap (a := a.add j) (by rw [add_block]; exact h8)).trans h6⟩
  | .ref id off, x, hx => by
    simp only [Rep] at hx ⊢
    rcases hx with hx | ⟨hl, b, hb0, rfl⟩
    · exact .inl (h.gone _ hx)
    · rcases h.live _ hl with hg | ⟨hl', hb, _⟩
      · exact .inl hg
      · exact .inr ⟨hl', b, hb.trans hb0, rfl⟩
  | .sr id off len sz, x, hx => by
    simp only [Rep] at hx ⊢
    rcases hx with hx | ⟨hl, hx⟩
    · exact .inl (h.gone _ hx)
    · rcases h.live _ hl with hg | ⟨hl', hb, hs⟩
      · exact .inl hg
      · refine .inr ⟨hl', ?_⟩
        rcases hx with ⟨b, cap, n, hb0, rfl, h1, h2, h3, h4⟩ | hx
        · exact .inl ⟨b, cap, n, hb.trans hb0, rfl, h1, h2, (hs b hb0).trans h3, h4⟩
        · exact .inr hx
  | .sx, x, hx => by simpa [Rep] using hx
  | .fn f first captured, x, hx => by
    simp only [Rep] at hx ⊢
    obtain ⟨us, vs, rfl, h1, h2⟩ := hx
    exact ⟨us, vs, rfl, RepL.last h first us h1, RepL.last h captured vs h2⟩
  | .ifc t m, x, hx => by
    simp only [Rep] at hx ⊢
    obtain ⟨u, rfl, h1⟩ := hx
    exact ⟨u, rfl, Rep.last h m u h1⟩
  | .agg cells, x, hx => by
    simp only [Rep] at hx ⊢
    obtain ⟨us, rfl, h1⟩ := hx
    exact ⟨us, rfl, RepL.last h cells us h1⟩
  | .tup ms, x, hx => by
    simp only [Rep] at hx ⊢
    obtain ⟨us, rfl, h1⟩ := hx
    exact ⟨us, rfl, RepL.last h ms us h1⟩
theorem RepL.last {w : World} {β : Nat → Option Nat} {ok : Bool → Nat → Prop} {T : Tbl} {w' : World} {β' : Nat → Option Nat} {ok' : Bool → Nat → Prop} {T' : Tbl} (h : Lasts w β ok T w' β' ok' T') :
    ∀ (ms : List M) (us : List Value), RepL w β ok T ms us → RepL w' β' ok' T' ms us
  | [], us, hx => by simpa [RepL] using hx
  | m :: ms, us, hx => by
    simp only [RepL] at hx ⊢
    obtain ⟨u, vs, rfl, h1, h2⟩ := hx
    exact ⟨u, vs, rfl, Rep.last h m u h1, RepL.last h ms vs h2⟩
end

section lists
variable {w : World} {β : Nat → Option Nat} {ok : Bool → Nat → Prop} {T : Tbl}
theorem RepL.nil : RepL w β ok T [] [] := by simp [RepL]
theorem RepL.cons {m : M} {ms : List M} {u : Value} {us : List Value} (h : Rep w β ok T m u) (hs : RepL w β ok T ms us) : RepL w β ok T (m :: ms) (u :: us) := by
  simp only [RepL]; exact ⟨u, us, rfl, h, hs⟩
theorem RepL.length : ∀ {ms : List M} {us : List Value}, RepL w β ok T ms us → us.length = ms.length
  | [], us, h => by simp only [RepL] at h; simp [h]
  | m :: ms, us, h => by
    simp only [RepL] at h
    obtain ⟨u, vs, rfl, _, h2⟩ := h
    simp [RepL.length h2]
theorem RepL.get : ∀ {ms : List M} {us : List Value}, RepL w β ok T ms us → ∀ {j : Nat} {m : M}, ms[j]? = some m → ∃ u, us[j]? = some u ∧ Rep w β ok T m u
  | [], us, h, j, m, hj => by simp at hj
  | m :: ms, us, h, j, m', hj => by
    simp only [RepL] at h
    obtain ⟨u, vs, rfl, h1, h2⟩ := h
    cases j with
    | zero => simp at hj; subst hj; exact ⟨u, by simp, h1⟩
    | succ j => simp at hj; obtain ⟨u', h3, h4⟩ := RepL.get h2 hj; exact ⟨u', by simpa using h3, h4⟩
theorem RepL.get' : ∀ {ms : List M} {us : List Value}, RepL w β ok T ms us → ∀ {j : Nat} {u : Value}, us[j]? = some u → ∃ m, ms[j]? = some m ∧ Rep w β ok T m u
  | [], us, h, j, m, hj => by simp only [RepL] at h; subst h; simp at hj
  | m :: ms, us, h, j, u', hj => by
    simp only [RepL] at h
    obtain ⟨u, vs, rfl, h1, h2⟩ := h
    cases j with
    | zero => simp at hj; subst hj; exact ⟨m, by simp, h1⟩
    | succ j => simp at hj; obtain ⟨u', h3, h4⟩ := RepL.get' h2 hj; exact ⟨u', by simpa using h3, h4⟩
theorem RepL.of_get : ∀ {ms : List M} {us : List Value}, us.length = ms.length → (∀ (j : Nat) (m : M) (u : Value), ms[j]? = some m → us[j]? = some u → Rep w β ok T m u) → RepL w β ok T ms us
  | [], us, h, _ => by simp at h; subst h; exact .nil
  | m :: ms, [], h, _ => by simp at h
  | m :: ms, u :: us, h, hg => .cons (hg 0 m u rfl rfl) (.of_get (by simpa using h) fun j m' u' h1 h2 => hg (j + 1) m' u' (by simpa using h1) (by simpa using h2))
theorem RepL.append {ms ns : List M} {us vs : List Value} (h : RepL w β ok T ms us) (h' : RepL w β ok T ns vs) : RepL w β ok T (ms ++ ns) (us ++ vs) := by
  induction ms generalizing us with
  | nil => simp only [RepL] at h; subst h; simpa using h'
  | cons m ms ih =>
    simp only [RepL] at h
    obtain ⟨u, us, rfl, h1, h2⟩ := h
    exact .cons h1 (ih h2)
theorem RepL.drop {ms : List M} {us : List Value} (h : RepL w β ok T ms us) (k : Nat) : RepL w β ok T (ms.drop k) (us.drop k) := by
  induction ms generalizing us k with
  | nil => simp only [RepL] at h; subst h; simpa using RepL.nil
  | cons m ms ih =>
    cases k with
    | zero => simpa using h
    | succ k =>
      simp only [RepL] at h
      obtain ⟨u, us, rfl, h1, h2⟩ := h
      simpa using ih h2 k
theorem RepL.take {ms : List M} {us : List Value} (h : RepL w β ok T ms us) (k : Nat) : RepL w β ok T (ms.take k) (us.take k) := by
  induction ms generalizing us k with
  | nil => simp only [RepL] at h; subst h; simpa using RepL.nil
  | cons m ms ih =>
    cases k with
    | zero => simpa using RepL.nil
    | succ k =>
      simp only [RepL] at h
      obtain ⟨u, us, rfl, h1, h2⟩ := h
      simpa using RepL.cons h1 (ih h2 k)
theorem RepL.set {ms : List M} {us : List Value} (h : RepL w β ok T ms us) (k : Nat) {m : M} {u : Value} (hm : Rep w β ok T m u) : RepL w β ok T (ms.set k m) (us.set k u) := by
  induction ms generalizing us k with
  | nil => simp only [RepL] at h; subst h; simpa using RepL.nil
  | cons m' ms ih =>
    simp only [RepL] at h
    obtain ⟨u', us, rfl, h1, h2⟩ := h
    cases k with
    | zero => simpa using RepL.cons hm h2
    | succ k => simpa using RepL.cons h1 (ih h2 k)
theorem RepL.of_v : ∀ (us : List Value), RepL w β ok T (us.map .v) us
  | [] => .nil
  | u :: us => .cons (by simp [Rep]) (RepL.of_v us)
end lists

/-- All that is known of the call's own blocks holds. -/
structure WF (w : World) (β : Nat → Option Nat) (T : Tbl) (lo : Nat) (A : Nat → Prop) : Prop where
  bnd : ∀ i b, live T i → β i = some b → b < w.heap.size
  inj : ∀ i j b, live T i → live T j → β i = some b → β j = some b → i = j
  obj : ∀ i fr cs, T[i]? = some (.cells fr cs) → (β i = none ∧ cs = []) ∨
    ∃ (b : Nat) (us sp : List Value) (t : TypeId), β i = some b ∧ (fr = true → lo ≤ b) ∧ w.heap[b]? = some (.cells (us ++ sp).toArray t (0, 0)) ∧ RepL w β (okB w β T lo A) T cs us

/-- Where a call stands that began in 'w0' with the blocks 'T0'. -/
structure Post (A : Nat → Prop) (w0 : World) (β0 : Nat → Option Nat) (T0 : Tbl) (w : World) (β : Nat → Option Nat) (T : Tbl) : Prop where
  os : w.os = w0.os
  tape : w.tape = w0.tape
  output : w.output = w0.output
  size : w0.heap.size ≤ w.heap.size
  frame : ∀ k, k < w0.heap.size → (∀ i, live T0 i → β0 i ≠ some k) → w.heap[k]? = w0.heap[k]?
  wf : WF w β T w0.heap.size A
  len : T0.length ≤ T.length
  old : ∀ i, i < T0.length → (isGone T0 i → isGone T i) ∧ (live T i → live T0 i ∧ β i = β0 i ∧ ∀ b, β i = some b → bsize w b = bsize w0 b)
  new : ∀ i b, T0.length ≤ i → live T i → β i = some b → w0.heap.size ≤ b ∨ ∃ j, live T0 j ∧ β0 j = some b

abbrev Env := Nat → M

/-- The state of a walk in a call. -/
def Sat (A : Nat → Prop) (w0 : World) (β0 : Nat → Option Nat) (T0 : Tbl) (n : Nat) (env : Env) (T : Tbl) (a : Act) (w : World) : Prop :=
  a.defers = [] ∧ a.tmps.size = n ∧ ∃ β, Post A w0 β0 T0 w β T ∧ ∀ k, Rep w β (okB w β T w0.heap.size A) T (env k) (a.tmps.getD k undef)

def upd (n : Nat) (env : Env) (d : Nat) (m : M) : Env := fun k => if d < n ∧ k = d then m else env k

def updO (n : Nat) (env : Env) : Option Nat → M → Env
  | some d, m => upd n env d m
  | none, _ => env

theorem upd_get (n : Nat) (env : Env) (d : Nat) (m : M) (k : Nat) : upd n env d m k = if d < n ∧ k = d then m else env k := rfl
end Go.Tl
