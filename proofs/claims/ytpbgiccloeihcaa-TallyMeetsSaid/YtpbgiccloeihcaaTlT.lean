/- The tree logic, part T: ghost steps: keep some blocks under other numbers; let a finished block be a tree; take a nil slice for an empty one of the call's own. -/
import Derived.Test.YtpbgiccloeihcaaTlQ
namespace Go.Tl
open Go.RowKit

/-- An environment by its known slots. -/
def envL : List (Nat × M) → Env
  | [], _ => .any
  | (a, m) :: l, k => if k = a then m else envL l k

section
variable {n0 : Nat} {env env' : Env} {T T' : Tbl}

theorem leM_any (m : M) : leM m .any := by cases m <;> simp [leM]

theorem Gh.envL {l : List (Nat × M)} (h : ∀ p ∈ l, leM (env p.1) p.2) : Gh n0 env T (Tl.envL l) T := by
  refine Gh.weak fun k => ?_
  induction l with
  | nil => exact leM_any _
  | cons p l ih =>
    obtain ⟨a, m⟩ := p
    simp only [Tl.envL]
    split
    · rename_i e
      subst e
      exact h (k, m) (List.mem_cons_self ..)
    · exact ih fun p hp => h p (List.mem_cons_of_mem _ hp)

/-! ### Keep these blocks, in this order. -/

theorem nodup_inj : ∀ {l : List Nat}, l.Nodup → ∀ {i j k : Nat}, l[i]? = some k → l[j]? = some k → i = j
  | [], _, i, _, _, h, _ => by simp at h
  | a :: l, hn, i, j, k, h, h' => by
    simp only [List.nodup_cons] at hn
    cases i <;> cases j
    · rfl
    · simp only [List.getElem?_cons_zero, Option.some.injEq] at h
      simp only [List.getElem?_cons_succ] at h'
      exact absurd (List.mem_of_getElem? h') (h ▸ hn.1)
    · simp only [List.getElem?_cons_zero, Option.some.injEq] at h'
      simp only [List.getElem?_cons_succ] at h
      exact absurd (List.mem_of_getElem? h) (h' ▸ hn.1)
    · simp only [List.getElem?_cons_succ] at h h'
      rw [nodup_inj hn.2 h h']

def keepG (src : List Nat) (i : Nat) : Option Nat := src.idxOf? i

theorem keepG_some {src : List Nat} {i j : Nat} (h : keepG src i = some j) : src[j]? = some i := idxOf?_some h

theorem keepG_of {src : List Nat} (hnd : src.Nodup) {i j : Nat} (h : src[j]? = some i) : keepG src i = some j := by
  cases e : keepG src i with
  | none => exact absurd (List.mem_of_getElem? h) (idxOf?_none e)
  | some j' =>
    rw [nodup_inj hnd (keepG_some e) h]

theorem Gh.keep (src : List Nat) (hnd : src.Nodup) (hlt : ∀ i ∈ src, i < T.length) (h0 : src.take n0 = List.range n0) :
    Gh n0 env T (fun k => (env k).mp (keepG src)) (src.map fun i => obMp (keepG src) (T.getD i .gone)) := by
  intro A w0 β0 T0 w β vals hn hP hE
  have hsl : n0 ≤ src.length := by
    have := congrArg List.length h0
    simp at this
    omega
  have hold : ∀ i, i < n0 → src[i]? = some i := fun i hi => by
    have := congrArg (·[i]?) h0
    simp only [List.getElem?_take, List.getElem?_range, hi] at this
    simpa using this
  let T1 : Tbl := src.map fun i => obMp (keepG src) (T.getD i .gone)
  let β1 : Nat → Option Nat := fun j => (src[j]?).bind β
  have hT1 : ∀ {j i : Nat}, src[j]? = some i → T1[j]? = some (obMp (keepG src) (T.getD i .gone)) := fun {j i} h => by simp [T1, h]
  have hTi : ∀ {i : Nat}, i ∈ src → T[i]? = some (T.getD i .gone) := fun {i} h => by
    have := hlt i h
    simp [List.getD, List.getElem?_eq_getElem this]
  have hβ1 : ∀ {j i : Nat}, src[j]? = some i → β1 j = β i := fun {j i} h => by simp [β1, h]
  have hlive : ∀ {j i : Nat}, src[j]? = some i → (live T i ↔ live T1 j) := fun {j i} h => by
    unfold live
    rw [hT1 h, hTi (List.mem_of_getElem? h)]
    cases T.getD i .gone <;> simp [obMp]
  have hgone : ∀ {j i : Nat}, src[j]? = some i → (isGone T i ↔ isGone T1 j) := fun {j i} h => by
    unfold isGone
    rw [hT1 h, hTi (List.mem_of_getElem? h)]
    cases T.getD i .gone <;> simp [obMp]
  have hsrc : ∀ {j : Nat}, live T1 j → ∃ i, src[j]? = some i ∧ live T i ∧ β1 j = β i := fun {j} hj => by
    have hj' : j < src.length := by have := live_lt hj; simpa [T1] using this
    have : src[j]? = some src[j] := List.getElem?_eq_getElem hj'
    exact ⟨_, this, (hlive this).2 hj, hβ1 this⟩
  have hok : ∀ fr k, okB w β T w0.heap.size A fr k → okB w β1 T1 w0.heap.size A fr k := fun fr k hk => by
    refine ⟨hk.1, fun j hj hb => ?_, hk.2.2⟩
    obtain ⟨i, _, h2, h3⟩ := hsrc hj
    rw [h3] at hb
    exact hk.2.1 i h2 hb
  have hg : ∀ i j, keepG src i = some j → (isGone T i → isGone T1 j) ∧ (live T i → isGone T1 j ∨ (live T1 j ∧ β1 j = β i)) := fun i j h => by
    have h' := keepG_some h
    exact ⟨fun hh => (hgone h').1 hh, fun hh => .inr ⟨(hlive h').1 hh, hβ1 h'⟩⟩
  have hrep : ∀ m x, RepS A w0 w β T m x → RepS A w0 w β1 T1 (m.mp (keepG src)) x := fun m x h => Rep.mp false (hok true) (fun _ => hok false) hg m x (fun h => by cases h) h
  refine ⟨β1, ⟨hP.os, hP.tape, hP.output, hP.size, hP.frame, ⟨fun j b hj hb => ?_, fun i j b hi hj hb hb' => ?_, fun j fr cs hc => ?_⟩, ?_, fun i hi => ⟨fun hgi => ?_, fun hli => ?_⟩, fun j b hj hl hb => ?_⟩, fun k => hrep _ _ (hE k)⟩
  · obtain ⟨i, _, h2, h3⟩ := hsrc hj
    exact hP.wf.bnd i b h2 (h3 ▸ hb)
  · obtain ⟨i', h1, h2, h3⟩ := hsrc hi
    obtain ⟨j', h4, h5, h6⟩ := hsrc hj
    have e := hP.wf.inj i' j' b h2 h5 (h3 ▸ hb) (h6 ▸ hb')
    subst e
    exact nodup_inj hnd h1 h4
  · have hlj : live T1 j := ⟨fr, cs, hc⟩
    obtain ⟨i, h1, h2, h3⟩ := hsrc hlj
    rw [hT1 h1] at hc
    cases hd : T.getD i .gone with
    | gone => rw [hd] at hc; simp [obMp] at hc
    | cells fr' cs' =>
      rw [hd] at hc
      simp only [obMp, Option.some.injEq, Ob.cells.injEq] at hc
      obtain ⟨rfl, rfl⟩ := hc
      have hti := hTi (List.mem_of_getElem? h1)
      rw [hd] at hti
      rcases hP.wf.obj i fr' cs' hti with ⟨h4, rfl⟩ | ⟨b, us, sp, t, h4, h5, h6, h7⟩
      · exact .inl ⟨h3.trans h4, rfl⟩
      · exact .inr ⟨b, us, sp, t, h3.trans h4, h5, h6, RepL.mp false (hok true) (fun _ => hok false) hg _ _ (fun h => by cases h) h7⟩
  · rw [List.length_map]; omega
  · exact (hgone (hold i (by omega))).1 ((hP.old i hi).1 hgi)
  · have hs := hold i (by omega)
    obtain ⟨h1, h2, h3⟩ := (hP.old i hi).2 ((hlive hs).2 hli)
    exact ⟨h1, (hβ1 hs).trans h2, fun b hb => h3 b ((hβ1 hs).symm.trans hb)⟩
  · obtain ⟨i, h1, h2, h3⟩ := hsrc hl
    refine hP.new i b ?_ h2 (h3 ▸ hb)
    rcases Nat.lt_or_ge i T0.length with hlt' | hge
    · have hs := hold i (by omega)
      have := nodup_inj hnd h1 (hold i (by omega))
      omega
    · exact hge

/-! ### A nil slice is an empty one of the call's own. -/

theorem Gh.own (d sz : Nat) (h : env d = .v (.slice none 0 0)) : Gh n0 env T (fun k => if k = d then .sr T.length 0 0 sz else env k) (T ++ [.cells true []]) := by
  intro A w0 β0 T0 w β vals hn hP hE
  obtain ⟨h1, h2⟩ := hP.phantom true
  refine ⟨_, h1, fun k => ?_⟩
  dsimp only
  split
  · rename_i e
    subst e
    have := hE k
    rw [h] at this
    simp only [RepS, Rep] at this ⊢
    exact .inr ⟨live_append.2 (.inr ⟨rfl, true, [], rfl⟩), .inr ⟨trivial, none, this⟩⟩
  · exact Rep.last h2 _ _ (hE k)
end
end Go.Tl
