/- The tree logic, part N: from a caller's numbers to a callee's and back. -/
import Derived.Test.YtpbgiccloeihcaaTlM
namespace Go.Tl
open Go.RowKit

mutual
/-- Other numbers. -/
def M.mp (g : Nat → Option Nat) : M → M
  | .ref id off => match g id with | some j => .ref j off | none => .any
  | .sr id off len sz => match g id with | some j => .sr j off len sz | none => .any
  | .fn f a b => .fn f (M.mpL g a) (M.mpL g b)
  | .ifc t m => .ifc t (m.mp g)
  | .agg cs => .agg (M.mpL g cs)
  | .tup ms => .tup (M.mpL g ms)
  | .any => .any
  | .v x => .v x
  | .sl fr cells len => .sl fr cells len
  | .ip fr cells off => .ip fr cells off
  | .sx => .sx
def M.mpL (g : Nat → Option Nat) : List M → List M
  | [] => []
  | m :: ms => m.mp g :: M.mpL g ms
end

mutual
/-- All that is immutable in it is new. -/
def frM : M → Bool
  | .sl fr cells _ => fr && frL cells
  | .ip fr cells _ => fr && frL cells
  | .fn _ a b => frL a && frL b
  | .ifc _ m => frM m
  | .agg cs => frL cs
  | .tup ms => frL ms
  | _ => true
def frL : List M → Bool
  | [] => true
  | m :: ms => frM m && frL ms
end

mutual
def unfr : M → M
  | .sl _ cells len => .sl false (unfrL cells) len
  | .ip _ cells off => .ip false (unfrL cells) off
  | .fn f a b => .fn f (unfrL a) (unfrL b)
  | .ifc t m => .ifc t (unfr m)
  | .agg cs => .agg (unfrL cs)
  | .tup ms => .tup (unfrL ms)
  | .any => .any
  | .v x => .v x
  | .ref id off => .ref id off
  | .sr id off len sz => .sr id off len sz
  | .sx => .sx
def unfrL : List M → List M
  | [] => []
  | m :: ms => unfr m :: unfrL ms
end

section
variable {w : World} {β β' : Nat → Option Nat} {ok ok' : Bool → Nat → Prop} {T T' : Tbl}

mutual
theorem Rep.mp {g : Nat → Option Nat} (b : Bool) (h1 : ∀ k, ok true k → ok' true k) (h2 : b = false → ∀ k, ok false k → ok' false k)
    (hg : ∀ i j, g i = some j → (isGone T i → isGone T' j) ∧ (live T i → isGone T' j ∨ (live T' j ∧ β' j = β i))) :
    ∀ (m : M) (x : Value), (b = true → frM m = true) → Rep w β ok T m x → Rep w β' ok' T' (m.mp g) x
  | .any, _, _, _ => by simp [M.mp, Rep]
  | .v y, x, _, hx => by simpa [M.mp, Rep] using hx
  | .sl fr cells len, x, hf, hx => by
    simp only [M.mp, Rep] at hx ⊢
    rcases hx with hx | ⟨a, cap, us, rfl, h3, h4, h5, h6⟩
    · exact .inl hx
    · have hf' : b = true → fr = true ∧ frL cells = true := fun hb => by have := hf hb; simpa [frM] using this
      refine .inr ⟨a, cap, us, rfl, h3, h4, ?_, fun j u hj => ⟨?_, (h6 j u hj).2⟩⟩
      · exact RepL.keep b h1 h2 cells us (fun hb => (hf' hb).2) h5
      · have h7 := (h6 j u hj).1
        cases fr
        · cases b
          · exact h2 rfl _ h7
          · have := (hf' rfl).1; cases this
        · exact h1 _ h7
  | .ip fr cells off, x, hf, hx => by
    simp only [M.mp, Rep] at hx ⊢
    obtain ⟨a, us, rfl, h5, h6⟩ := hx
    have hf' : b = true → fr = true ∧ frL cells = true := fun hb => by have := hf hb; simpa [frM] using this
    refine ⟨a, us, rfl, RepL.keep b h1 h2 cells us (fun hb => (hf' hb).2) h5, fun j u hj => ⟨?_, (h6 j u hj).2⟩⟩
    have h7 := (h6 j u hj).1
    cases fr
    · cases b
      · exact h2 rfl _ h7
      · have := (hf' rfl).1; cases this
    · exact h1 _ h7
  | .ref id off, x, _, hx => by
    simp only [M.mp]
    split
    · rename_i j hj
      simp only [Rep] at hx ⊢
      rcases hx with hx | ⟨hl, b', hb, rfl⟩
      · exact .inl ((hg _ _ hj).1 hx)
      · rcases (hg _ _ hj).2 hl with h | ⟨h, h'⟩
        · exact .inl h
        · exact .inr ⟨h, b', h'.trans hb, rfl⟩
    · simp [Rep]
  | .sr id off len sz, x, _, hx => by
    simp only [M.mp]
    split
    · rename_i j hj
      simp only [Rep] at hx ⊢
      rcases hx with hx | ⟨hl, hx⟩
      · exact .inl ((hg _ _ hj).1 hx)
      · rcases (hg _ _ hj).2 hl with h | ⟨h, h'⟩
        · exact .inl h
        · refine .inr ⟨h, ?_⟩
          rcases hx with ⟨b', cap, n, hb, hx⟩ | hx
          · exact .inl ⟨b', cap, n, h'.trans hb, hx⟩
          · exact .inr hx
    · simp [Rep]
  | .sx, x, _, hx => by simpa [M.mp, Rep] using hx
  | .fn f a c, x, hf, hx => by
    have hf' : b = true → frL a = true ∧ frL c = true := fun hb => by have := hf hb; simpa [frM] using this
    simp only [M.mp, Rep] at hx ⊢
    obtain ⟨us, vs, rfl, h3, h4⟩ := hx
    exact ⟨us, vs, rfl, RepL.mp b h1 h2 hg a us (fun hb => (hf' hb).1) h3, RepL.mp b h1 h2 hg c vs (fun hb => (hf' hb).2) h4⟩
  | .ifc t m, x, hf, hx => by
    simp only [M.mp, Rep] at hx ⊢
    obtain ⟨u, rfl, h3⟩ := hx
    exact ⟨u, rfl, Rep.mp b h1 h2 hg m u (fun hb => by have := hf hb; simpa [frM] using this) h3⟩
  | .agg cs, x, hf, hx => by
    simp only [M.mp, Rep] at hx ⊢
    obtain ⟨us, rfl, h3⟩ := hx
    exact ⟨us, rfl, RepL.mp b h1 h2 hg cs us (fun hb => by have := hf hb; simpa [frM] using this) h3⟩
  | .tup ms, x, hf, hx => by
    simp only [M.mp, Rep] at hx ⊢
    obtain ⟨us, rfl, h3⟩ := hx
    exact ⟨us, rfl, RepL.mp b h1 h2 hg ms us (fun hb => by have := hf hb; simpa [frM] using this) h3⟩
theorem RepL.mp {g : Nat → Option Nat} (b : Bool) (h1 : ∀ k, ok true k → ok' true k) (h2 : b = false → ∀ k, ok false k → ok' false k)
    (hg : ∀ i j, g i = some j → (isGone T i → isGone T' j) ∧ (live T i → isGone T' j ∨ (live T' j ∧ β' j = β i))) :
    ∀ (ms : List M) (us : List Value), (b = true → frL ms = true) → RepL w β ok T ms us → RepL w β' ok' T' (M.mpL g ms) us
  | [], us, _, hx => by simpa [M.mpL, RepL] using hx
  | m :: ms, us, hf, hx => by
    have hf' : b = true → frM m = true ∧ frL ms = true := fun hb => by have := hf hb; simpa [frL] using this
    simp only [M.mpL, RepL] at hx ⊢
    obtain ⟨u, vs, rfl, h3, h4⟩ := hx
    exact ⟨u, vs, rfl, Rep.mp b h1 h2 hg m u (fun hb => (hf' hb).1) h3, RepL.mp b h1 h2 hg ms vs (fun hb => (hf' hb).2) h4⟩
theorem Rep.keep (b : Bool) (h1 : ∀ k, ok true k → ok' true k) (h2 : b = false → ∀ k, ok false k → ok' false k) :
    ∀ (m : M) (x : Value), (b = true → frM m = true) → Rep w β ok [] m x → Rep w β' ok' [] m x
  | .any, _, _, _ => by simp [Rep]
  | .v y, x, _, hx => by simpa [Rep] using hx
  | .sl fr cells len, x, hf, hx => by
    simp only [Rep] at hx ⊢
    rcases hx with hx | ⟨a, cap, us, rfl, h3, h4, h5, h6⟩
    · exact .inl hx
    · have hf' : b = true → fr = true ∧ frL cells = true := fun hb => by have := hf hb; simpa [frM] using this
      refine .inr ⟨a, cap, us, rfl, h3, h4, RepL.keep b h1 h2 cells us (fun hb => (hf' hb).2) h5, fun j u hj => ⟨?_, (h6 j u hj).2⟩⟩
      have h7 := (h6 j u hj).1
      cases fr
      · cases b
        · exact h2 rfl _ h7
        · have := (hf' rfl).1; cases this
      · exact h1 _ h7
  | .ip fr cells off, x, hf, hx => by
    simp only [Rep] at hx ⊢
    obtain ⟨a, us, rfl, h5, h6⟩ := hx
    have hf' : b = true → fr = true ∧ frL cells = true := fun hb => by have := hf hb; simpa [frM] using this
    refine ⟨a, us, rfl, RepL.keep b h1 h2 cells us (fun hb => (hf' hb).2) h5, fun j u hj => ⟨?_, (h6 j u hj).2⟩⟩
    have h7 := (h6 j u hj).1
    cases fr
    · cases b
      · exact h2 rfl _ h7
      · have := (hf' rfl).1; cases this
    · exact h1 _ h7
  | .ref id off, x, _, hx => by
    simp only [Rep] at hx
    rcases hx with hx | ⟨hl, _⟩
    · exact absurd hx (not_gone_nil _)
    · exact absurd hl (not_live_nil _)
  | .sr id off len sz, x, _, hx => by
    simp only [Rep] at hx
    rcases hx with hx | ⟨hl, _⟩
    · exact absurd hx (not_gone_nil _)
    · exact absurd hl (not_live_nil _)
  | .sx, x, _, hx => by simpa [Rep] using hx
  | .fn f a c, x, hf, hx => by
    have hf' : b = true → frL a = true ∧ frL c = true := fun hb => by have := hf hb; simpa [frM] using this
    simp only [Rep] at hx ⊢
    obtain ⟨us, vs, rfl, h3, h4⟩ := hx
    exact ⟨us, vs, rfl, RepL.keep b h1 h2 a us (fun hb => (hf' hb).1) h3, RepL.keep b h1 h2 c vs (fun hb => (hf' hb).2) h4⟩
  | .ifc t m, x, hf, hx => by
    simp only [Rep] at hx ⊢
    obtain ⟨u, rfl, h3⟩ := hx
    exact ⟨u, rfl, Rep.keep b h1 h2 m u (fun hb => by have := hf hb; simpa [frM] using this) h3⟩
  | .agg cs, x, hf, hx => by
    simp only [Rep] at hx ⊢
    obtain ⟨us, rfl, h3⟩ := hx
    exact ⟨us, rfl, RepL.keep b h1 h2 cs us (fun hb => by have := hf hb; simpa [frM] using this) h3⟩
  | .tup ms, x, hf, hx => by
    simp only [Rep] at hx ⊢
    obtain ⟨us, rfl, h3⟩ := hx
    exact ⟨us, rfl, RepL.keep b h1 h2 ms us (fun hb => by have := hf hb; simpa [frM] using this) h3⟩
theorem RepL.keep (b : Bool) (h1 : ∀ k, ok true k → ok' true k) (h2 : b = false → ∀ k, ok false k → ok' false k) :
    ∀ (ms : List M) (us : List Value), (b = true → frL ms = true) → RepL w β ok [] ms us → RepL w β' ok' [] ms us
  | [], us, _, hx => by simpa [RepL] using hx
  | m :: ms, us, hf, hx => by
    have hf' : b = true → frM m = true ∧ frL ms = true := fun hb => by have := hf hb; simpa [frL] using this
    simp only [RepL] at hx ⊢
    obtain ⟨u, vs, rfl, h3, h4⟩ := hx
    exact ⟨u, vs, rfl, Rep.keep b h1 h2 m u (fun hb => (hf' hb).1) h3, RepL.keep b h1 h2 ms vs (fun hb => (hf' hb).2) h4⟩
end
end
end Go.Tl
