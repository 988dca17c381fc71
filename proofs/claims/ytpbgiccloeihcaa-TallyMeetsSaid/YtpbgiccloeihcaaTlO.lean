/- The tree logic, part O: a call. -/
import Derived.Test.YtpbgiccloeihcaaTlN
namespace Go.Tl
open Go.RowKit

mutual
theorem unfr_ok {w : World} {β β' : Nat → Option Nat} {ok ok' : Bool → Nat → Prop} (h : ∀ fr k, ok fr k → ok' false k) : ∀ (m : M) (x : Value), Rep w β ok [] m x → Rep w β' ok' [] (unfr m) x
  | .any, _, _ => by simp [unfr, Rep]
  | .v y, x, hx => by simpa [unfr, Rep] using hx
  | .sl fr cells len, x, hx => by
    simp only [unfr, Rep] at hx ⊢
    rcases hx with ⟨h1, h2, h3⟩ | ⟨a, cap, us, rfl, h3, h4, h5, h6⟩
    · subst h2; exact .inl ⟨h1, by simp [unfrL], h3⟩
    · exact .inr ⟨a, cap, us, rfl, h3, h4, unfrL_ok h cells us h5, fun j u hj => ⟨h _ _ (h6 j u hj).1, (h6 j u hj).2⟩⟩
  | .ip fr cells off, x, hx => by
    simp only [unfr, Rep] at hx ⊢
    obtain ⟨a, us, rfl, h5, h6⟩ := hx
    exact ⟨a, us, rfl, unfrL_ok h cells us h5, fun j u hj => ⟨h _ _ (h6 j u hj).1, (h6 j u hj).2⟩⟩
  | .ref id off, x, hx => by
    simp only [Rep] at hx
    rcases hx with hx | ⟨hl, _⟩
    · exact absurd hx (not_gone_nil _)
    · exact absurd hl (not_live_nil _)
  | .sr id off len sz, x, hx => by
    simp only [Rep] at hx
    rcases hx with hx | ⟨hl, _⟩
    · exact absurd hx (not_gone_nil _)
    · exact absurd hl (not_live_nil _)
  | .sx, x, hx => by simpa [unfr, Rep] using hx
  | .fn f a c, x, hx => by
    simp only [unfr, Rep] at hx ⊢
    obtain ⟨us, vs, rfl, h3, h4⟩ := hx
    exact ⟨us, vs, rfl, unfrL_ok h a us h3, unfrL_ok h c vs h4⟩
  | .ifc t m, x, hx => by
    simp only [unfr, Rep] at hx ⊢
    obtain ⟨u, rfl, h3⟩ := hx
    exact ⟨u, rfl, unfr_ok h m u h3⟩
  | .agg cs, x, hx => by
    simp only [unfr, Rep] at hx ⊢
    obtain ⟨us, rfl, h3⟩ := hx
    exact ⟨us, rfl, unfrL_ok h cs us h3⟩
  | .tup ms, x, hx => by
    simp only [unfr, Rep] at hx ⊢
    obtain ⟨us, rfl, h3⟩ := hx
    exact ⟨us, rfl, unfrL_ok h ms us h3⟩
theorem unfrL_ok {w : World} {β β' : Nat → Option Nat} {ok ok' : Bool → Nat → Prop} (h : ∀ fr k, ok fr k → ok' false k) : ∀ (ms : List M) (us : List Value), RepL w β ok [] ms us → RepL w β' ok' [] (unfrL ms) us
  | [], us, hx => by simpa [unfrL, RepL] using hx
  | m :: ms, us, hx => by
    simp only [unfrL, RepL] at hx ⊢
    obtain ⟨u, vs, rfl, h3, h4⟩ := hx
    exact ⟨u, vs, rfl, unfr_ok h m u h3, unfrL_ok h ms vs h4⟩
end

/-- What a callee may know of a caller's value: 'ρ': the caller's numbers of the blocks that are handed over; 'al': the blocks that aren't stay hidden; 'top': not inside what is read. -/
def rs (al : Bool) (T : Tbl) (ρ : List Nat) : Nat → Bool → M → M
  | 0, _, _ => .any
  | d + 1, top, m => match m with
    | .any => .any
    | .v x => .v x
    | .sx => .sx
    | .sl _ cells len => .sl false (unfrL cells) len
    | .ip _ cells off => .ip false (unfrL cells) off
    | .ref id off => (match ρ.idxOf? id with
      | some j => if top = true then .ref j off else .any
      | none => if al = true then .any else match T[id]? with
        | some (.cells _ cs) => .ip false (cs.map (rs al T ρ d false)) off
        | _ => .any)
    | .sr id off len sz => (match ρ.idxOf? id with
      | some j => if top = true then .sr j off len sz else .any
      | none => if al = true then .any else match T[id]? with
        | some (.cells _ cs) => if off + len * sz ≤ cs.length then .sl false (((cs.drop off).take (len * sz)).map (rs al T ρ d false)) len else .any
        | _ => .any)
    | .fn f a b => .fn f (a.map (rs al T ρ d top)) (b.map (rs al T ρ d top))
    | .ifc t m => .ifc t (rs al T ρ d top m)
    | .agg cs => .agg (cs.map (rs al T ρ d top))
    | .tup ms => .tup (ms.map (rs al T ρ d top))

section
variable {A : Nat → Prop} {w0 w : World} {β0 β : Nat → Option Nat} {T0 T : Tbl} {ok' : Bool → Nat → Prop}

theorem RepL.map_of {β' : Nat → Option Nat} {T' : Tbl} {F : M → M} (h : ∀ m x, RepS A w0 w β T m x → Rep w β' ok' T' (F m) x) : ∀ (ms : List M) (us : List Value), RepSL A w0 w β T ms us → RepL w β' ok' T' (ms.map F) us
  | [], us, hx => by simpa [RepSL, RepL] using hx
  | m :: ms, us, hx => by
    simp only [RepSL, RepL, List.map_cons] at hx ⊢
    obtain ⟨u, vs, rfl, h1, h2⟩ := hx
    exact ⟨u, vs, rfl, h m u h1, RepL.map_of h ms vs h2⟩

theorem idxOf?_some {ρ : List Nat} {id j : Nat} (h : ρ.idxOf? id = some j) : ρ[j]? = some id := by
  induction ρ generalizing j with
  | nil => simp at h
  | cons a ρ ih =>
    rw [List.idxOf?_cons] at h
    split at h
    · rename_i e
      simp only [Option.some.injEq] at h
      subst h
      simpa using e
    · simp only [Option.map_eq_some_iff] at h
      obtain ⟨j', h1, rfl⟩ := h
      simpa using ih h1

theorem idxOf?_none {ρ : List Nat} {id : Nat} (h : ρ.idxOf? id = none) : id ∉ ρ := by
  induction ρ with
  | nil => simp
  | cons a ρ ih =>
    rw [List.idxOf?_cons] at h
    split at h
    · cases h
    · rename_i e
      simp only [Option.map_eq_none_iff] at h
      simp only [List.mem_cons, not_or]
      exact ⟨fun e' => e (by simp [e']), ih h⟩

theorem rs_ok {al : Bool} {ρ : List Nat} {β1 : Nat → Option Nat} {Tc : Tbl} (hP : Post A w0 β0 T0 w β T)
    (hok : ∀ fr k, okB w β T w0.heap.size A fr k → ok' false k) (hok2 : al = false → ∀ id g, id ∉ ρ → live T id → β id = some g → ok' false g)
    (hρ : ∀ (j id : Nat), ρ[j]? = some id → β1 j = β id ∧ (isGone T id → isGone Tc j) ∧ (live T id → live Tc j)) :
    ∀ (d : Nat) (top : Bool) (Tx : Tbl) (m : M) (x : Value), (Tx = if top = true then Tc else []) → RepS A w0 w β T m x → Rep w β1 ok' Tx (rs al T ρ d top m) x := by
  intro d
  induction d with
  | zero => intro top Tx m x _ _; simp [rs, Rep]
  | succ d ih =>
    intro top Tx m x hTx hr
    cases m <;> simp only [rs]
    case any => simp [Rep]
    case v y => simpa [RepS, Rep] using hr
    case sx => simpa [RepS, Rep] using hr
    case sl fr cells len =>
      simp only [RepS, Rep] at hr ⊢
      rcases hr with ⟨h1, h2, h3⟩ | ⟨a, cap, us, rfl, h3, h4, h5, h6⟩
      · subst h2; exact .inl ⟨h1, by simp [unfrL], h3⟩
      · exact .inr ⟨a, cap, us, rfl, h3, h4, unfrL_ok hok cells us h5, fun j u hj => ⟨hok _ _ (h6 j u hj).1, (h6 j u hj).2⟩⟩
    case ip fr cells off =>
      simp only [RepS, Rep] at hr ⊢
      obtain ⟨a, us, rfl, h5, h6⟩ := hr
      exact ⟨a, us, rfl, unfrL_ok hok cells us h5, fun j u hj => ⟨hok _ _ (h6 j u hj).1, (h6 j u hj).2⟩⟩
    case ref id off =>
      split
      · rename_i j hj
        split
        · rename_i ht
          subst ht
          simp only [if_true] at hTx
          subst hTx
          obtain ⟨h1, h2, h3⟩ := hρ j id (idxOf?_some hj)
          simp only [RepS, Rep] at hr ⊢
          rcases hr with hr | ⟨hl, b, hb, rfl⟩
          · exact .inl (h2 hr)
          · exact .inr ⟨h3 hl, b, h1.trans hb, rfl⟩
        · simp [Rep]
      · rename_i hj
        split
        · simp [Rep]
        · rename_i hal
          split
          · rename_i fr cs hT
            simp only [RepS, Rep] at hr ⊢
            rcases hr with hr | ⟨hl, b, hb, rfl⟩
            · unfold isGone at hr; rw [hT] at hr; cases hr
            · rcases hP.wf.obj _ _ _ hT with ⟨h2, _⟩ | ⟨b', us, sp, t, hb', _, h3, h4⟩
              · rw [h2] at hb; cases hb
              obtain rfl : b' = b := by rw [hb'] at hb; injection hb
              refine ⟨⟨b', 0, none⟩, us, by rw [addr_mk_add, Nat.zero_add], RepL.map_of (fun m x h => ih false [] m x (by simp) h) cs us h4, fun j u hu => ⟨hok2 (by simpa using hal) id b' (idxOf?_none hj) hl hb, ?_⟩⟩
              rw [addr_mk_add, Nat.zero_add, cell_of_row w _ _ _ _ _ h3, List.getElem?_toArray, List.getElem?_append_left (List.getElem?_eq_some_iff.1 hu).1]
              exact hu
          · simp [Rep]
    case sr id off len sz =>
      split
      · rename_i j hj
        split
        · rename_i ht
          subst ht
          simp only [if_true] at hTx
          subst hTx
          obtain ⟨h1, h2, h3⟩ := hρ j id (idxOf?_some hj)
          simp only [RepS, Rep] at hr ⊢
          rcases hr with hr | ⟨hl, hr⟩
          · exact .inl (h2 hr)
          · refine .inr ⟨h3 hl, ?_⟩
            rcases hr with ⟨b, cap, n, hb, hr⟩ | hr
            · exact .inl ⟨b, cap, n, h1.trans hb, hr⟩
            · exact .inr hr
        · simp [Rep]
      · rename_i hj
        split
        · simp [Rep]
        · rename_i hal
          split
          · rename_i fr cs hT
            split
            · rename_i hle
              simp only [RepS, Rep] at hr ⊢
              rcases hr with hr | ⟨hl, ⟨b, cap, n, hb, rfl, h5, h6, h7, h8⟩ | ⟨rfl, G, rfl⟩⟩
              · unfold isGone at hr; rw [hT] at hr; cases hr
              · rcases hP.wf.obj _ _ _ hT with ⟨h2, _⟩ | ⟨b', us, sp, t, hb', _, h3, h4⟩
                · rw [h2] at hb; cases hb
                obtain rfl : b' = b := by rw [hb'] at hb; injection hb
                refine .inr ⟨⟨b', off, none⟩, cap, (us.drop off).take (len * sz), rfl, h5, h6, RepL.map_of (fun m x h => ih false [] m x (by simp) h) _ _ ((RepL.drop h4 off).take _), fun j u hu => ⟨hok2 (by simpa using hal) id b' (idxOf?_none hj) hl hb, ?_⟩⟩
                rw [List.getElem?_take] at hu
                split at hu
                · rw [List.getElem?_drop] at hu
                  rw [addr_mk_add, cell_of_row w _ _ _ _ _ h3, List.getElem?_toArray, List.getElem?_append_left (List.getElem?_eq_some_iff.1 hu).1]
                  exact hu
                · cases hu
              · simp only [Nat.zero_mul, List.take_zero, List.map_nil]
                cases G with
                | none => exact .inl ⟨rfl, trivial, trivial⟩
                | some a => exact .inr ⟨a, 0, [], rfl, Nat.le_refl _, by unfold maxLen; omega, RepL.nil, fun j u hu => by simp at hu⟩
            · simp [Rep]
          · simp [Rep]
    case fn f a b =>
      simp only [RepS, Rep] at hr ⊢
      obtain ⟨us, vs, rfl, h3, h4⟩ := hr
      exact ⟨us, vs, rfl, RepL.map_of (fun m x h => ih top Tx m x hTx h) a us h3, RepL.map_of (fun m x h => ih top Tx m x hTx h) b vs h4⟩
    case ifc t m =>
      simp only [RepS, Rep] at hr ⊢
      obtain ⟨u, rfl, h3⟩ := hr
      exact ⟨u, rfl, ih top Tx m u hTx h3⟩
    case agg cs =>
      simp only [RepS, Rep] at hr ⊢
      obtain ⟨us, rfl, h3⟩ := hr
      exact ⟨us, rfl, RepL.map_of (fun m x h => ih top Tx m x hTx h) cs us h3⟩
    case tup ms =>
      simp only [RepS, Rep] at hr ⊢
      obtain ⟨us, rfl, h3⟩ := hr
      exact ⟨us, rfl, RepL.map_of (fun m x h => ih top Tx m x hTx h) ms us h3⟩
end
end Go.Tl
