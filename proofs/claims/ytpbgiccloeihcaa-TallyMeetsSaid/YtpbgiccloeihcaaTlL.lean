/- The tree logic, part L: a plan serves every order. -/
import Derived.Test.YtpbgiccloeihcaaTlK
namespace Go.Tl
open Go.RowKit

section
variable {P : Program} {q : Bool} {A : Nat → Prop} {w0 : World} {β0 : Nat → Option Nat} {T0 : Tbl}

theorem guard_elim {ops : Array Oper} {o : Oper} {env : Env} {a : Act} {w : World} {β : Nat → Option Nat} {T : Tbl} {yes no : Prop} (hE : EnvR A w0 w β T env a) (h : guardM ops o env yes no) :
    (Region.wanted o (yielded ops a.tmps) = true ∧ yes) ∨ (Region.wanted o (yielded ops a.tmps) = false ∧ no) := by
  unfold guardM at h
  split at h
  · rename_i hg
    exact .inl ⟨by simp [Region.wanted, hg], h⟩
  · rename_i j want hg
    split at h
    · rename_i t ht
      split at h
      · rename_i b hb
        have hv := hE t
        rw [hb] at hv
        simp only [RepS, Rep] at hv
        have htn : t < a.tmps.size := by
          rcases Nat.lt_or_ge t a.tmps.size with hlt | hge
          · exact hlt
          · simp [Array.getElem?_eq_none hge, undef] at hv
        have hv' : a.tmps[t]? = some (.bool b) := by
          simp [htn] at hv
          rw [Array.getElem?_eq_getElem htn, hv]
        have hy : yielded ops a.tmps j = some b := by simp [yielded, ht, hv']
        have hw : Region.wanted o (yielded ops a.tmps) = (some b == some want) := by simp [Region.wanted, hg, hy]
        rw [hw]
        split at h
        · rename_i e; subst e; exact .inl ⟨by simp, h⟩
        · rename_i e; exact .inr ⟨by simp; exact e, h⟩
      · exact h.elim
    · exact h.elim

/-- What stands fast while a region is walked. -/
def Fast (q : Bool) (w1 : World) (N : Nat) (w : World) (β : Nat → Option Nat) (T : Tbl) : Prop :=
  q = true → (∀ k, k < w1.heap.size → w.heap[k]? = w1.heap[k]?) ∧ w1.heap.size ≤ w.heap.size ∧ N ≤ T.length ∧ ∀ id, id < N → live T id → ∀ g, β id = some g → g < w1.heap.size

theorem Fast.step {w1 w w' : World} {N : Nat} {β β' : Nat → Option Nat} {T T' : Tbl} (h : Fast q w1 N w β T) (hl : Lasts w β (okB w β T w0.heap.size A) T w' β' (okB w' β' T' w0.heap.size A) T')
    (hold : q = true → ∀ k, k < w.heap.size → w'.heap[k]? = w.heap[k]?) : Fast q w1 N w' β' T' := by
  intro hq
  obtain ⟨h1, h2, h3, h4⟩ := h hq
  have hold' := hold hq
  have all : ∀ {T : Tbl} {i : Nat}, i < T.length → isGone T i ∨ live T i := fun {T i} hi => by
    cases e : T[i] with
    | gone => exact .inl (by unfold isGone; rw [List.getElem?_eq_getElem hi, e])
    | cells fr cs => exact .inr ⟨fr, cs, by rw [List.getElem?_eq_getElem hi, e]⟩
  refine ⟨fun k hk => (hold' k (by omega)).trans (h1 k hk), ?_, ?_, fun id hid hli g hg => ?_⟩
  · rcases Nat.lt_or_ge w'.heap.size w1.heap.size with hlt | hge
    · have e := hold' w'.heap.size (by omega)
      rw [Array.getElem?_eq_none (Nat.le_refl _)] at e
      have : w.heap[w'.heap.size]? ≠ none := by rw [Array.getElem?_eq_getElem (by omega)]; simp
      exact absurd e.symm this
    · exact hge
  · rcases Nat.eq_zero_or_pos N with rfl | hN
    · omega
    · rcases all (T := T) (i := N - 1) (by omega) with hg | hg
      · have := gone_lt (hl.gone _ hg); omega
      · rcases hl.live _ hg with hg' | ⟨hg', _⟩
        · have := gone_lt hg'; omega
        · have := live_lt hg'; omega
  · rcases all (T := T) (i := id) (by omega) with hg' | hg'
    · exact absurd hli (not_live_gone (hl.gone _ hg'))
    · rcases hl.live _ hg' with hgg | ⟨_, hb, _⟩
      · exact absurd hli (not_live_gone hgg)
      · exact h4 id hid hg' g (hb ▸ hg)

variable {n : Nat} {ops : Array Oper} {K : Env → Tbl → Prop} {R : Act → World → Prop} {w1 : World} {N : Nat}

mutual
theorem wpP_ok (hsel : Region.noSelect ops = true) (hR : ∀ env T a w β, K env T → SatB A w0 β0 T0 n env T a w β → R a w) :
    ∀ (p : Plan) (fuel : Nat) (listed : Array Bool) (env : Env) (T : Tbl) (a : Act) (w : World) (β : Nat → Option Nat), planOk ops q fuel p listed = true → SatB A w0 β0 T0 n env T a w β → Fast q w1 N w β T →
      wpP P n ops q N K p env T → wpAnyH P .any ops (fun e a w => e = .normal ∧ R a w) (fun w' => q = true → ∀ k, k < w1.heap.size → w'.heap[k]? = w1.heap[k]?) fuel listed a w
  | .done, fuel, listed, env, T, a, w, β, hok, hS, hF, h => by
    have hr : Region.ready .any ops listed = [] := by cases fuel <;> simpa [planOk] using hok
    exact wpAnyH_done hr ⟨rfl, hR env T a w β (by simpa [wpP] using h) hS⟩ fuel
  | .tk i p, 0, listed, env, T, a, w, β, hok, hS, hF, h => by simp [planOk] at hok
  | .tk i p, fuel + 1, listed, env, T, a, w, β, hok, hS, hF, h => by
    simp only [planOk, Bool.and_eq_true] at hok
    obtain ⟨⟨⟨hkind, hfree⟩, hready⟩, hok⟩ := hok
    simp only [wpP] at h
    cases hi : ops[i]? with
    | none => rw [hi] at hkind; cases hkind
    | some o =>
      rw [hi] at h hkind
      simp only at h hkind
      have hQ : ∀ c (a' : Act) w, (fun (e : Exit) a w => e = Exit.normal ∧ R a w) (.panic c) a' w → (fun (e : Exit) a w => e = Exit.normal ∧ R a w) (.panic c) a w := fun c a' w hq => by cases hq.1
      have fin : ∀ v m, YieldsIf P ops (fun w' => q = true → ∀ k, k < w1.heap.size → w'.heap[k]? = w1.heap[k]?) o v a → RepS A w0 w β T m v → wpP P n ops q N K p (updO n env o.dst m) T →
          wpAnyH P .any ops (fun e a w => e = .normal ∧ R a w) (fun w' => q = true → ∀ k, k < w1.heap.size → w'.heap[k]? = w1.heap[k]?) (fuel + 1) listed a w := fun v m hy hm hp =>
        wpAnyH_take hi hsel hfree hready (fun c a' w hq => by cases hq.1) hy (fun hq => (hF hq).1)
          (wpP_ok hsel hR p fuel _ _ T _ w β hok ⟨put_defers.trans hS.defers, put_size.trans hS.size, hS.post, hS.env.put hS.size hm⟩ hF hp)
      rcases guard_elim hS.env h with ⟨hw, hkd, hV⟩ | ⟨hw, hp⟩
      · by_cases hfl : flatKind o.op = true
        · obtain ⟨y, m, h1, h2, h3⟩ := opV_flat hS.env hS.post hfl hV
          exact fin y m (.inl ⟨hw, fun w' _ => h1 w'⟩) h2 h3
        · have hld := hkd.resolve_left hfl
          have hq : q = true := by
            simp only [hfl, Bool.or_eq_true, Bool.and_eq_true, false_or, Bool.false_eq_true] at hkind
            exact hkind.1
          obtain ⟨id, g, y, m, hid, hlv, hg, h1, h2, h3⟩ := opV_loadRef hS.env hS.post hld hV
          obtain ⟨hs1, _, _, hs4⟩ := hF hq
          refine fin y m (.inl ⟨hw, fun w' hw' => h1 w' ?_⟩) h2 h3
          have hgl := hs4 id hid hlv g hg
          exact (hw' hq g hgl).trans (hs1 g hgl).symm
      · exact fin undef .any (.inr ⟨hw, rfl⟩) (by simp [RepS, Rep]) hp
  | .all ps, 0, listed, env, T, a, w, β, hok, hS, hF, h => by simp [planOk] at hok
  | .all ps, fuel + 1, listed, env, T, a, w, β, hok, hS, hF, h => by
    simp only [planOk, Bool.and_eq_true, beq_iff_eq, Bool.not_eq_true', List.isEmpty_eq_false_iff] at hok
    obtain ⟨⟨hr, hne⟩, hok⟩ := hok
    simp only [wpP] at h
    refine wpAnyH_all hr (by simpa using hne) ?_
    exact wpPL_ok hsel hR ps fuel listed env T a w β hok hS hF h
theorem wpPL_ok (hsel : Region.noSelect ops = true) (hR : ∀ env T a w β, K env T → SatB A w0 β0 T0 n env T a w β → R a w) :
    ∀ (ps : List (Nat × Plan)) (fuel : Nat) (listed : Array Bool) (env : Env) (T : Tbl) (a : Act) (w : World) (β : Nat → Option Nat), planOkL ops q fuel ps listed = true → SatB A w0 β0 T0 n env T a w β → Fast q w1 N w β T →
      wpPL P n ops q N K ps env T → ∀ i ∈ ps.map (·.1), wpOp P ops (fun e a w => e = .normal ∧ R a w) i (fun a' w' => (q = true → ∀ k, k < w1.heap.size → w'.heap[k]? = w1.heap[k]?) ∧
        wpAnyH P .any ops (fun e a w => e = .normal ∧ R a w) (fun w' => q = true → ∀ k, k < w1.heap.size → w'.heap[k]? = w1.heap[k]?) fuel (listed.setIfInBounds i true) a' w') a w
  | [], fuel, listed, env, T, a, w, β, hok, hS, hF, h => by intro i hi; simp at hi
  | (i, p) :: ps, fuel, listed, env, T, a, w, β, hok, hS, hF, h => by
    simp only [planOkL, Bool.and_eq_true] at hok
    simp only [wpPL] at h
    intro j hj
    simp only [List.map_cons, List.mem_cons] at hj
    rcases hj with rfl | hj
    · cases hi : ops[j]? with
      | none => rw [hi] at h; exact h.1.elim
      | some o =>
        rw [hi] at h
        simp only at h
        have := oper_wp (P := P) (q := q) (Q := fun e a w => e = .normal ∧ R a w) (R := fun env' T' => wpP P n ops q N K p env' T')
          (C := fun a' w' => (q = true → ∀ k, k < w1.heap.size → w'.heap[k]? = w1.heap[k]?) ∧ wpAnyH P .any ops (fun e a w => e = .normal ∧ R a w) (fun w' => q = true → ∀ k, k < w1.heap.size → w'.heap[k]? = w1.heap[k]?) fuel (listed.setIfInBounds j true) a' w')
          hS h.1 (fun env' T' a' w' β' hr hs hl hold => by
            have hF' : Fast q w1 N w' β' T' := hF.step hl hold
            exact ⟨fun hq => (hF' hq).1, wpP_ok hsel hR p fuel _ env' T' a' w' β' hok.1 hs hF' hr⟩)
        unfold wpOp
        simp only [hi]
        by_cases hw : Region.wanted o (yielded ops a.tmps) = true
        · rw [if_pos hw] at this ⊢; exact .inl this
        · rw [if_neg hw] at this ⊢; exact this
    · exact wpPL_ok hsel hR ps fuel listed env T a w β hok.2 hS hF h.2 j hj
end
end
end Go.Tl
