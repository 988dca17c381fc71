/- The tree logic, part V: small rules. -/
import Derived.Test.YtpbgiccloeihcaaTlU
namespace Go.Tl
open Go.RowKit
section
variable {P : Program} {n n0 : Nat} {Q : Exit → Env → Tbl → Prop} {env : Env} {T : Tbl} {fn : Func} {K : M → Tbl → Prop}

theorem resL_mono : ∀ (rs : List ResultVar) {k k' : List M → Prop}, (∀ ms, k ms → k' ms) → resL P env T rs k → resL P env T rs k'
  | [], _, _, h, hr => h _ hr
  | .tmp t :: rs, k, k', h, hr => by
    simp only [resL] at hr ⊢
    exact resL_mono rs (fun ms hm => h _ hm) hr
  | .cell a ty :: rs, k, k', h, hr => by
    simp only [resL] at hr ⊢
    obtain ⟨kk, m, z, h1, cs, off, h2, h3⟩ := hr
    refine ⟨kk, m, z, h1, cs, off, h2, ?_⟩
    split at h3
    · exact ⟨h3.1, resL_mono rs (fun ms hm => h _ hm) h3.2⟩
    · obtain ⟨c, h4, h5⟩ := h3
      exact ⟨c, h4, resL_mono rs (fun ms hm => h _ hm) h5⟩

theorem retQ_now (h : resL P env T fn.results.toList fun ms => K (tupM ms) T) : retQ P fn n0 K .ret env T :=
  resL_mono _ (fun _ hm => ⟨_, _, Gh.refl _ _ _, hm⟩) h

theorem retQ_end (h : resL P env T fn.results.toList fun ms => K (tupM ms) T) : retQ P fn n0 K .normal env T :=
  resL_mono _ (fun _ hm => ⟨_, _, Gh.refl _ _ _, hm⟩) h

theorem WpC.retNow (hq : Q .ret env T = retQ P fn n0 K .ret env T) (h : resL P env T fn.results.toList fun ms => K (tupM ms) T) : WpC P n n0 .ret Q env T :=
  WpC.ret (by rw [hq]; exact retQ_now h)

theorem WpC.ghS {c : Code} {env' : Env} {T' : Tbl} (h : WpC P n n0 c Q env' T') (hg : Gh n0 env T env' T') : WpC P n n0 c Q env T := h.gh hg

theorem WpC.loopI {σ : Type} {c : Code} (I : σ → Prop) (st : σ → Env × Tbl) (μ : σ → Nat) (s0 : σ) (hI : I s0) (h0 : Gh n0 env T (st s0).1 (st s0).2)
    (round : ∀ s, I s → WpC P n n0 c (thenM (fun env T => ∃ s', I s' ∧ Gh n0 env T (st s').1 (st s').2 ∧ μ s' < μ s) Q) (st s).1 (st s).2) : WpC P n n0 (.loop c) Q env T := by
  refine WpC.loop (σ := { s : σ // I s }) (fun s => st s.1) (fun s => μ s.1) ⟨s0, hI⟩ h0 fun s => ?_
  refine (round s.1 s.2).mono fun e env T h => ?_
  cases e <;> simp only [thenM] at h ⊢
  · obtain ⟨s', h1, h2, h3⟩ := h
    exact ⟨⟨s', h1⟩, h2, h3⟩
  all_goals exact h

/-- What does not run on is not asked of. -/
theorem WpC.condB {c : Operand} {x y : Code} (t : Bool) (hc : ev env c = .v (.bool t)) (h1 : t = true → WpC P n n0 x Q env T) (h2 : t = false → WpC P n n0 y Q env T) : WpC P n n0 (.cond c x y) Q env T :=
  WpC.cond hc (by cases t <;> simp [h1, h2])
end
mutual
theorem mp_cl (g : Nat → Option Nat) : ∀ m, clM m = true → m.mp g = m
  | .any, _ => rfl
  | .v _, _ => rfl
  | .sl _ _ _, _ => rfl
  | .ip _ _ _, _ => rfl
  | .ref _ _, h => by cases h
  | .sr _ _ _ _, h => by cases h
  | .sx, _ => rfl
  | .fn f a b, h => by
    simp only [clM, Bool.and_eq_true] at h
    simp only [M.mp, mpL_cl g a h.1, mpL_cl g b h.2]
  | .ifc t m, h => by
    simp only [clM] at h
    simp only [M.mp, mp_cl g m h]
  | .agg cs, h => by
    simp only [clM] at h
    simp only [M.mp, mpL_cl g cs h]
  | .tup cs, h => by
    simp only [clM] at h
    simp only [M.mp, mpL_cl g cs h]
theorem mpL_cl (g : Nat → Option Nat) : ∀ ms, clL ms = true → M.mpL g ms = ms
  | [], _ => rfl
  | m :: ms, h => by
    simp only [clL, Bool.and_eq_true] at h
    simp only [M.mpL, mp_cl g m h.1, mpL_cl g ms h.2]
end

section
variable {P : Program} {q : Bool} {f : FuncId} {args args' : List M} {T Tc : Tbl} {K K' : M → Tbl → Prop}

theorem CallW.via {K1 : M → Tbl → Prop} (h : CallW P q f args T K1) (hk : ∀ m T', K1 m T' → K m T') : CallW P q f args T K :=
  ⟨h.1, fun A w0 β0 T0 w β hP us hus => (h.2 A w0 β0 T0 w β hP us hus).mono fun _ _ ⟨x, m, T', β', h1, h2, h3⟩ => ⟨x, m, T', β', h1, hk _ _ h2, h3⟩⟩

/-- A call that only reads what it is lent, and tells a tree. -/
theorem call_read (hc : Con P f args' [] K') (d : Nat) (ha : args' = args.map (rs false T [] d true)) (hk : ∀ m T', K' m T' → T' = [] ∧ frM m = true ∧ clM m = true ∧ K m T) : CallW P q f args T K := by
  refine call_con hc false d [] (by simp) (by simp) (by simp) ha (fun _ => rfl) fun m T' h _ => ?_
  obtain ⟨rfl, h1, h2, h3⟩ := hk m T' h
  refine ⟨fun _ => ⟨h1, by simp⟩, ?_⟩
  rw [mp_cl _ _ h2]
  simpa [setAll] using h3
end

theorem i64_in {x : Int} (h0 : -9223372036854775808 ≤ x) (h1 : x ≤ 9223372036854775807) : IntKind.i64.wrap x = x := by rw [IntKind.wrap_i64]; omega
end Go.Tl
