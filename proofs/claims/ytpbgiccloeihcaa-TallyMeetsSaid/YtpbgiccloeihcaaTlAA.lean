/- The tree logic, part AA: what is to follow, by a name of its own, so that nothing looks into it. -/
import Derived.Test.YtpbgiccloeihcaaTlZ
namespace Go.Tl
section
variable {P : Program} {n n0 : Nat} {Q : Exit → Env → Tbl → Prop} {env : Env} {T : Tbl}

theorem WpC.loopA {σ : Type} {c : Code} (I : σ → Prop) (st : σ → Env × Tbl) (μ : σ → Nat) (s0 : σ) (hI : I s0) (h0 : Gh n0 env T (st s0).1 (st s0).2)
    (round : ∀ s, I s → ∀ R : Exit → Env → Tbl → Prop, (∀ s' env T, I s' → Gh n0 env T (st s').1 (st s').2 → μ s' < μ s → R .normal env T) → (∀ e env T, e ≠ .normal → Q e env T → R e env T) → WpC P n n0 c R (st s).1 (st s).2) : WpC P n n0 (.loop c) Q env T :=
  WpC.loopI I st μ s0 hI h0 fun s hs => round s hs _ (fun s' env T h1 h2 h3 => ⟨s', h1, h2, h3⟩) (fun e env T he hq => by cases e <;> first | exact absurd rfl he | exact hq)

theorem Con.of_wpA {f : FuncId} {fn : Func} {c : Code} {args : List M} {K : M → Tbl → Prop} (he : enterable P f = true) (hf : P.funcs[f]? = some fn) (hb : fn.body = some c) (hn : args.length ≤ fn.ntmps)
    (h : ∀ R : Exit → Env → Tbl → Prop, (∀ env T', resL P env T' fn.results.toList (fun ms => ∃ env' T'', Gh T.length (fun _ => tupM ms) T' env' T'' ∧ K (env' 0) T'') → R .ret env T' ∧ R .normal env T') → WpC P fn.ntmps T.length c R (argEnv args) T) : Con P f args T K :=
  Con.of_wp he hf hb hn (h _ fun _ _ hr => ⟨hr, hr⟩)
end
end Go.Tl
