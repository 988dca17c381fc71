/- The tree logic, part M: code, functions, and what may be forgotten between two steps. -/
import Derived.Test.YtpbgiccloeihcaaTlL
namespace Go.Tl
open Go.RowKit

/-- A step of the mind alone. -/
def Gh (n0 : Nat) (env : Env) (T : Tbl) (env' : Env) (T' : Tbl) : Prop :=
  ∀ (A : Nat → Prop) (w0 : World) (β0 : Nat → Option Nat) (T0 : Tbl) (w : World) (β : Nat → Option Nat) (vals : Nat → Value), T0.length = n0 → Post A w0 β0 T0 w β T → (∀ k, RepS A w0 w β T (env k) (vals k)) →
    ∃ β', Post A w0 β0 T0 w β' T' ∧ ∀ k, RepS A w0 w β' T' (env' k) (vals k)

theorem Gh.refl (n0 : Nat) (env : Env) (T : Tbl) : Gh n0 env T env T := fun _ _ _ _ _ β _ _ hP hE => ⟨β, hP, hE⟩
theorem Gh.trans {n0 : Nat} {e1 e2 e3 : Env} {T1 T2 T3 : Tbl} (h : Gh n0 e1 T1 e2 T2) (k : Gh n0 e2 T2 e3 T3) : Gh n0 e1 T1 e3 T3 := fun A w0 β0 T0 w β vals hn hP hE =>
  let ⟨β', hP', hE'⟩ := h A w0 β0 T0 w β vals hn hP hE
  k A w0 β0 T0 w β' vals hn hP' hE'

/-- What a value's knowledge may be weakened to. -/
def leM : M → M → Prop
  | _, .any => True
  | .v (.slice none 0 0), .sl _ cells len => cells = [] ∧ len = 0
  | .sl true c n, .sl false c' n' => c = c' ∧ n = n'
  | a, b => a = b

theorem leM_refl (m : M) : leM m m := by
  unfold leM
  split <;> first | trivial | rfl | simp_all

theorem leM_ok {A : Nat → Prop} {w0 w : World} {β : Nat → Option Nat} {T : Tbl} {m m' : M} {x : Value} (h : leM m m') (hr : RepS A w0 w β T m x) : RepS A w0 w β T m' x := by
  unfold leM at h
  split at h
  · simp [RepS, Rep]
  · obtain ⟨rfl, rfl⟩ := h
    simp only [RepS, Rep] at hr ⊢
    exact .inl ⟨hr, trivial, trivial⟩
  · obtain ⟨rfl, rfl⟩ := h
    simp only [RepS, Rep] at hr ⊢
    rcases hr with hr | ⟨a, cap, us, h1, h2, h3, h4, h5⟩
    · exact .inl hr
    · exact .inr ⟨a, cap, us, h1, h2, h3, h4, fun j u hu => ⟨⟨(h5 j u hu).1.1, (h5 j u hu).1.2.1, fun e => (by cases e), (h5 j u hu).1.2.2.2⟩, (h5 j u hu).2⟩⟩
  · subst h; exact hr

theorem Gh.weak {n0 : Nat} {env env' : Env} {T : Tbl} (h : ∀ k, leM (env k) (env' k)) : Gh n0 env T env' T := fun _ _ _ _ _ β _ _ hP hE => ⟨β, hP, fun k => leM_ok (h k) (hE k)⟩

theorem Sat.gh {A : Nat → Prop} {w0 : World} {β0 : Nat → Option Nat} {T0 : Tbl} {n n0 : Nat} {env env' : Env} {T T' : Tbl} {a : Act} {w : World} (h : Sat A w0 β0 T0 n env T a w) (hn : T0.length = n0) (hg : Gh n0 env T env' T') :
    Sat A w0 β0 T0 n env' T' a w := by
  obtain ⟨h1, h2, β, h3, h4⟩ := h
  obtain ⟨β', h5, h6⟩ := hg A w0 β0 T0 w β (fun k => a.tmps.getD k undef) hn h3 h4
  exact ⟨h1, h2, β', h5, h6⟩

/-- What code must come to. -/
def WpC (P : Program) (n n0 : Nat) (c : Code) (Q : Exit → Env → Tbl → Prop) (env : Env) (T : Tbl) : Prop :=
  ∀ (A : Nat → Prop) (w0 : World) (β0 : Nat → Option Nat) (T0 : Tbl) (a : Act) (w : World), T0.length = n0 → Sat A w0 β0 T0 n env T a w →
    c.wp P (fun e a w => ∃ env T, Q e env T ∧ Sat A w0 β0 T0 n env T a w) a w

def thenM (next : Env → Tbl → Prop) (Q : Exit → Env → Tbl → Prop) : Exit → Env → Tbl → Prop
  | .normal, env, T => next env T
  | e, env, T => Q e env T

def blockM (id : Nat) (Q : Exit → Env → Tbl → Prop) : Exit → Env → Tbl → Prop
  | .exit id', env, T => if id' = id then Q .normal env T else Q (.exit id') env T
  | e, env, T => Q e env T

section
variable {P : Program} {n n0 : Nat} {Q : Exit → Env → Tbl → Prop} {env : Env} {T : Tbl}

theorem WpC.mono {c : Code} {Q' : Exit → Env → Tbl → Prop} (h : WpC P n n0 c Q env T) (hq : ∀ e env T, Q e env T → Q' e env T) : WpC P n n0 c Q' env T := fun A w0 β0 T0 a w hn hS =>
  wp_mono (h A w0 β0 T0 a w hn hS) fun e _ _ ⟨env, T, h1, h2⟩ => ⟨env, T, hq e env T h1, h2⟩

theorem WpC.gh {c : Code} {env' : Env} {T' : Tbl} (hg : Gh n0 env T env' T') (h : WpC P n n0 c Q env' T') : WpC P n n0 c Q env T := fun A w0 β0 T0 a w hn hS => h A w0 β0 T0 a w hn (hS.gh hn hg)

theorem WpC.skip (h : Q .normal env T) : WpC P n n0 .skip Q env T := fun _ _ _ _ _ _ _ hS => wp_skip ⟨env, T, h, hS⟩
theorem WpC.exit {id : Nat} (h : Q (.exit id) env T) : WpC P n n0 (.exit id) Q env T := fun _ _ _ _ _ _ _ hS => wp_exit ⟨env, T, h, hS⟩
theorem WpC.ret (h : Q .ret env T) : WpC P n n0 .ret Q env T := fun _ _ _ _ _ _ _ hS => wp_ret ⟨env, T, h, hS⟩

theorem WpC.seq {x y : Code} (h : WpC P n n0 x (thenM (fun env T => WpC P n n0 y Q env T) Q) env T) : WpC P n n0 (.seq x y) Q env T := fun A w0 β0 T0 a w hn hS => by
  refine wp_seq (wp_mono (h A w0 β0 T0 a w hn hS) fun e a w => ?_)
  rintro ⟨env, T, h1, h2⟩
  cases e <;> simp only [thenM] at h1 <;> simp only [Exit.then]
  · exact h1 A w0 β0 T0 a w hn h2
  all_goals exact ⟨env, T, h1, h2⟩

theorem WpC.cond {c : Operand} {x y : Code} {t : Bool} (hc : ev env c = .v (.bool t)) (h : WpC P n n0 (if t = true then x else y) Q env T) : WpC P n n0 (.cond c x y) Q env T := fun A w0 β0 T0 a w hn hS => by
  have hv : a.eval c = .bool t := by
    obtain ⟨_, _, β, _, hE⟩ := hS
    have := ev_rep (a := a) hE c
    rw [hc] at this
    simpa only [RepS, Rep] using this
  exact wp_cond hv (h A w0 β0 T0 a w hn hS)

theorem WpC.block {id : Nat} {c : Code} (h : WpC P n n0 c (blockM id Q) env T) : WpC P n n0 (.block id c) Q env T := fun A w0 β0 T0 a w hn hS => by
  refine wp_block (wp_mono (h A w0 β0 T0 a w hn hS) fun e a w => ?_)
  rintro ⟨env, T, h1, h2⟩
  cases e <;> simp only [blockM] at h1 <;> simp only [Exit.inBlock]
  case exit id' =>
    split at h1
    · rw [if_pos ‹_›]; exact ⟨env, T, h1, h2⟩
    · rw [if_neg ‹_›]; exact ⟨env, T, h1, h2⟩
  all_goals exact ⟨env, T, h1, h2⟩

theorem WpC.region {id : Nat} {ops : Array Oper} (h : runO P n ops (Q .normal) ops.toList env T) : WpC P n n0 (.region id ops false) Q env T := fun A w0 β0 T0 a w hn hS => by
  obtain ⟨h1, h2, β, h3, h4⟩ := hS
  refine wp_region_list (runO_ok (A := A) (w0 := w0) (β0 := β0) (T0 := T0) (K := Q .normal) (fun env T a w β hK hs => ⟨env, T, hK, hs.sat⟩) ops.toList env T a w β ⟨h1, h2, h3, h4⟩ h)

theorem WpC.draw {id : Nat} {ops : Array Oper} (q : Bool) (p : Plan) (hm : P.follows .mixedOrders = true) (hs : Region.noSelect ops = true) (hok : planOk ops q ops.size p (Array.replicate ops.size false) = true)
    (h : wpP P n ops q T.length (Q .normal) p env T) : WpC P n n0 (.region id ops true) Q env T := fun A w0 β0 T0 a w hn hS => by
  obtain ⟨h1, h2, β, h3, h4⟩ := hS
  have hd := h3.drew
  have hSd : SatB A w0 β0 T0 n env T a { w with drawn := w.drawn + 1 } β := ⟨h1, h2, hd.post, fun k => hd.rep (h4 k)⟩
  have hF : Fast q { w with drawn := w.drawn + 1 } T.length { w with drawn := w.drawn + 1 } β T := fun _ => ⟨fun _ _ => rfl, Nat.le_refl _, Nat.le_refl _, fun id _ hl g hg => hd.post.wf.bnd id g hl hg⟩
  have := wpP_ok (R := fun a w => ∃ env T, Q .normal env T ∧ Sat A w0 β0 T0 n env T a w) hs (fun env T a w β hK hs => ⟨env, T, hK, hs.sat⟩) p ops.size _ env T a _ β hok hSd hF h
  refine wp_mono (wp_region_held (Q := fun e a w => e = .normal ∧ ∃ env T, Q .normal env T ∧ Sat A w0 β0 T0 n env T a w) hm this) fun e a w hq => ?_
  obtain ⟨rfl, hq⟩ := hq
  exact hq

theorem wp_loop_idx {c : Code} {Q : Exit → Act → World → Prop} {a : Act} {w : World} (I : Nat → Act → World → Prop) (j0 : Nat) (h0 : I j0 a w)
    (round : ∀ j a w, I j a w → c.wp P (Exit.then (fun a' w' => ∃ j', I j' a' w' ∧ j' < j) Q) a w) : (Code.loop c).wp P Q a w := by
  intro b k cs
  have key : ∀ j a w, I j a w → ∃ e a' w', Q e a' w' ∧ Arrives P (lone (b.at a (.code c :: .inLoop c :: k)) cs w) b k cs e a' w' := by
    intro j
    induction j using Nat.strongRecOn with
    | _ j ih =>
      intro a w hI
      obtain ⟨e, a₁, w₁, hq, harr⟩ := round j a w hI b (.inLoop c :: k) cs
      cases e with
      | normal =>
        obtain ⟨j', hI₁, hlt⟩ := hq
        obtain ⟨e₂, a₂, w₂, hq₂, harr₂⟩ := ih j' hlt a₁ w₁ hI₁
        exact ⟨e₂, a₂, w₂, hq₂, .of_steps (Steps.trans harr (.one step_inLoop)) harr₂⟩
      | exit id => exact ⟨_, a₁, w₁, hq, .pass (x := .inLoop c) rfl (fun _ _ => .inl (by simp)) harr⟩
      | goto l => exact ⟨_, a₁, w₁, hq, .pass (x := .inLoop c) rfl (fun _ _ => .inl (by simp)) harr⟩
      | ret => exact ⟨_, a₁, w₁, hq, .pass (x := .inLoop c) rfl (fun _ _ => .inl (by simp)) harr⟩
      | panic ch => exact ⟨_, a₁, w₁, hq, .pass (x := .inLoop c) rfl (fun _ _ => .inl (by simp)) harr⟩
      | outgrown => exact ⟨_, a₁, w₁, hq, .pass (x := .inLoop c) rfl (fun _ _ => .inl (by simp)) harr⟩
  obtain ⟨e, a', w', hq, harr⟩ := key j0 a w h0
  exact ⟨e, a', w', hq, .of_steps (.one step_loop) harr⟩

theorem WpC.loop {σ : Type} {c : Code} (st : σ → Env × Tbl) (μ : σ → Nat) (s0 : σ) (h0 : Gh n0 env T (st s0).1 (st s0).2)
    (round : ∀ s, WpC P n n0 c (thenM (fun env T => ∃ s', Gh n0 env T (st s').1 (st s').2 ∧ μ s' < μ s) Q) (st s).1 (st s).2) : WpC P n n0 (.loop c) Q env T := fun A w0 β0 T0 a w hn hS => by
  refine wp_loop_idx (fun j a w => ∃ s, μ s = j ∧ Sat A w0 β0 T0 n (st s).1 (st s).2 a w) (μ s0) ⟨s0, rfl, hS.gh hn h0⟩ fun j a w hI => ?_
  obtain ⟨s, rfl, hs⟩ := hI
  refine wp_mono (round s A w0 β0 T0 a w hn hs) fun e a' w' => ?_
  rintro ⟨env, T, h1, h2⟩
  cases e <;> simp only [thenM] at h1 <;> simp only [Exit.then]
  · obtain ⟨s', hg, hlt⟩ := h1
    exact ⟨μ s', ⟨s', rfl, h2.gh hn hg⟩, hlt⟩
  all_goals exact ⟨env, T, h1, h2⟩

/-! ### Functions -/
def resL (P : Program) (env : Env) (T : Tbl) : List ResultVar → (List M → Prop) → Prop
  | [], k => k []
  | .tmp t :: rs, k => resL P env T rs fun ms => k (env t :: ms)
  | .cell a ty :: rs, k => opLoad P T ty (env a) fun m => resL P env T rs fun ms => k (m :: ms)

def tupM : List M → M
  | [m] => m
  | ms => .tup ms

/-- What a function must come to, with the blocks that it is handed. -/
def Con (P : Program) (f : FuncId) (args : List M) (T : Tbl) (K : M → Tbl → Prop) : Prop :=
  enterable P f = true ∧ ∀ (A : Nat → Prop) (w : World) (β : Nat → Option Nat) (us : List Value), Post A w β T w β T → RepSL A w w β T args us →
    Calls P f us.toArray w fun e w' => ∃ x m T' β', e = .returned x ∧ K m T' ∧ Post A w β T w' β' T' ∧ RepS A w w' β' T' m x

theorem Con.mono {f : FuncId} {args : List M} {K K' : M → Tbl → Prop} (h : Con P f args T K) (hk : ∀ m T', K m T' → K' m T') : Con P f args T K' :=
  ⟨h.1, fun A w β us hP hr => (h.2 A w β us hP hr).mono fun _ _ ⟨x, m, T', β', h1, h2, h3⟩ => ⟨x, m, T', β', h1, hk _ _ h2, h3⟩⟩

def argEnv (args : List M) : Env := fun k => args.getD k .any

def retQ (P : Program) (fn : Func) (n0 : Nat) (K : M → Tbl → Prop) : Exit → Env → Tbl → Prop
  | .normal, env, T | .ret, env, T => resL P env T fn.results.toList fun ms => ∃ env' T', Gh n0 (fun _ => tupM ms) T env' T' ∧ K (env' 0) T'
  | _, _, _ => False

def resOf (tmps : Array Value) : ResultVar → Sem Value
  | .tmp t => pure (tmps.getD t undef)
  | .cell a t => do loadVar t (← asAddr (tmps.getD a undef))

theorem resL_ok {A : Nat → Prop} {w0 w : World} {β0 β : Nat → Option Nat} {T0 : Tbl} {a : Act} (hP : Post A w0 β0 T0 w β T) (hE : EnvR A w0 w β T env a) :
    ∀ (rs : List ResultVar) (k : List M → Prop), resL P env T rs k → ∃ xs ms, (rs.mapM (resOf a.tmps)).run P w = .ok xs w ∧ RepSL A w0 w β T ms xs ∧ k ms
  | [], k, h => ⟨[], [], by simp, RepL.nil, h⟩
  | .tmp t :: rs, k, h => by
    obtain ⟨xs, ms, h1, h2, h3⟩ := resL_ok hP hE rs _ h
    exact ⟨_ :: xs, env t :: ms, by simp only [List.mapM_cons, resOf, Sem.run_bind, Sem.run_pure, Result.andThen_ok, h1], RepL.cons (hE t) h2, h3⟩
  | .cell b ty :: rs, k, h => by
    obtain ⟨ad, y, m, h1, h2, h3, h4⟩ := load_ok2 hP (hE b) h
    obtain ⟨xs, ms, h5, h6, h7⟩ := resL_ok hP hE rs _ h4
    have h8 : (loadVar ty ad).run P w = .ok y w := by
      have := h2 w rfl
      rw [h1] at this
      simpa [Instr.loadAt, Instr.sureAddr] using this
    refine ⟨y :: xs, m :: ms, ?_, RepL.cons h3 h6, h7⟩
    have h9 : (asAddr (a.tmps.getD b undef)).run P w = .ok ad w := by rw [h1]; rfl
    simp only [List.mapM_cons, resOf, Sem.run_bind, h9, Result.andThen_ok, h8, h5, Sem.run_pure]

theorem Con.of_wp {f : FuncId} {fn : Func} {c : Code} {args : List M} {K : M → Tbl → Prop} (he : enterable P f = true) (hf : P.funcs[f]? = some fn) (hb : fn.body = some c) (hn : args.length ≤ fn.ntmps)
    (h : WpC P fn.ntmps T.length c (retQ P fn T.length K) (argEnv args) T) : Con P f args T K := by
  refine ⟨he, fun A w β us hP hr => calls_of_wp hf hb ?_⟩
  have hlen := RepL.length hr
  refine wp_mono (h A w β T _ w rfl ⟨rfl, ?_, β, hP, fun k => ?_⟩) fun e a w' => ?_
  · simp only [Array.size_append, List.size_toArray, Array.size_replicate]; omega
  · simp only [argEnv]
    rcases Nat.lt_or_ge k args.length with hk | hk
    · have hm : args[k]? = some (args[k]) := List.getElem?_eq_getElem hk
      obtain ⟨u, hu, hru⟩ := RepL.get hr hm
      have e1 : args.getD k .any = args[k] := by simp [List.getD, hm]
      have e2 : (us.toArray ++ Array.replicate (fn.ntmps - us.toArray.size) undef).getD k undef = u := by
        have hk' : k < us.length := by omega
        rw [List.getElem?_eq_getElem hk'] at hu
        injection hu with hu
        simp [Array.getElem?_append, hk', hu]
      rw [e1, e2]; exact hru
    · have e1 : args.getD k .any = .any := by simp [List.getD, List.getElem?_eq_none hk]
      rw [e1]; simp [Rep]
  · rintro ⟨env', T', h1, h2, h3, β', h4, h5⟩
    have fin : resL P env' T' fn.results.toList (fun ms => ∃ env'' T'', Gh T.length (fun _ => tupM ms) T' env'' T'' ∧ K (env'' 0) T'') →
        a.defers = [] ∧ ∃ v, (results fn a.tmps).run P w' = .ok v w' ∧ ∃ x m T'' β'', Ending.returned v = .returned x ∧ K m T'' ∧ Post A w β T w' β'' T'' ∧ RepS A w w' β'' T'' m x := fun hr1 => by
      obtain ⟨xs, ms, h6, h7, env'', T'', hg, hK⟩ := resL_ok h4 h5 fn.results.toList _ hr1
      have hres : (results fn a.tmps).run P w' = .ok (if h : xs.toArray.size = 1 then xs.toArray[0] else .tuple xs.toArray) w' := by
        have h10 : (fn.results.mapM (resOf a.tmps)).run P w' = .ok xs.toArray w' := by
          rw [Array.mapM_eq_mapM_toList, Sem.run_map, h6]; rfl
        have h11 : results fn a.tmps = (do let vs ← fn.results.mapM (resOf a.tmps); pure (if h : vs.size = 1 then vs[0] else .tuple vs)) := rfl
        rw [h11]
        simp only [Sem.run_bind, h10, Result.andThen_ok, Sem.run_pure]
      have hrep : RepS A w w' β' T' (tupM ms) (if h : xs.toArray.size = 1 then xs.toArray[0] else .tuple xs.toArray) := by
        match ms, xs, h7 with
        | [], xs, h7 => simp only [RepSL, RepL] at h7; subst h7; simp only [tupM, RepS, Rep]; exact ⟨[], rfl, RepL.nil⟩
        | [m], xs, h7 =>
          simp only [RepSL, RepL] at h7
          obtain ⟨u, vs, rfl, h8, rfl⟩ := h7
          exact h8
        | m1 :: m2 :: ms, xs, h7 =>
          have hl := RepL.length h7
          have hne : ¬ xs.toArray.size = 1 := by simp only [List.size_toArray, hl, List.length_cons]; omega
          rw [dif_neg hne]
          simp only [tupM, RepS, Rep]
          exact ⟨xs, rfl, h7⟩
      obtain ⟨β'', h8, h9⟩ := hg A w β T w' β' (fun _ => _) rfl h4 (fun _ => hrep)
      exact ⟨h2, _, hres, _, env'' 0, T'', β'', rfl, hK, h8, h9 0⟩
    cases e <;> simp only [retQ] at h1 <;> simp only [bodyPost]
    case normal => exact fin h1
    case ret => exact fin h1
end
end Go.Tl
