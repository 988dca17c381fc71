/- The tree logic, part I: every operation, and its law. -/
import Derived.Test.YtpbgiccloeihcaaTlH
namespace Go.Tl
open Go.RowKit

def enterable (P : Program) (f : FuncId) : Bool :=
  match P.funcs[f]? with
  | some fn => fn.body.isSome && !(fn.name == "runtime.NumGoroutine")
  | none => false

/-- What a call must come to; 'q': it leaves all memory that there was as it was. -/
def CallW (P : Program) (q : Bool) (f : FuncId) (args : List M) (T : Tbl) (K : M → Tbl → Prop) : Prop :=
  enterable P f = true ∧ ∀ (A : Nat → Prop) (w0 : World) (β0 : Nat → Option Nat) (T0 : Tbl) (w : World) (β : Nat → Option Nat), Post A w0 β0 T0 w β T → ∀ us, RepSL A w0 w β T args us →
    Calls P f us.toArray w fun e w' => ∃ x m T' β', e = .returned x ∧ K m T' ∧ Move A w0 β0 T0 w β T w' β' T' ∧ RepS A w0 w' β' T' m x ∧ (q = true → ∀ k, k < w.heap.size → w'.heap[k]? = w.heap[k]?)

def unV : M → Option Value
  | .v x => some x
  | _ => none

/-- Of two values of one type: the same? none: not known. -/
def eqM (P : Program) (t : TypeId) : M → M → Option Bool
  | .v (.bool a), .v (.bool b) => match P.underlying t with | some .bool => some (a == b) | _ => none
  | .v (.pointer none), .v (.pointer none) => match P.underlying t with | some (.pointer _) => some true | _ => none
  | .ref _ _, .v (.pointer none) | .ip _ _ _, .v (.pointer none) | .v (.pointer none), .ref _ _ | .v (.pointer none), .ip _ _ _ => match P.underlying t with | some (.pointer _) => some false | _ => none
  | .v .nilFunc, .v .nilFunc => match P.underlying t with | some (.func _ _ _) => some true | _ => none
  | .fn _ _ _, .v .nilFunc => match P.underlying t with | some (.func _ _ _) => some false | _ => none
  | .v (.slice none 0 0), .v (.slice none 0 0) => match P.underlying t with | some (.slice _) => some true | _ => none
  | .sl _ _ n, .v (.slice none 0 0) | .sr _ _ n _, .v (.slice none 0 0) => match P.underlying t with | some (.slice _) => if n = 0 then none else some false | _ => none
  | _, _ => none

def opBin (P : Program) (T : Tbl) (op : BinOp) (t : TypeId) (a b : M) (K : M → Prop) : Prop :=
  match a, b with
  | .v (.int k x), .v (.int k' y) => ∃ z, vBin op (.int k x) (.int k' y) = some z ∧ K (.v z)
  | .v (.string x), .v (.string y) => ∃ z, vBin op (.string x) (.string y) = some z ∧ K (.v z)
  | .agg xs, .agg ys => ∃ us vs b, xs.mapM unV = some us ∧ ys.mapM unV = some vs ∧ P.eqGuardType P.depth t = false ∧ (∀ w, (Op.equalIn 10000 t (.agg us.toArray) (.agg vs.toArray)).run P w = .ok b w) ∧
      (match op with | .eql => K (.v (.bool b)) | .neq => K (.v (.bool (!b))) | _ => False)
  | a, b => oneCell T a = true ∧ oneCell T b = true ∧ ∃ r, eqM P t a b = some r ∧ (match op with | .eql => K (.v (.bool r)) | .neq => K (.v (.bool (!r))) | _ => False)

def opUn (op : UnOp) (m : M) (K : M → Prop) : Prop :=
  match op, m with
  | .not, .v (.bool b) => K (.v (.bool (!b)))
  | .neg, .v (.int k n) => K (.v (.int k (k.wrap (0 - n))))
  | .xor, .v (.int k n) => K (.v (.int k (k.wrap (BitVec.ofInt k.bits (if k.signed then -1 else k.max) ^^^ BitVec.ofInt k.bits n).toNat)))
  | _, _ => False

def opConvert (P : Program) (s d : TypeId) (m : M) (K : M → Prop) : Prop :=
  match P.underlying s, P.underlying d, m with
  | some _, some (.int k), .v (.int _ n) => K (.v (.int k (k.wrap n)))
  | some _, some .string, .v (.string x) => K (.v (.string x))
  | _, _, _ => False

def lenM : M → Option Nat
  | .sl _ _ n | .sr _ _ n _ => some n
  | .v (.slice none 0 0) => some 0
  | .sx => some 0
  | .v (.string s) => some s.size
  | _ => none

def opLen (P : Program) (T : Tbl) (ts : Array TypeId) (m : M) (K : M → Prop) : Prop :=
  match ts[0]? with
  | some t => (match P.underlying t with
    | some (.slice _) => oneCell T m = true ∧ (match m with | .v (.string _) => False | _ => True) ∧ ∃ n, lenM m = some n ∧ K (.v (.int .i64 (n : Int)))
    | some .string => (match m with | .v (.string s) => K (.v (.int .i64 (s.size : Int))) | _ => False)
    | some (.array n _) => K (.v (.int .i64 (n : Int)))
    | _ => False)
  | none => False

def opMax2 (mx : Bool) : M → M → Option M
  | .v (.int k x), .v (.int _ y) => some (.v (.int k (if mx then (if y > x then y else x) else (if y < x then y else x))))
  | _, _ => none

def opBuiltin (P : Program) (q : Bool) (T : Tbl) (ts : Array TypeId) (b : Builtin) (ms : List M) (K : M → Tbl → Prop) : Prop :=
  match b, ms with
  | .len, [m] => opLen P T ts m (fun r => K r T)
  | .append, [s, x] => q = false ∧ ts.size = 2 ∧ opAppend P T ts s x K
  | .min, [a, b] => ∃ r, opMax2 false a b = some r ∧ K r T
  | .max, [a, b] => ∃ r, opMax2 true a b = some r ∧ K r T
  | _, _ => False

def opV (P : Program) (q : Bool) (env : Env) (T : Tbl) (o : Op) (K : M → Tbl → Prop) : Prop :=
  match o with
  | .move x => K (ev env x) T
  | .assign x => K (ev env x) T
  | .pick c a b => (match ev env c with | .v (.bool t) => K (if t = true then ev env a else ev env b) T | _ => False)
  | .alloc t => (match lay P t with | some (_, _, z) => K (.ref T.length 0) (T ++ [.cells true (z.map .v)]) | none => False)
  | .box _ x => (match cellsOf T (ev env x) with | some cs => K (.ref T.length 0) (T ++ [.cells true cs]) | none => False)
  | .build t ps => opBuild P T t (ps.toList.map fun p => (p.1, ev env p.2)) (fun m => K m T)
  | .buildSlice t n ps => opBuildSlice P T t n (ps.toList.map fun p => (p.1, ev env p.2)) K
  | .load t a => opLoad P T t (ev env a) (fun m => K m T)
  | .store t a x => q = false ∧ opStore P T t (ev env a) (ev env x) (fun T' => K .any T')
  | .nilCheck x => (match ev env x with
    | .ref id off => oneCell T (.ref id off) = true ∧ K (.ref id off) T
    | .ip fr cells off => K (.ip fr cells off) T
    | .fn (.func f) a b => K (.fn (.func f) a b) T
    | _ => False)
  | .binOp op t x y _ => opBin P T op t (ev env x) (ev env y) (fun m => K m T)
  | .unOp op _ x => opUn op (ev env x) (fun m => K m T)
  | .convert s d x => opConvert P s d (ev env x) (fun m => K m T)
  | .makeFunc fn fs cs => K (.fn fn (fs.toList.map (ev env)) (cs.toList.map (ev env))) T
  | .makeSlice t l c => opMakeSlice P T t (ev env l) (ev env c) K
  | .slice t x lo hi mx => oneCell T (ev env x) = true ∧ opSlice P T t (ev env x) (lo.map (ev env)) (hi.map (ev env)) (mx.map (ev env)) (fun m => K m T)
  | .fieldAddr t x f => oneCell T (ev env x) = true ∧ opFieldAddr P t f (ev env x) (fun m => K m T)
  | .indexAddr t x i => oneCell T (ev env x) = true ∧ opIndexAddr P t (ev env x) (ev env i) (fun m => K m T)
  | .field t x f => opField P t f (ev env x) (fun m => K m T)
  | .index t x i => opIndex P t (ev env x) (ev env i) (fun m => K m T)
  | .extract x i => opExtract (ev env x) i (fun m => K m T)
  | .call c => (match c.callee with
    | .builtin b => opBuiltin P q T c.argTypes b (c.args.toList.map (ev env)) K
    | .value f => (match ev env f with
      | .fn (.func g) first captured => CallW P q g (first ++ c.args.toList.map (ev env) ++ captured) T K
      | _ => False)
    | .invoke _ _ => False)
  | _ => False

/-- What an operation comes to. -/
def Out (P : Program) (q : Bool) (A : Nat → Prop) (w0 : World) (β0 : Nat → Option Nat) (T0 : Tbl) (w : World) (β : Nat → Option Nat) (T : Tbl) (K : M → Tbl → Prop) : Result Next → Prop
  | .ok (.value x) w' => ∃ m T' β', K m T' ∧ Move A w0 β0 T0 w β T w' β' T' ∧ RepS A w0 w' β' T' m x ∧ (q = true → ∀ k, k < w.heap.size → w'.heap[k]? = w.heap[k]?)
  | .ok .skip w' => ∃ T' β', K .any T' ∧ Move A w0 β0 T0 w β T w' β' T' ∧ (q = true → ∀ k, k < w.heap.size → w'.heap[k]? = w.heap[k]?)
  | .ok (.enter f args) w' => w' = w ∧ Calls P f args w fun e w'' => ∃ x m T' β', e = .returned x ∧ K m T' ∧ Move A w0 β0 T0 w β T w'' β' T' ∧ RepS A w0 w'' β' T' m x ∧ (q = true → ∀ k, k < w.heap.size → w''.heap[k]? = w.heap[k]?)
  | _ => False

section
variable {P : Program} {q : Bool} {A : Nat → Prop} {w0 : World} {β0 : Nat → Option Nat} {T0 : Tbl} {w : World} {β : Nat → Option Nat} {T : Tbl} {K : M → Tbl → Prop}

theorem Out.of_yld {s : Sem Value} (h : Yld P q s A w0 β0 T0 w β T K) : Out P q A w0 β0 T0 w β T K ((do pure (.value (← s)) : Sem Next).run P w) := by
  obtain ⟨x, w', m, T', β', h1, h2, h3, h4, h5⟩ := h
  simp only [Sem.run_bind, h1, Result.andThen_ok, Sem.run_pure]
  exact ⟨m, T', β', h2, h3, h4, h5⟩

theorem Out.of_still {s : Sem Value} (hP : Post A w0 β0 T0 w β T) (h : ∃ y m, s.run P w = .ok y w ∧ RepS A w0 w β T m y ∧ K m T) : Out P q A w0 β0 T0 w β T K ((do pure (.value (← s)) : Sem Next).run P w) := by
  obtain ⟨y, m, h1, h2, h3⟩ := h
  exact Out.of_yld (Yld.pure hP h1 h2 h3)

theorem Out.of_all {s : Sem Value} (hP : Post A w0 β0 T0 w β T) (h : ∃ y m, (∀ w, s.run P w = .ok y w) ∧ RepS A w0 w β T m y ∧ K m T) : Out P q A w0 β0 T0 w β T K ((do pure (.value (← s)) : Sem Next).run P w) := by
  obtain ⟨y, m, h1, h2, h3⟩ := h
  exact Out.of_still hP ⟨y, m, h1 w, h2, h3⟩

theorem Out.of_val {x : Value} {m : M} (hP : Post A w0 β0 T0 w β T) (hr : RepS A w0 w β T m x) (hK : K m T) : Out P q A w0 β0 T0 w β T K ((pure (.value x) : Sem Next).run P w) :=
  ⟨m, T, β, hK, Move.refl hP, hr, fun _ _ _ => rfl⟩

theorem not_gone_of {m : M} (h : oneCell T m = true) : (∀ id off, m = .ref id off → ¬ isGone T id) ∧ (∀ id off len sz, m = .sr id off len sz → ¬ isGone T id) := by
  constructor
  · rintro id off rfl hg
    unfold isGone at hg
    simp only [oneCell, hg] at h
    cases h
  · rintro id off len sz rfl hg
    unfold isGone at hg
    simp only [oneCell, hg] at h
    cases h

theorem unV_rep : ∀ {ms : List M} {us vs : List Value}, ms.mapM unV = some us → RepSL A w0 w β T ms vs → vs = us
  | [], us, vs, h, hr => by simp at h; simp only [RepSL, RepL] at hr; rw [hr, ← h]
  | m :: ms, us, vs, h, hr => by
    simp only [List.mapM_cons, Option.bind_eq_bind, Option.bind_eq_some_iff, Option.pure_def, Option.some.injEq] at h
    obtain ⟨u, h1, us', h2, rfl⟩ := h
    simp only [RepSL, RepL] at hr
    obtain ⟨v, vs', rfl, h3, h4⟩ := hr
    cases m <;> simp only [unV] at h1 <;> try cases h1
    simp only [Rep] at h3
    rw [h3, unV_rep h2 h4]

theorem pairs_fst {env : Env} {a : Act} (ps : Array (Nat × Operand)) : (ps.toList.map fun p => (p.1, ev env p.2)).map (·.1) = ((ps.map fun (i, x) => (i, a.eval x)).toList).map (·.1) := by
  simp [Function.comp_def]

theorem pairs_snd {env : Env} {a : Act} (h : ∀ k, RepS A w0 w β T (env k) (a.tmps.getD k undef)) (ps : Array (Nat × Operand)) :
    RepSL A w0 w β T ((ps.toList.map fun p => (p.1, ev env p.2)).map (·.2)) (((ps.map fun (i, x) => (i, a.eval x)).toList).map (·.2)) := by
  have := ev_repL h (ps.map (·.2))
  simpa [Function.comp_def] using this

theorem repO_map {env : Env} {a : Act} (h : ∀ k, RepS A w0 w β T (env k) (a.tmps.getD k undef)) (x : Option Operand) : RepO A w0 w β T (x.map (ev env)) (x.map a.eval) := by
  cases x with
  | none => trivial
  | some x => exact ev_rep h x

theorem len_run {t : TypeId} {m : M} {x : Value} {n : Nat} {el ty : TypeId} (hu : P.underlying t = some (.slice el)) (hn : lenM m = some n) (hstr : ∀ s, m ≠ .v (.string s)) (hc : oneCell T m = true) (hr : RepS A w0 w β T m x) (ts : Array TypeId) (hts : ts[0]? = some t) (w' : World) :
    (Builtin.len_ ts ty #[x]).run P w' = .ok (.int .i64 (n : Int)) w' := by
  have key : ∃ A cap, x = .slice A n cap := by
    unfold lenM at hn
    split at hn <;> try (simp only [Option.some.injEq] at hn; subst hn)
    · simp only [RepS, Rep] at hr
      rcases hr with ⟨rfl, _, rfl⟩ | ⟨a, cap, us, rfl, _⟩
      · exact ⟨_, _, rfl⟩
      · exact ⟨_, _, rfl⟩
    · simp only [RepS, Rep] at hr
      rcases hr with hr | ⟨_, ⟨b, cap, n, _, rfl, _⟩ | ⟨rfl, A, rfl⟩⟩
      · exact absurd hr ((not_gone_of hc).2 _ _ _ _ rfl)
      · exact ⟨_, _, rfl⟩
      · exact ⟨_, _, rfl⟩
    · simp only [RepS, Rep] at hr; exact ⟨_, _, hr⟩
    · simp only [RepS, Rep] at hr; obtain ⟨A, rfl⟩ := hr; exact ⟨_, _, rfl⟩
    · exact absurd rfl (hstr _)
    · cases hn
  obtain ⟨A, cap, rfl⟩ := key
  simp [Builtin.len_, hts, Go.run_underlying hu, goInt]

theorem eq_fin {t : TypeId} {x y : Value} {r : Bool} (key : ∀ d w, (Op.equalIn (d + 1) t x y).run P w = .ok r w)
    (h1 : binOp .eql t x y = (do pure (.bool (← Op.equal t x y)))) (h2 : binOp .neq t x y = (do pure (.bool (!(← Op.equal t x y))))) :
    ∀ w, (binOp .eql t x y).run P w = .ok (.bool r) w ∧ (binOp .neq t x y).run P w = .ok (.bool (!r)) w := by
  intro w
  have e : (Op.equal t x y).run P w = .ok r w := key 9999 w
  rw [h1, h2]
  simp only [Sem.run_bind, e, Result.andThen_ok, Sem.run_pure]
  exact ⟨trivial, trivial⟩

theorem eqM_run {t : TypeId} {a b : M} {x y : Value} {r : Bool} (ha : oneCell T a = true) (hb : oneCell T b = true) (h : eqM P t a b = some r) (hx : RepS A w0 w β T a x) (hy : RepS A w0 w β T b y) :
    (∀ w, (binOp .eql t x y).run P w = .ok (.bool r) w ∧ (binOp .neq t x y).run P w = .ok (.bool (!r)) w) ∧ (x = .nilIface → y ≠ .nilIface) ∧ (∀ xs ys, x = .agg xs → y ≠ .agg ys) := by
  unfold eqM at h
  split at h <;> try (cases h; done)
  all_goals simp only [RepS, Rep] at hx hy
  · subst hx; subst hy
    split at h <;> try (cases h; done)
    rename_i hu
    simp only [Option.some.injEq] at h
    subst h
    exact ⟨eq_fin (fun d w => by simp [Op.equalIn, Go.run_underlying hu]) rfl rfl, by simp, by simp⟩
  · subst hx; subst hy
    split at h <;> try (cases h; done)
    rename_i hu
    simp only [Option.some.injEq] at h
    subst h
    exact ⟨eq_fin (fun d w => by simp [Op.equalIn, Go.run_underlying hu]) rfl rfl, by simp, by simp⟩
  · rcases hx with hx | ⟨_, g, _, rfl⟩
    · exact absurd hx ((not_gone_of ha).1 _ _ rfl)
    subst hy
    split at h <;> try (cases h; done)
    rename_i hu
    simp only [Option.some.injEq] at h
    subst h
    exact ⟨eq_fin (fun d w => by simp [Op.equalIn, Go.run_underlying hu]) rfl rfl, by simp, by simp⟩
  · obtain ⟨ad, _, rfl, _⟩ := hx
    subst hy
    split at h <;> try (cases h; done)
    rename_i hu
    simp only [Option.some.injEq] at h
    subst h
    exact ⟨eq_fin (fun d w => by simp [Op.equalIn, Go.run_underlying hu]) rfl rfl, by simp, by simp⟩
  · rcases hy with hy | ⟨_, g, _, rfl⟩
    · exact absurd hy ((not_gone_of hb).1 _ _ rfl)
    subst hx
    split at h <;> try (cases h; done)
    rename_i hu
    simp only [Option.some.injEq] at h
    subst h
    exact ⟨eq_fin (fun d w => by simp [Op.equalIn, Go.run_underlying hu]) rfl rfl, by simp, by simp⟩
  · obtain ⟨ad, _, rfl, _⟩ := hy
    subst hx
    split at h <;> try (cases h; done)
    rename_i hu
    simp only [Option.some.injEq] at h
    subst h
    exact ⟨eq_fin (fun d w => by simp [Op.equalIn, Go.run_underlying hu]) rfl rfl, by simp, by simp⟩
  · subst hx; subst hy
    split at h <;> try (cases h; done)
    rename_i hu
    simp only [Option.some.injEq] at h
    subst h
    exact ⟨eq_fin (fun d w => by simp [Op.equalIn, Go.run_underlying hu]) rfl rfl, by simp, by simp⟩
  · obtain ⟨_, _, rfl, _⟩ := hx
    subst hy
    split at h <;> try (cases h; done)
    rename_i hu
    simp only [Option.some.injEq] at h
    subst h
    exact ⟨eq_fin (fun d w => by simp [Op.equalIn, Go.run_underlying hu]) rfl rfl, by simp, by simp⟩
  · subst hx; subst hy
    split at h <;> try (cases h; done)
    rename_i hu
    simp only [Option.some.injEq] at h
    subst h
    exact ⟨eq_fin (fun d w => by simp [Op.equalIn, Go.run_underlying hu]) rfl rfl, by simp, by simp⟩
  · subst hy
    split at h <;> try (cases h; done)
    rename_i hu
    split at h
    · cases h
    rename_i hn
    simp only [Option.some.injEq] at h
    subst h
    rcases hx with ⟨_, _, h0⟩ | ⟨ad, _, _, rfl, _⟩
    · exact absurd h0 hn
    exact ⟨eq_fin (fun d w => by simp [Op.equalIn, Go.run_underlying hu]) rfl rfl, by simp, by simp⟩
  · subst hy
    split at h <;> try (cases h; done)
    rename_i hu
    split at h
    · cases h
    rename_i hn
    simp only [Option.some.injEq] at h
    subst h
    rcases hx with hx | ⟨_, ⟨ad, _, _, _, rfl, _⟩ | ⟨h0, _⟩⟩
    · exact absurd hx ((not_gone_of ha).2 _ _ _ _ rfl)
    · exact ⟨eq_fin (fun d w => by simp [Op.equalIn, Go.run_underlying hu]) rfl rfl, by simp, by simp⟩
    · exact absurd h0 hn

theorem bin_ok {op : BinOp} {t : TypeId} {xo yo : Operand} {a b : M} {x y : Value} {K : M → Prop} (hx : RepS A w0 w β T a x) (hy : RepS A w0 w β T b y) (h : opBin P T op t a b K) :
    ∃ z m, (∀ w, (do eqGuard op t xo yo x y; binOp op t x y : Sem Value).run P w = .ok z w) ∧ RepS A w0 w β T m z ∧ K m := by
  unfold opBin at h
  split at h
  · obtain ⟨z, h1, h2⟩ := h
    simp only [RepS, Rep] at hx hy
    subst hx; subst hy
    refine ⟨z, .v z, fun w => ?_, by simp [RepS, Rep], h2⟩
    rw [Sem.run_bind, eqGuard_run op t xo yo _ _ (by simp) (by simp)]
    exact vBin_run t h1 w
  · obtain ⟨z, h1, h2⟩ := h
    simp only [RepS, Rep] at hx hy
    subst hx; subst hy
    refine ⟨z, .v z, fun w => ?_, by simp [RepS, Rep], h2⟩
    rw [Sem.run_bind, eqGuard_run op t xo yo _ _ (by simp) (by simp)]
    exact vBin_run t h1 w
  · obtain ⟨us, vs, r, h1, h2, hg, hrun, h3⟩ := h
    simp only [RepS, Rep] at hx hy
    obtain ⟨us', rfl, hu⟩ := hx
    obtain ⟨vs', rfl, hv⟩ := hy
    obtain rfl := unV_rep h1 hu
    obtain rfl := unV_rep h2 hv
    have hguard : ∀ w, (eqGuard op t xo yo (.agg us'.toArray) (.agg vs'.toArray)).run P w = .ok () w := fun w => run_eqGuard_agg w op t xo yo _ _ hg
    split at h3
    · refine ⟨.bool r, _, fun w => ?_, by simp [RepS, Rep], h3⟩
      rw [Sem.run_bind, hguard, Result.andThen_ok, run_eql_struct, hrun w]; rfl
    · refine ⟨.bool (!r), _, fun w => ?_, by simp [RepS, Rep], h3⟩
      rw [Sem.run_bind, hguard, Result.andThen_ok, run_neq_struct, hrun w]; rfl
    · exact h3.elim
  · obtain ⟨ha, hb, r, h1, h2⟩ := h
    obtain ⟨h34, h5, h6⟩ := eqM_run ha hb h1 hx hy
    split at h2
    · refine ⟨.bool r, _, fun w => ?_, by simp [RepS, Rep], h2⟩
      rw [Sem.run_bind, eqGuard_run _ t xo yo _ _ h5 h6, Result.andThen_ok, (h34 w).1]
    · refine ⟨.bool (!r), _, fun w => ?_, by simp [RepS, Rep], h2⟩
      rw [Sem.run_bind, eqGuard_run _ t xo yo _ _ h5 h6, Result.andThen_ok, (h34 w).2]
    · exact h2.elim

theorem un_ok {op : UnOp} {a : M} {x : Value} {K : M → Prop} (hx : RepS A w0 w β T a x) (h : opUn op a K) : ∃ z m, (∀ w, (Op.unary op x).run P w = .ok z w) ∧ RepS A w0 w β T m z ∧ K m := by
  unfold opUn at h
  split at h
  · simp only [RepS, Rep] at hx; subst hx; exact ⟨_, _, fun _ => rfl, by simp [RepS, Rep], h⟩
  · simp only [RepS, Rep] at hx; subst hx; exact ⟨_, _, fun _ => rfl, by simp [RepS, Rep], h⟩
  · simp only [RepS, Rep] at hx; subst hx; exact ⟨_, _, fun _ => rfl, by simp [RepS, Rep], h⟩
  · exact h.elim

theorem convert_ok {s d : TypeId} {a : M} {x : Value} {K : M → Prop} (hx : RepS A w0 w β T a x) (h : opConvert P s d a K) : ∃ z m, (∀ w, (convert s d x).run P w = .ok z w) ∧ RepS A w0 w β T m z ∧ K m := by
  unfold opConvert at h
  split at h
  · rename_i dd k k' n hs hd
    simp only [RepS, Rep] at hx; subst hx
    refine ⟨.int k (k.wrap n), .v (.int k (k.wrap n)), fun w => ?_, by simp [RepS, Rep], h⟩
    simp [convert, Go.run_underlying hs, Go.run_underlying hd, Conv.intToInt]
  · rename_i dd s' hs hd
    simp only [RepS, Rep] at hx; subst hx
    refine ⟨.string s', .v (.string s'), fun w => ?_, by simp [RepS, Rep], h⟩
    simp [convert, Go.run_underlying hs, Go.run_underlying hd]
  · exact h.elim

theorem minmax_ok {mx : Bool} {a b r : M} {x y : Value} (hx : RepS A w0 w β T a x) (hy : RepS A w0 w β T b y) (h : opMax2 mx a b = some r) (ts : Array TypeId) (ty : TypeId) :
    ∃ z, (∀ w, ((if mx = true then Builtin.max_ ts ty #[x, y] else Builtin.min_ ts ty #[x, y] : Sem Value)).run P w = .ok z w) ∧ RepS A w0 w β T r z := by
  unfold opMax2 at h
  split at h
  · rename_i k x' k' y'
    simp only [Option.some.injEq] at h
    subst h
    simp only [RepS, Rep] at hx hy
    subst hx; subst hy
    refine ⟨.int k (if mx = true then (if y' > x' then y' else x') else (if y' < x' then y' else x')), fun w => ?_, by simp only [RepS, Rep]⟩
    cases mx <;> simp [Builtin.max_, Builtin.min_, Builtin.max2, Builtin.min2]
  · cases h

theorem callFunc_run {f : FuncId} {args : Array Value} (h : enterable P f = true) : (callFunc f args).run P w = .ok (.enter f args) w := by
  unfold enterable at h
  split at h
  · rename_i fn hf
    simp only [Bool.and_eq_true, Bool.not_eq_true'] at h
    obtain ⟨h1, h2⟩ := h
    have h3 : ¬ fn.body = none := by intro e; rw [e] at h1; cases h1
    have h4 : ¬ fn.name = "runtime.NumGoroutine" := by intro e; rw [e] at h2; cases h2
    simp [callFunc, hf, h3, h4]
  · cases h

theorem builtin_ok {ts : Array TypeId} {ty : TypeId} {cst : Array Bool} {b : Builtin} {ms : List M} {us : List Value} (hP : Post A w0 β0 T0 w β T) (hr : RepSL A w0 w β T ms us) (h : opBuiltin P q T ts b ms K) :
    Out P q A w0 β0 T0 w β T K ((builtin b ts ty cst us.toArray).run P w) := by
  unfold opBuiltin at h
  split at h
  · rename_i m
    simp only [RepSL, RepL] at hr
    obtain ⟨u, us', rfl, hu, rfl⟩ := hr
    unfold opLen at h
    split at h
    case h_2 => exact h.elim
    rename_i t ht
    split at h
    · rename_i el hul
      obtain ⟨hc, hs, n, hn, hK⟩ := h
      have hrun := len_run (P := P) (ty := ty) hul hn (fun s e => by subst e; exact hs) hc hu ts ht
      refine Out.of_still hP ⟨_, _, hrun w, ?_, hK⟩
      simp only [RepS, Rep]
    · rename_i hul
      split at h
      · rename_i s
        simp only [Rep] at hu
        subst hu
        refine Out.of_still hP ⟨.int .i64 (s.size : Int), _, ?_, ?_, h⟩
        · simp [Builtin.len_, ht, Go.run_underlying hul, goInt]
        · simp only [RepS, Rep]
      · exact h.elim
    · rename_i n el hul
      refine Out.of_still hP ⟨.int .i64 (n : Int), _, ?_, ?_, h⟩
      · simp [Builtin.len_, ht, Go.run_underlying hul, goInt]
      · simp only [RepS, Rep]
    · exact h.elim
  · rename_i s x
    simp only [RepSL, RepL] at hr
    obtain ⟨u, us', rfl, hu, v, vs', rfl, hv, rfl⟩ := hr
    obtain ⟨rfl, hts, h⟩ := h
    exact Out.of_yld (append_ok hP hu hv hts h)
  · simp only [RepSL, RepL] at hr
    obtain ⟨u, us', rfl, hu, v, vs', rfl, hv, rfl⟩ := hr
    obtain ⟨r, h1, h2⟩ := h
    obtain ⟨z, h3, h4⟩ := minmax_ok (P := P) hu hv h1 ts ty
    exact Out.of_still hP ⟨z, r, by simpa using h3 w, h4, h2⟩
  · simp only [RepSL, RepL] at hr
    obtain ⟨u, us', rfl, hu, v, vs', rfl, hv, rfl⟩ := hr
    obtain ⟨r, h1, h2⟩ := h
    obtain ⟨z, h3, h4⟩ := minmax_ok (P := P) hu hv h1 ts ty
    exact Out.of_still hP ⟨z, r, by simpa using h3 w, h4, h2⟩
  · exact h.elim

theorem fn_rep {f : Fn} {first captured : List M} {x : Value} (h : RepS A w0 w β T (.fn f first captured) x) : ∃ us vs, x = .func f us.toArray vs.toArray ∧ RepSL A w0 w β T first us ∧ RepSL A w0 w β T captured vs := by
  simpa only [RepS, Rep] using h

theorem toArray_map {α γ : Type} (f : α → γ) (xs : Array α) : (xs.toList.map f).toArray = xs.map f := by apply Array.ext'; simp

/-- EVERY OPERATION. -/
theorem opV_out {env : Env} {a : Act} {o : Oper} (hP : Post A w0 β0 T0 w β T) (hE : ∀ k, RepS A w0 w β T (env k) (a.tmps.getD k undef)) (h : opV P q env T o.op K) :
    Out P q A w0 β0 T0 w β T K ((execOp a.eval o).run P w) := by
  obtain ⟨dst, op, ty, pos, aft, g⟩ := o
  cases op <;> simp only [opV] at h <;> simp only [execOp]
  case move x => exact Out.of_val hP (ev_rep hE x) h
  case assign x => exact Out.of_val hP (ev_rep hE x) h
  case pick c x y =>
    have hc := ev_rep hE c
    split at h
    · rename_i t ht
      rw [ht] at hc
      simp only [RepS, Rep] at hc
      rw [hc]
      have hb : (asBool (.bool t)).run P w = .ok t w := rfl
      simp only [Sem.run_bind, hb, Result.andThen_ok, Sem.run_pure]
      cases t
      · exact ⟨_, T, β, h, Move.refl hP, ev_rep hE y, fun _ _ _ => rfl⟩
      · exact ⟨_, T, β, h, Move.refl hP, ev_rep hE x, fun _ _ _ => rfl⟩
    · exact h.elim
  case alloc t =>
    split at h
    · rename_i hl; exact Out.of_yld (alloc_ok hP hl h)
    · exact h.elim
  case box t x =>
    split at h
    · rename_i hc; exact Out.of_yld (box_ok hP (ev_rep hE x) hc h)
    · exact h.elim
  case build t ps =>
    obtain ⟨y, m, h1, h2, h3⟩ := build_ok (P := P) (w := w) (pairs_fst (a := a) ps) (pairs_snd hE ps) h
    simp only [Array.toArray_toList] at h1
    exact Out.of_still hP ⟨y, m, h1 w, h2, h3⟩
  case buildSlice t n ps =>
    have := buildSlice_ok (P := P) (q := q) hP (pairs_fst (a := a) ps) (pairs_snd hE ps) h
    rw [Array.toArray_toList] at this
    exact Out.of_yld this
  case load t x =>
    obtain ⟨y, m, h1, h2, h3⟩ := load_ok hP (ev_rep hE x) h
    exact Out.of_still hP ⟨y, m, h1, h2, h3⟩
  case store t x y =>
    obtain ⟨rfl, h⟩ := h
    obtain ⟨w', T', h1, h2, h3⟩ := store_ok hP (ev_rep hE x) (ev_rep hE y) h
    simp only [Sem.run_bind, h1, Result.andThen_ok, Sem.run_pure]
    exact ⟨T', β, h2, h3, fun h => by cases h⟩
  case nilCheck x =>
    have hx := ev_rep hE x
    split at h
    · rename_i id off e
      rw [e] at hx
      obtain ⟨hc, hK⟩ := h
      obtain ⟨a', hp, _⟩ := ref_shift (o := 0) ((not_gone_of hc).1 _ _ rfl) hx
      rw [hp] at hx ⊢
      exact Out.of_val hP hx hK
    · rename_i fr cells off e
      rw [e] at hx
      obtain ⟨a', hp, _⟩ := ip_shift (o := 0) hx
      rw [hp] at hx ⊢
      exact Out.of_val hP hx h
    · rename_i f fs cs e
      rw [e] at hx
      obtain ⟨us, vs, hp, _⟩ := fn_rep hx
      rw [hp] at hx ⊢
      exact Out.of_val hP hx h
    · exact h.elim
  case binOp op t x y yt =>
    exact Out.of_all hP (bin_ok (ev_rep hE x) (ev_rep hE y) h)
  case unOp op t x => exact Out.of_all hP (un_ok (ev_rep hE x) h)
  case convert s d x => exact Out.of_all hP (convert_ok (ev_rep hE x) h)
  case makeFunc fn fs cs =>
    refine Out.of_still hP ⟨.func fn (fs.map a.eval) (cs.map a.eval), _, rfl, ?_, h⟩
    simp only [RepS, Rep]
    exact ⟨fs.toList.map a.eval, cs.toList.map a.eval, by rw [toArray_map, toArray_map], ev_repL hE fs, ev_repL hE cs⟩
  case makeSlice t l c => exact Out.of_yld (makeSlice_ok hP (ev_rep hE l) (ev_rep hE c) h)
  case slice t x lo hi mx =>
    obtain ⟨hc, h⟩ := h
    exact Out.of_all hP (slice_ok hP (ev_rep hE x) (repO_map hE lo) (repO_map hE hi) (repO_map hE mx) (not_gone_of hc).1 (not_gone_of hc).2 h)
  case fieldAddr t x f =>
    obtain ⟨hc, h⟩ := h
    exact Out.of_all hP (fieldAddr_ok (ev_rep hE x) (not_gone_of hc).1 h)
  case indexAddr t x i =>
    obtain ⟨hc, h⟩ := h
    exact Out.of_all hP (indexAddr_ok (ev_rep hE x) (ev_rep hE i) (not_gone_of hc).1 (not_gone_of hc).2 h)
  case field t x f => exact Out.of_all hP (field_ok (ev_rep hE x) h)
  case index t x i => exact Out.of_all hP (index_ok (ev_rep hE x) (ev_rep hE i) h)
  case extract x i => exact Out.of_all hP (extract_ok (ev_rep hE x) h)
  case call c =>
    obtain ⟨callee, args, ats⟩ := c
    cases callee with
    | builtin b =>
      simp only at h
      have := builtin_ok (P := P) (ty := ty) (cst := args.map fun | .const _ => true | _ => false) hP (ev_repL hE args) h
      rw [toArray_map] at this
      simp only [resolve, Sem.run_bind, Sem.run_pure, Result.andThen_ok, invoke]
      exact this
    | value f =>
      simp only at h
      have hf := ev_rep hE f
      split at h
      · rename_i g first captured e
        rw [e] at hf
        obtain ⟨us, vs, hp, hu, hv⟩ := fn_rep hf
        obtain ⟨hent, hcall⟩ := h
        have hargs : RepSL A w0 w β T (first ++ args.toList.map (ev env) ++ captured) (us ++ args.toList.map a.eval ++ vs) := (hu.append (ev_repL hE args)).append hv
        have hc := hcall A w0 β0 T0 w β hP _ hargs
        simp only [resolve, hp, Deferred.ofValue, Sem.run_bind, Sem.run_pure, Result.andThen_ok, invoke]
        have harr : us.toArray ++ Array.map a.eval args ++ vs.toArray = (us ++ args.toList.map a.eval ++ vs).toArray := by
          apply Array.ext'; simp
        rw [harr, callFunc_run hent]
        exact ⟨rfl, hc⟩
      · exact h.elim
    | invoke _ _ => exact h.elim
end
end Go.Tl
