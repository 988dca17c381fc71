/- The tree logic, part MA: code by its place, slots by a list, and evaluation by the simplifier. -/
import Derived.Test.YtpbgiccloeihcaaTlAA
import Derived.Test.YtpbgiccloeihcaaTmZ
namespace Go.Tl
open Go.RowKit

/-! ### Code by its place. -/
def subC : Code → Nat → Code
  | .seq a _, 0 => a
  | .seq _ b, _ => b
  | .cond _ a _, 0 => a
  | .cond _ _ b, _ => b
  | .block _ c, _ => c
  | .loop c, _ => c
  | .scope c, _ => c
  | .rangeFunc _ _ a _, 0 => a
  | .rangeFunc _ _ _ b, _ => b
  | c, _ => c

def cd (fn : Func) : List Nat → Code
  | [] => fn.body.getD .skip
  | i :: p => subC (cd fn p) i

inductive CK where
  | skip | region (draw : Bool) | seq | cond (c : Operand) | block (id : Nat) | loop | exit (id : Nat) | ret | other

def ck : Code → CK
  | .skip => .skip
  | .region _ _ d => .region d
  | .seq _ _ => .seq
  | .cond c _ _ => .cond c
  | .block id _ => .block id
  | .loop _ => .loop
  | .exit id => .exit id
  | .ret => .ret
  | _ => .other

def opsOf : Code → List Oper
  | .region _ ops _ => ops.toList
  | _ => []

/-! ### Slots by a list. -/
abbrev Lst := List (Nat × M)

def addS (l : Lst) : Option Nat → M → Lst
  | some d, m => (d, m) :: l
  | none, _ => l

/-- The slots that count. -/
def keepE (env : Env) : List Nat → (Lst → Prop) → Prop
  | [], F => F []
  | k :: ks, F => slotK env k fun m => keepE env ks fun r => F ((k, m) :: r)
def keepL (env : Env) (ks : List Nat) : Lst := ks.map fun k => (k, env k)
theorem keepE_eq {env : Env} : ∀ {ks : List Nat} {F : Lst → Prop}, keepE env ks F = F (keepL env ks)
  | [], _ => rfl
  | k :: ks, F => by simp only [keepE, slotK]; rw [keepE_eq]; rfl

theorem leM_keepL {env : Env} {ks : List Nat} : ∀ p ∈ keepL env ks, leM (env p.1) p.2 := by
  intro p hp
  simp only [keepL, List.mem_map] at hp
  obtain ⟨k, _, rfl⟩ := hp
  exact leM_refl _

def dOk (n : Nat) : List Oper → Bool
  | [] => true
  | o :: os => (match o.dst with | some d => decide (d < n) | none => true) && dOk n os

/-- The slot of a test. -/
def dstOf (ops : List Oper) (j : Nat) : Option Tmp := (ops[j]?).bind (·.dst)

/-- A test's slot is not written behind it. -/
def gOk (ops : List Oper) : List Oper → Bool
  | [] => true
  | o :: os => (match o.guard with
    | some (j, _) => (match dstOf ops j with | some t => (o :: os).all fun o => o.dst != some t | none => true)
    | none => true) && gOk ops os

abbrev OV := Env → Tbl → Op → (M → Tbl → Prop) → Prop

/-- Operations in this order; 'as': what is known of tests. -/
def runL (ov : OV) (ops : List Oper) (R : Env → Tbl → Prop) : List (Nat × Bool) → List Oper → Lst → Tbl → Prop
  | _, [], l, T => R (envL l) T
  | as, o :: os, l, T =>
    match o.guard with
    | none => ov (envL l) T o.op fun m T' => runL ov ops R as os (addS l o.dst m) T'
    | some (j, want) => match as.lookup j with
      | some b => if b = want then ov (envL l) T o.op fun m T' => runL ov ops R as os (addS l o.dst m) T' else runL ov ops R as os (addS l o.dst .any) T
      | none => match dstOf ops j with
        | some t => slotK (envL l) t fun m => boolK m fun b => (b = want → ov (envL ((t, .v (.bool want)) :: l)) T o.op fun m T' => runL ov ops R ((j, want) :: as) os (addS ((t, .v (.bool want)) :: l) o.dst m) T') ∧
          (b ≠ want → runL ov ops R ((j, !want) :: as) os (addS ((t, .v (.bool !want)) :: l) o.dst .any) T)
        | none => False

/-- The same, by any slots. -/
def runG (ov : OV) (n : Nat) (ops : Array Oper) (K : Env → Tbl → Prop) : List Oper → Env → Tbl → Prop
  | [], env, T => K env T
  | o :: rest, env, T => guardM ops o env (ov env T o.op fun m T' => runG ov n ops K rest (updO n env o.dst m) T') (runG ov n ops K rest (updO n env o.dst .any) T)

theorem runG_runO {P : Program} {n : Nat} {ops : Array Oper} {K : Env → Tbl → Prop} : ∀ (os : List Oper) (env : Env) (T : Tbl), runG (opV P false) n ops K os env T = runO P n ops K os env T
  | [], _, _ => rfl
  | o :: os, env, T => by simp only [runG, runO, runG_runO os]

/-- Quietly: a load of what was there at the begin alone. -/
def opW (P : Program) (N : Nat) : OV := fun env T o K => if isLoad o = true then loadRef env N o = true ∧ opV P true env T o K else opV P true env T o K

section
variable {P : Program} {n n0 : Nat} {T : Tbl} {Q : Exit → Env → Tbl → Prop} {env : Env}

theorem updO_add {l : Lst} {o : Option Nat} {m : M} (h : (match o with | some d => decide (d < n) | none => true) = true) : updO n (envL l) o m = envL (addS l o m) := by
  cases o with
  | none => rfl
  | some d =>
    simp only [decide_eq_true_eq] at h
    funext k
    simp [updO, upd, addS, envL, h]

theorem boolK_if {m : M} {A B : Prop} {want : Bool} : boolK m (fun b => if b = want then A else B) = boolK m (fun b => (b = want → A) ∧ (b ≠ want → B)) := by
  unfold boolK
  split
  · rename_i b
    by_cases h : b = want <;> simp [h]
  · rfl

theorem addS_env {l : Lst} {t : Nat} {m x : M} {dst : Option Nat} (h : envL l t = m) : envL (addS ((t, m) :: l) dst x) = envL (addS l dst x) := by
  have e : envL ((t, m) :: l) = envL l := by
    funext k
    simp only [envL]
    split
    · rename_i e; rw [e, h]
    · rfl
  cases dst with
  | none => exact e
  | some d => funext k; simp only [addS, envL]; split <;> first | rfl | (have := congrFun e k; simpa [envL] using this)

theorem same_env {l : Lst} {t : Nat} {m : M} (h : envL l t = m) : envL ((t, m) :: l) = envL l := by
  funext k
  simp only [envL]
  split
  · rename_i e; rw [e, h]
  · rfl

theorem addS_get {l : Lst} {d : Option Nat} {t : Nat} {m : M} (h : d ≠ some t) : envL (addS l d m) t = envL l t := by
  cases d with
  | none => rfl
  | some d => simp only [addS, envL]; rw [if_neg (fun e => h (by rw [e]))]

theorem guardG {ops : List Oper} {dst : Option Tmp} {op : Op} {ty : TypeId} {pos : String} {aft : Array Edge} {j : Nat} {want : Bool} {A B : Prop} {env : Env} :
    guardM ⟨ops⟩ ⟨dst, op, ty, pos, aft, some (j, want)⟩ env A B = guardD ops j env want A B := guardK

theorem runL_eq {ov : OV} {ops : List Oper} {R : Env → Tbl → Prop} : ∀ (os : List Oper) (as : List (Nat × Bool)) (l : Lst) (T : Tbl), dOk n os = true → gOk ops os = true →
    (∀ j b, as.lookup j = some b → ∃ t, dstOf ops j = some t ∧ envL l t = .v (.bool b) ∧ ∀ o ∈ os, o.dst ≠ some t) → runL ov ops R as os l T = runG ov n ⟨ops⟩ R os (envL l) T
  | [], as, l, T, _, _, _ => rfl
  | o :: os, as, l, T, hd, hg, hi => by
    simp only [dOk, Bool.and_eq_true] at hd
    have hi' : ∀ m, ∀ j b, as.lookup j = some b → ∃ t, dstOf ops j = some t ∧ envL (addS l o.dst m) t = .v (.bool b) ∧ ∀ o ∈ os, o.dst ≠ some t := fun m j b h => by
      obtain ⟨t, h1, h2, h3⟩ := hi j b h
      exact ⟨t, h1, by rw [addS_get (h3 o (List.mem_cons_self ..))]; exact h2, fun o ho => h3 o (List.mem_cons_of_mem _ ho)⟩
    have hg' : gOk ops os = true := by
      simp only [gOk, Bool.and_eq_true] at hg; exact hg.2
    obtain ⟨dst, op, ty, pos, aft, gd⟩ := o
    simp only [runL]
    simp only at hi'
    cases gd with
    | none =>
      simp only [runG, guardM, updO_add hd.1]
      congr 1; funext m T'
      exact runL_eq os as _ _ hd.2 hg' (hi' m)
    | some g =>
      obtain ⟨j, want⟩ := g
      simp only [runG]
      rw [guardG]
      unfold guardD
      have hdst : (ops[j]?).bind (·.dst) = dstOf ops j := rfl
      rw [hdst]
      have go1 : (ov (envL l) T op fun m T' => runL ov ops R as os (addS l dst m) T') = (ov (envL l) T op fun m T' => runG ov n ⟨ops⟩ R os (updO n (envL l) dst m) T') := by
        simp only [updO_add hd.1]
        congr 1; funext m T'
        exact runL_eq os as _ _ hd.2 hg' (hi' m)
      cases hlk : as.lookup j with
      | some b =>
        obtain ⟨t, h1, h2, h3⟩ := hi j b hlk
        simp only [h1, slotK, h2, boolK]
        by_cases hb : b = want
        · rw [if_pos hb, if_pos hb]; exact go1
        · rw [if_neg hb, if_neg hb, updO_add hd.1]
          exact runL_eq os as _ _ hd.2 hg' (hi' _)
      | none =>
        cases hj : dstOf ops j with
        | none => rfl
        | some t =>
          simp only [slotK]
          have hne : ∀ o ∈ (⟨dst, op, ty, pos, aft, some (j, want)⟩ : Oper) :: os, o.dst ≠ some t := by
            simp only [gOk, hj, Bool.and_eq_true] at hg
            intro o ho
            have := List.all_eq_true.1 hg.1 o ho
            simpa using this
          have hdne : dst ≠ some t := hne _ (List.mem_cons_self ..)
          have hi2 : ∀ b, envL l t = .v (.bool b) → ∀ m, ∀ j' b', ((j, b) :: as).lookup j' = some b' → ∃ t, dstOf ops j' = some t ∧ envL (addS l dst m) t = .v (.bool b') ∧ ∀ o ∈ os, o.dst ≠ some t := fun b hb m j' b' h => by
            by_cases e : j' = j
            · subst e
              simp only [List.lookup_cons, beq_self_eq_true, Option.some.injEq] at h
              subst h
              exact ⟨t, hj, by rw [addS_get hdne]; exact hb, fun o ho => hne o (List.mem_cons_of_mem _ ho)⟩
            · have : (j' == j) = false := by simpa using e
              simp only [List.lookup_cons, this] at h
              exact hi' m j' b' h
          cases hm : envL l t with
          | v x =>
            cases x with
            | bool b =>
              simp only [boolK]
              apply propext
              have yes : b = want → (ov (envL ((t, .v (.bool want)) :: l)) T op fun m T' => runL ov ops R ((j, want) :: as) os (addS ((t, .v (.bool want)) :: l) dst m) T') = (ov (envL l) T op fun m T' => runG ov n ⟨ops⟩ R os (updO n (envL l) dst m) T') := fun hb => by
                subst hb
                rw [same_env hm]
                simp only [updO_add hd.1]
                congr 1; funext m T'
                rw [runL_eq os _ _ _ hd.2 hg' ?_, addS_env hm]
                intro j' b' h
                obtain ⟨t', h1, h2, h3⟩ := hi2 b hm m j' b' h
                exact ⟨t', h1, by rw [addS_env hm]; exact h2, h3⟩
              have no : ¬ b = want → runL ov ops R ((j, !want) :: as) os (addS ((t, .v (.bool !want)) :: l) dst .any) T = runG ov n ⟨ops⟩ R os (updO n (envL l) dst .any) T := fun hb => by
                have hb' : (!want) = b := by cases b <;> cases want <;> simp_all
                rw [hb', updO_add hd.1]
                rw [runL_eq os _ _ _ hd.2 hg' ?_, addS_env hm]
                intro j' b' h
                obtain ⟨t', h1, h2, h3⟩ := hi2 b hm .any j' b' h
                exact ⟨t', h1, by rw [addS_env hm]; exact h2, h3⟩
              by_cases hb : b = want
              · rw [if_pos hb, ← yes hb]
                exact ⟨fun h => h.1 hb, fun h => ⟨fun _ => h, fun h' => absurd hb h'⟩⟩
              · rw [if_neg hb, ← no hb]
                exact ⟨fun h => h.2 hb, fun h => ⟨fun h' => absurd h' hb, fun _ => h⟩⟩
            | _ => rfl
          | _ => rfl
end

section
variable {P : Program} {n n0 : Nat} {T : Tbl} {Q : Exit → Env → Tbl → Prop} {env : Env} {fn : Func} {p : List Nat}

theorem WpC.kept {c : Code} {ks : List Nat} (h : keepE env ks fun l => WpC P n n0 c Q (envL l) T) : WpC P n n0 c Q env T := by
  rw [keepE_eq] at h
  exact h.gh (Gh.envL leM_keepL)

theorem thenM_keep {next : Env → Tbl → Prop} {R : Exit → Env → Tbl → Prop} : thenM next R .normal env T = next env T := rfl

/-- A place as a number. -/
def pn : List Nat → Nat
  | [] => 1
  | i :: p => 2 * pn p + i

theorem WpC.seqC (lv : Nat → List Nat) (h : ck (cd fn p) = .seq) (h' : WpC P n n0 (cd fn (0 :: p)) (thenM (fun env T => keepE env (lv (pn (1 :: p))) fun l => WpC P n n0 (cd fn (1 :: p)) Q (envL l) T) Q) env T) : WpC P n n0 (cd fn p) Q env T := by
  unfold cd at h'
  generalize cd fn p = c at h h'
  cases c <;> simp only [ck, reduceCtorEq] at h
  refine WpC.seq (h'.mono fun e env T hq => ?_)
  cases e <;> simp only [thenM] at hq ⊢
  · exact WpC.kept hq
  all_goals exact hq

theorem WpC.skipC (h : ck (cd fn p) = .skip) (h' : Q .normal env T) : WpC P n n0 (cd fn p) Q env T := by
  generalize cd fn p = c at h
  cases c <;> simp only [ck, reduceCtorEq] at h
  exact WpC.skip h'

theorem WpC.retC (h : ck (cd fn p) = .ret) (h' : Q .ret env T) : WpC P n n0 (cd fn p) Q env T := by
  generalize cd fn p = c at h
  cases c <;> simp only [ck, reduceCtorEq] at h
  exact WpC.ret h'

theorem WpC.exitC {id : Nat} (h : ck (cd fn p) = .exit id) (h' : Q (.exit id) env T) : WpC P n n0 (cd fn p) Q env T := by
  generalize cd fn p = c at h
  cases c <;> simp only [ck, reduceCtorEq, CK.exit.injEq] at h
  subst h
  exact WpC.exit h'

theorem WpC.blockC {id : Nat} (h : ck (cd fn p) = .block id) (h' : WpC P n n0 (cd fn (0 :: p)) (blockM id Q) env T) : WpC P n n0 (cd fn p) Q env T := by
  unfold cd at h'
  generalize cd fn p = c at h h'
  cases c <;> simp only [ck, reduceCtorEq, CK.block.injEq] at h
  subst h
  exact WpC.block h'

theorem WpC.condC {c : Operand} (h : ck (cd fn p) = .cond c) (h' : evK env c fun m => boolK m fun b => (b = true → WpC P n n0 (cd fn (0 :: p)) Q env T) ∧ (b = false → WpC P n n0 (cd fn (1 :: p)) Q env T)) : WpC P n n0 (cd fn p) Q env T := by
  unfold cd evK boolK at h'
  generalize cd fn p = c at h h'
  cases c <;> simp only [ck, reduceCtorEq, CK.cond.injEq] at h
  subst h
  split at h'
  · rename_i b hb
    exact WpC.condB b hb h'.1 h'.2
  · exact h'.elim

theorem WpC.reg {l : Lst} {id : Nat} {ops : List Oper} (hc : cd fn p = .region id ⟨ops⟩ false) (hd : (dOk n ops && gOk ops ops) = true) (h : runL (opV P false) ops (Q .normal) [] ops l T) : WpC P n n0 (cd fn p) Q (envL l) T := by
  rw [hc]
  simp only [Bool.and_eq_true] at hd
  rw [runL_eq ops [] l T hd.1 hd.2 (fun _ _ h => by simp at h), runG_runO] at h
  exact WpC.region h

theorem WpC.regP {l : Lst} {id : Nat} {ops : List Oper} (hc : cd fn p = .region id ⟨ops⟩ true) (hd : (dOk n ops && gOk ops ops) = true) (hm : P.follows .mixedOrders = true) (hs : Region.noSelect ⟨ops⟩ = true) (hok : pureOk ⟨ops⟩ ops.length 0 (Array.replicate ops.length false) = true)
    (h : runL (opV P false) ops (fun env T' => Q .normal env T' ∧ T' = T) [] ops l T) : WpC P n n0 (cd fn p) Q (envL l) T := by
  rw [hc]
  simp only [Bool.and_eq_true] at hd
  rw [runL_eq ops [] l T hd.1 hd.2 (fun _ _ h => by simp at h), runG_runO] at h
  exact WpC.pure hm hs hok h

/-- One by one, in this order. -/
def planOf (q : Bool) (ops : List Oper) : List Nat → Plan
  | [] => .done
  | i :: is => if (match ops[i]? with | some o => flatKind o.op || (q && isLoad o.op) | none => false) = true then .tk i (planOf q ops is) else .all [(i, planOf q ops is)]

def pickO (ops : List Oper) (is : List Nat) : List Oper := is.filterMap (ops[·]?)

theorem wpP_planOf {ops : List Oper} {N : Nat} {K : Env → Tbl → Prop} : ∀ (is : List Nat) (env : Env) (T : Tbl), is.all (· < ops.length) = true → wpP P n ⟨ops⟩ false N K (planOf false ops is) env T = runG (opV P false) n ⟨ops⟩ K (pickO ops is) env T
  | [], env, T, _ => by simp [planOf, wpP, pickO, runG]
  | i :: is, env, T, hl => by
    simp only [List.all_cons, Bool.and_eq_true, decide_eq_true_eq] at hl
    have hi : ops[i]? = some ops[i] := List.getElem?_eq_getElem hl.1
    have hi' : (⟨ops⟩ : Array Oper)[i]? = some ops[i] := by simp
    have e : pickO ops (i :: is) = ops[i] :: pickO ops is := by simp [pickO, hi]
    have ih : ∀ env T, wpP P n ⟨ops⟩ false N K (planOf false ops is) env T = runG (opV P false) n ⟨ops⟩ K (pickO ops is) env T := fun env T => wpP_planOf is env T hl.2
    rw [e]
    unfold planOf
    rw [hi]
    simp only [runG, Bool.false_and, Bool.or_false]
    split
    · rename_i hf
      simp only [wpP, hi', hf, true_or, true_and, ih]
    · simp only [wpP, wpPL, hi', and_true, ih]

theorem flat_load {o : Op} (h : flatKind o = true) : isLoad o = false := by cases o <;> simp [flatKind, isLoad] at h ⊢

theorem wpP_planOfQ {ops : List Oper} {N : Nat} {K : Env → Tbl → Prop} : ∀ (is : List Nat) (env : Env) (T : Tbl), is.all (· < ops.length) = true → wpP P n ⟨ops⟩ true N K (planOf true ops is) env T = runG (opW P N) n ⟨ops⟩ K (pickO ops is) env T
  | [], env, T, _ => by simp [planOf, wpP, pickO, runG]
  | i :: is, env, T, hl => by
    simp only [List.all_cons, Bool.and_eq_true, decide_eq_true_eq] at hl
    have hi : ops[i]? = some ops[i] := List.getElem?_eq_getElem hl.1
    have hi' : (⟨ops⟩ : Array Oper)[i]? = some ops[i] := by simp
    have e : pickO ops (i :: is) = ops[i] :: pickO ops is := by simp [pickO, hi]
    have ih : ∀ env T, wpP P n ⟨ops⟩ true N K (planOf true ops is) env T = runG (opW P N) n ⟨ops⟩ K (pickO ops is) env T := fun env T => wpP_planOfQ is env T hl.2
    rw [e]
    unfold planOf
    rw [hi]
    simp only [runG, Bool.true_and]
    split
    · rename_i hf
      simp only [Bool.or_eq_true] at hf
      simp only [wpP, hi', ih, opW]
      rcases hf with hf | hf
      · simp only [hf, true_or, true_and, flat_load hf, Bool.false_eq_true, if_false]
      · have hnf : flatKind (ops[i]).op = false := by
          cases h : flatKind (ops[i]).op with
          | false => rfl
          | true => rw [flat_load h] at hf; cases hf
        simp only [hf, hnf, if_true, Bool.false_eq_true, false_or]
    · rename_i hf
      have hl : isLoad (ops[i]).op = false := by
        cases h : isLoad (ops[i]).op with
        | false => rfl
        | true => simp [h] at hf
      simp only [wpP, wpPL, hi', and_true, ih, opW, hl, Bool.false_eq_true, if_false]

theorem WpC.regI (dr : Nat → List Nat) {is : List Nat} {l : Lst} {id : Nat} {ops : List Oper} (hc : cd fn p = .region id ⟨ops⟩ true) (his : dr id = is) (hd : (dOk n (pickO ops is) && gOk ops (pickO ops is) && is.all (· < ops.length) && Region.noSelect ⟨ops⟩ && planOk ⟨ops⟩ false ops.length (planOf false ops is) (Array.replicate ops.length false)) = true)
    (hm : P.follows .mixedOrders = true) (h : runL (opV P false) ops (Q .normal) [] (pickO ops is) l T) : WpC P n n0 (cd fn p) Q (envL l) T := by
  rw [hc]
  simp only [Bool.and_eq_true] at hd
  obtain ⟨⟨⟨⟨h1, h2⟩, h3⟩, h4⟩, h5⟩ := hd
  rw [runL_eq _ [] l T h1 h2 (fun _ _ h => by simp at h), ← wpP_planOf (N := T.length) is _ _ h3] at h
  exact WpC.draw false (planOf false ops is) hm h4 h5 h

theorem WpC.regQ (dr : Nat → List Nat) {is : List Nat} {l : Lst} {id : Nat} {ops : List Oper} (hc : cd fn p = .region id ⟨ops⟩ true) (his : dr id = is) (hd : (dOk n (pickO ops is) && gOk ops (pickO ops is) && is.all (· < ops.length) && Region.noSelect ⟨ops⟩ && planOk ⟨ops⟩ true ops.length (planOf true ops is) (Array.replicate ops.length false)) = true)
    (hm : P.follows .mixedOrders = true) (h : runL (opW P T.length) ops (Q .normal) [] (pickO ops is) l T) : WpC P n n0 (cd fn p) Q (envL l) T := by
  rw [hc]
  simp only [Bool.and_eq_true] at hd
  obtain ⟨⟨⟨⟨h1, h2⟩, h3⟩, h4⟩, h5⟩ := hd
  rw [runL_eq _ [] l T h1 h2 (fun _ _ h => by simp at h), ← wpP_planOfQ (N := T.length) is _ _ h3] at h
  exact WpC.draw true (planOf true ops is) hm h4 h5 h

theorem pickO_append (ops : List Oper) (a b : List Nat) : pickO ops (a ++ b) = pickO ops a ++ pickO ops b := List.filterMap_append ..

/-- What only reads, first; then one by one. -/
theorem WpC.regM (dm : Nat → List Nat × List Nat) {pre rest : List Nat} {l : Lst} {id : Nat} {ops : List Oper} (hc : cd fn p = .region id ⟨ops⟩ true) (his : dm id = (pre, rest))
    (hd : (dOk n (pickO ops (pre ++ rest)) && gOk ops (pickO ops (pre ++ rest)) && rest.all (· < ops.length) && Region.noSelect ⟨ops⟩ && waitAll ⟨ops⟩ pre && preOk ⟨ops⟩ pre (Array.replicate ops.length false) && decide (pre.length ≤ ops.length) &&
      planOk ⟨ops⟩ false (ops.length - pre.length) (planOf false ops rest) (listAll pre (Array.replicate ops.length false))) = true)
    (hm : P.follows .mixedOrders = true) (h : runL (opV P false) ops (Q .normal) [] (pickO ops (pre ++ rest)) l T) : WpC P n n0 (cd fn p) Q (envL l) T := by
  rw [hc]
  simp only [Bool.and_eq_true, decide_eq_true_eq] at hd
  obtain ⟨⟨⟨⟨⟨⟨⟨h1, h2⟩, h3⟩, h4⟩, h5⟩, h6⟩, h7⟩, h8⟩ := hd
  rw [runL_eq _ [] l T h1 h2 (fun _ _ h => by simp at h), pickO_append, runG_runO] at h
  intro A w0 β0 T0 a w hn hS
  obtain ⟨g1, g2, β, g3, g4⟩ := hS
  have hdr := g3.drew
  have hSd : SatB A w0 β0 T0 n (envL l) T a { w with drawn := w.drawn + 1 } β := ⟨g1, g2, hdr.post, fun k => hdr.rep (g4 k)⟩
  have hcl : Closed ⟨ops⟩ (Array.replicate ops.length false) := fun j hj => by
    have e : (Array.replicate ops.length false).getD j false = false := by
      simp only [Array.getD_eq_getD_getElem?, Array.getElem?_replicate]
      split <;> rfl
    rw [e] at hj
    cases hj
  have := runO_pre (P := P) (K := Q .normal) (R := fun a w => ∃ env T, Q .normal env T ∧ Sat A w0 β0 T0 n env T a w) (pre := pre) h4 h5 (pickO ops rest) (fun env a listed fuel hS' hr hf hl => by
    refine wpAny_of_held _ _ _ _ (wpP_ok (q := false) (w1 := { w with drawn := w.drawn + 1 }) (N := T.length) (K := Q .normal) h4 (fun env T a w β hK hs => ⟨env, T, hK, hs.sat⟩) (planOf false ops rest) fuel listed env T a _ β ?_ hS' (fun hq => by cases hq) ?_)
    · rw [hf, hl]; exact h8
    · rw [wpP_planOf rest _ _ h3, runG_runO]; exact hr) pre [] ops.length _ (envL l) a rfl rfl (by simp) (by simpa using h7) hcl h6 hSd (by simp) (by simpa [pickO] using h)
  refine wp_mono (wp_region_any (Q := fun e a w => e = .normal ∧ ∃ env T, Q .normal env T ∧ Sat A w0 β0 T0 n env T a w) hm (wpAny_of_Z _ _ _ _ this)) fun e a w hq => ?_
  obtain ⟨rfl, hq⟩ := hq
  exact hq

theorem WpC.loopC {σ : Type} (h : ck (cd fn p) = .loop) (I : σ → Prop) (st : σ → Lst × Tbl) (μ : σ → Nat) (s0 : σ) (hI : I s0) (h0 : Gh n0 env T (envL (st s0).1) (st s0).2)
    (round : ∀ s, I s → ∀ R : Exit → Env → Tbl → Prop, (∀ s' env T, I s' → Gh n0 env T (envL (st s').1) (st s').2 → μ s' < μ s → R .normal env T) → (∀ e env T, e ≠ .normal → Q e env T → R e env T) →
      WpC P n n0 (cd fn (0 :: p)) R (envL (st s).1) (st s).2) : WpC P n n0 (cd fn p) Q env T := by
  unfold cd at round
  generalize cd fn p = c at h round
  cases c <;> simp only [ck, reduceCtorEq] at h
  exact WpC.loopA I (fun s => (envL (st s).1, (st s).2)) μ s0 hI h0 round

def argL : Nat → List M → Lst
  | _, [] => []
  | i, m :: ms => (i, m) :: argL (i + 1) ms

theorem argL_get : ∀ (i : Nat) (ms : List M) (k : Nat), envL (argL i ms) k = if i ≤ k then ms.getD (k - i) .any else .any
  | i, [], k => by simp [argL, envL]
  | i, m :: ms, k => by
    simp only [argL, envL, argL_get (i + 1) ms k]
    by_cases h : k = i
    · subst h; simp
    · rw [if_neg h]
      by_cases h' : i ≤ k
      · rw [if_pos h', if_pos (by omega)]
        have : k - i = (k - (i + 1)) + 1 := by omega
        rw [this]; simp
      · rw [if_neg h', if_neg (by omega)]

theorem argL_env (ms : List M) : envL (argL 0 ms) = argEnv ms := by
  funext k
  rw [argL_get]
  simp [argEnv]

theorem Con.of {f : FuncId} {args : List M} {K : M → Tbl → Prop} (hf : P.funcs[f]? = some fn) (he : enterable P f = true) (hb : fn.body.isSome = true) (hn : args.length ≤ fn.ntmps)
    (h : ∀ R : Exit → Env → Tbl → Prop, (∀ env T', resL P env T' fn.results.toList (fun ms => ∃ env' T'', Gh T.length (fun _ => tupM ms) T' env' T'' ∧ K (env' 0) T'') → R .ret env T' ∧ R .normal env T') → WpC P fn.ntmps T.length (cd fn []) R (envL (argL 0 args)) T) : Con P f args T K := by
  rw [argL_env] at h
  obtain ⟨c, hc⟩ := Option.isSome_iff_exists.1 hb
  have e : cd fn [] = c := by simp [cd, hc]
  rw [e] at h
  exact Con.of_wpA he hf hc hn h
end
end Go.Tl
