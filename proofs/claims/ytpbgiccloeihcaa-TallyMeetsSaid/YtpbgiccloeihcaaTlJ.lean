/- The tree logic, part J: rows of operations, in the text's order and in any. -/
import Derived.Test.YtpbgiccloeihcaaTlI
import Derived.OrdersHeld
namespace Go.Tl
open Go.RowKit

/-- An operation under its guard. -/
def guardM (ops : Array Oper) (o : Oper) (env : Env) (yes no : Prop) : Prop :=
  match o.guard with
  | none => yes
  | some (j, want) => match (ops[j]?).bind (·.dst) with
    | some t => (match env t with | .v (.bool b) => if b = want then yes else no | _ => False)
    | none => False

/-- A region's operations in the text's order. -/
def runO (P : Program) (n : Nat) (ops : Array Oper) (K : Env → Tbl → Prop) : List Oper → Env → Tbl → Prop
  | [], env, T => K env T
  | o :: rest, env, T => guardM ops o env (opV P false env T o.op fun m T' => runO P n ops K rest (updO n env o.dst m) T') (runO P n ops K rest (updO n env o.dst .any) T)

/-- Operations that ask nothing of the world. -/
def flatKind : Op → Bool
  | .move _ | .assign _ | .pick .. | .build .. | .nilCheck _ | .binOp .. | .unOp .. | .convert .. | .makeFunc .. | .slice .. | .fieldAddr .. | .indexAddr .. | .field .. | .index .. | .extract .. => true
  | .call { callee := .builtin b, .. } => (match b with | .len | .min | .max => true | _ => false)
  | _ => false

/-- A load of a block that was there when the region began. -/
def loadRef (env : Env) (N : Nat) : Op → Bool
  | .load _ a => (match ev env a with | .ref id _ => decide (id < N) | _ => false)
  | _ => false

section
variable {P : Program} {q : Bool} {A : Nat → Prop} {w0 : World} {β0 : Nat → Option Nat} {T0 : Tbl} {w : World} {β : Nat → Option Nat} {T : Tbl} {K : M → Tbl → Prop}

abbrev EnvR (A : Nat → Prop) (w0 w : World) (β : Nat → Option Nat) (T : Tbl) (env : Env) (a : Act) : Prop := ∀ k, RepS A w0 w β T (env k) (a.tmps.getD k undef)

theorem EnvR.put {env : Env} {a : Act} {n : Nat} {dst : Option Tmp} {m : M} {x : Value} (h : EnvR A w0 w β T env a) (hn : a.tmps.size = n) (hm : RepS A w0 w β T m x) : EnvR A w0 w β T (updO n env dst m) (a.put dst x) := by
  cases dst with
  | none => exact h
  | some d =>
    intro k
    simp only [updO, upd, Act.put]
    by_cases hk : d < n ∧ k = d
    · obtain ⟨hd, rfl⟩ := hk
      rw [if_pos ⟨hd, rfl⟩]
      have : (a.tmps.setIfInBounds k x).getD k undef = x := by simp [hn, hd]
      rw [this]; exact hm
    · rw [if_neg hk]
      have : (a.tmps.setIfInBounds d x).getD k undef = a.tmps.getD k undef := by
        by_cases e : k = d
        · subst e
          have hd : ¬ k < a.tmps.size := by rw [hn]; exact fun h => hk ⟨h, rfl⟩
          simp [hd]
        · simp [Array.getElem?_setIfInBounds_ne (Ne.symm e)]
      rw [this]; exact h k

theorem put_size {a : Act} {dst : Option Tmp} {x : Value} : (a.put dst x).tmps.size = a.tmps.size := by cases dst <;> simp [Act.put]
theorem put_defers {a : Act} {dst : Option Tmp} {x : Value} : (a.put dst x).defers = a.defers := by cases dst <;> rfl

theorem EnvR.move {env : Env} {a : Act} {w' : World} {β' : Nat → Option Nat} {T' : Tbl} (h : EnvR A w0 w β T env a) (hm : Move A w0 β0 T0 w β T w' β' T') : EnvR A w0 w' β' T' env a := fun k => hm.rep (h k)

/-- A state whose numbering is in sight. -/
structure SatB (A : Nat → Prop) (w0 : World) (β0 : Nat → Option Nat) (T0 : Tbl) (n : Nat) (env : Env) (T : Tbl) (a : Act) (w : World) (β : Nat → Option Nat) : Prop where
  defers : a.defers = []
  size : a.tmps.size = n
  post : Post A w0 β0 T0 w β T
  env : EnvR A w0 w β T env a

theorem SatB.sat {n : Nat} {env : Env} {a : Act} (h : SatB A w0 β0 T0 n env T a w β) : Sat A w0 β0 T0 n env T a w := ⟨h.defers, h.size, β, h.post, h.env⟩

/-- One operation, carried out. -/
theorem oper_wp {n : Nat} {env : Env} {a : Act} {ops : Array Oper} {o : Oper} {R : Env → Tbl → Prop} {C : Act → World → Prop} {Q : Exit → Act → World → Prop} (hS : SatB A w0 β0 T0 n env T a w β)
    (h : guardM ops o env (opV P q env T o.op fun m T' => R (updO n env o.dst m) T') (R (updO n env o.dst .any) T))
    (hC : ∀ env' T' a' w' β', R env' T' → SatB A w0 β0 T0 n env' T' a' w' β' → Lasts w β (okB w β T w0.heap.size A) T w' β' (okB w' β' T' w0.heap.size A) T' → (q = true → ∀ k, k < w.heap.size → w'.heap[k]? = w.heap[k]?) → C a' w') :
    if Region.wanted o (yielded ops a.tmps) = true then o.wp P a w C Q else C (a.put o.dst undef) w := by
  have skip : R (updO n env o.dst .any) T → C (a.put o.dst undef) w := fun hR =>
    hC _ _ _ _ β hR ⟨put_defers.trans hS.defers, put_size.trans hS.size, hS.post, hS.env.put hS.size (by simp [RepS, Rep])⟩ (Move.refl hS.post).last (fun _ _ _ => rfl)
  have take : opV P q env T o.op (fun m T' => R (updO n env o.dst m) T') → o.wp P a w C Q := fun hV => by
    have ho := opV_out (P := P) (q := q) hS.post hS.env hV
    unfold Oper.wp
    generalize (execOp a.eval o).run P w = r at ho
    cases r with
    | ok nx w' =>
      cases nx <;> simp only [Out] at ho <;> try exact ho.elim
      case value x =>
        obtain ⟨m, T', β', h1, h2, h3, h4⟩ := ho
        exact hC _ _ _ _ β' h1 ⟨put_defers.trans hS.defers, put_size.trans hS.size, h2.post, (hS.env.move h2).put hS.size h3⟩ h2.last h4
      case skip =>
        obtain ⟨T', β', h1, h2, h4⟩ := ho
        exact hC _ _ _ _ β' h1 ⟨put_defers.trans hS.defers, put_size.trans hS.size, h2.post, (hS.env.move h2).put hS.size (by simp [RepS, Rep])⟩ h2.last h4
      case enter f args =>
        obtain ⟨rfl, hc⟩ := ho
        refine hc.mono fun e w'' he => ?_
        obtain ⟨x, m, T', β', rfl, h1, h2, h3, h4⟩ := he
        exact hC _ _ _ _ β' h1 ⟨put_defers.trans hS.defers, put_size.trans hS.size, h2.post, (hS.env.move h2).put hS.size h3⟩ h2.last h4
    | halt x w' => simp only [Out] at ho
  unfold guardM at h
  split at h
  · rename_i hg
    rw [if_pos (by simp [Region.wanted, hg])]
    exact take h
  · rename_i j want hg
    split at h
    · rename_i t ht
      split at h
      · rename_i b hb
        have hv := hS.env t
        rw [hb] at hv
        simp only [RepS, Rep] at hv
        have htn : t < a.tmps.size := by
          rcases Nat.lt_or_ge t a.tmps.size with hlt | hge
          · exact hlt
          · simp [Array.getElem?_eq_none hge, undef] at hv
        have hv' : a.tmps[t]? = some (.bool b) := by
          simp [htn] at hv
          rw [Array.getElem?_eq_getElem htn, hv]
        have hy : yielded ops a.tmps j = some b := by simp [yielded, ht, hv']
        have hw : Region.wanted o (yielded ops a.tmps) = (some b == some want) := by simp [Region.wanted, hg, hy]
        rw [hw]
        split at h
        · rename_i e; subst e; rw [if_pos (by simp)]; exact take h
        · rename_i e
          rw [if_neg (by simp; exact e)]; exact skip h
      · exact h.elim
    · exact h.elim

/-- The text's order. -/
theorem runO_ok {n : Nat} {ops : Array Oper} {K : Env → Tbl → Prop} {Q : Exit → Act → World → Prop} (hQ : ∀ env T a w β, K env T → SatB A w0 β0 T0 n env T a w β → Q .normal a w) :
    ∀ (l : List Oper) (env : Env) (T : Tbl) (a : Act) (w : World) (β : Nat → Option Nat), SatB A w0 β0 T0 n env T a w β → runO P n ops K l env T → wpList P ops Q l a w
  | [], env, T, a, w, β, hS, h => hQ env T a w β h hS
  | o :: rest, env, T, a, w, β, hS, h => by
    refine wpList_step fun C hC => ?_
    have := oper_wp (P := P) (q := false) (Q := Q) (C := C) (R := fun env' T' => runO P n ops K rest env' T') hS h (fun env' T' a' w' β' hr hs _ _ => hC _ _ (runO_ok hQ rest env' T' a' w' β' hs hr))
    by_cases hw : Region.wanted o (yielded ops a.tmps) = true
    · rw [if_pos hw] at this ⊢; exact this
    · rw [if_neg hw] at this ⊢; exact this
end
end Go.Tl
