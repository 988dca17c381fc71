/- The tree logic, part C: the operations one by one, and that what is said of each is so. -/
import Derived.Test.YtpbgiccloeihcaaTlB
namespace Go.Tl
open Go.RowKit

/-- What is known of an operand. -/
def ev (env : Env) : Operand → M
  | .tmp t => env t
  | .const (.agg cs) => .agg (cs.toList.map .v)
  | .const x => .v x
  | .global _ => .any
  | .func f => .fn (.func f) [] []

/-- What a type's values are made of: one cell; a struct: where each field lies and its size; an array: length, an element's size; a slice: an element's size, its bytes, its zero. -/
inductive LK where
  | one
  | st (ps : List (Nat × Nat)) (ags : List Bool)
  | ar (n e : Nat) (ag : Bool)
  | sl (e bytes : Nat) (ez : List Value)
  deriving Inhabited

def aggD : TypeDesc → Bool
  | .struct _ | .array _ _ => true
  | _ => false

def layK (P : Program) : TypeDesc → Option LK
  | .struct fs => (fs.toList.mapM fun f => (P.info? f.type).map fun j => (f.offset, j.size)).bind fun ps => (fs.toList.mapM fun f => (P.underlying f.type).map aggD).map fun ags => .st ps ags
  | .array n e => (P.info? e).bind fun j => (P.underlying e).map fun d => .ar n j.size (aggD d)
  | .slice e => (P.info? e).bind fun j => j.zero.map fun z => .sl j.size j.bytes z.cells.toList
  | _ => some .one

def lay (P : Program) (t : TypeId) : Option (LK × Nat × List Value) :=
  (P.underlying t).bind fun d => (P.info? t).bind fun i => i.zero.bind fun z => (layK P d).map fun k => (k, i.size, z.cells.toList)

/-- It is one cell's value, and it is known which. -/
def oneCell (T : Tbl) : M → Bool
  | .v (.agg _) | .v (.tuple _) => false
  | .v _ | .sl .. | .ip .. | .sx | .fn .. | .ifc .. => true
  | .ref id _ | .sr id _ _ _ => match T[id]? with | some (.cells _ _) => true | _ => false
  | _ => false

/-- The cells of a value that is to be stored. -/
def cellsOf (T : Tbl) : M → Option (List M)
  | .agg cs => some cs
  | m => if oneCell T m then some [m] else none

def fillM (T : Tbl) (place : Nat → Option (Nat × Nat)) (cells : List M) : List (Nat × M) → Option (List M)
  | [] => some cells
  | (i, m) :: rest =>
    match place i, cellsOf T m with
    | some (off, size), some cs => if cs.length = size ∧ off + size ≤ cells.length then fillM T place (cells.take off ++ cs ++ cells.drop (off + size)) rest else none
    | _, _ => none

/-- The cells behind an address. -/
def behind (T : Tbl) : M → Option (List M × Nat)
  | .ref id off => match T[id]? with | some (.cells _ cs) => some (cs, off) | _ => none
  | .ip _ cells off => some (cells, off)
  | _ => none

def vBin (op : BinOp) : Value → Value → Option Value
  | .int k a, .int k' b =>
    match op with
    | .shl => if b < 0 then none else some (.int k (k.wrap (a * 2 ^ min b.toNat k.bits)))
    | .shr => if b < 0 then none else some (.int k (a.fdiv (2 ^ min b.toNat k.bits)))
    | .add => if k = k' then some (.int k (k.wrap (a + b))) else none
    | .sub => if k = k' then some (.int k (k.wrap (a - b))) else none
    | .mul => if k = k' then some (.int k (k.wrap (a * b))) else none
    | .quo => if k = k' ∧ b ≠ 0 then some (.int k (k.wrap (a.tdiv b))) else none
    | .rem => if k = k' ∧ b ≠ 0 then some (.int k (a.tmod b)) else none
    | .and => if k = k' then some (.int k (k.wrap (BitVec.ofInt k.bits a &&& BitVec.ofInt k.bits b).toNat)) else none
    | .or => if k = k' then some (.int k (k.wrap (BitVec.ofInt k.bits a ||| BitVec.ofInt k.bits b).toNat)) else none
    | .xor => if k = k' then some (.int k (k.wrap (BitVec.ofInt k.bits a ^^^ BitVec.ofInt k.bits b).toNat)) else none
    | .andNot => if k = k' then some (.int k (k.wrap (BitVec.ofInt k.bits a &&& ~~~ BitVec.ofInt k.bits b).toNat)) else none
    | .eql => if k = k' then some (.bool (a == b)) else none
    | .neq => if k = k' then some (.bool (a != b)) else none
    | .lss => if k = k' then some (.bool (a < b)) else none
    | .leq => if k = k' then some (.bool (a ≤ b)) else none
    | .gtr => if k = k' then some (.bool (a > b)) else none
    | .geq => if k = k' then some (.bool (a ≥ b)) else none
  | .string a, .string b =>
    match op with
    | .add => if a.size + b.size ≤ 9223372036854775807 then some (.string (a ++ b)) else none
    | .eql => some (.bool (a.toList == b.toList))
    | .neq => some (.bool (!(a.toList == b.toList)))
    | .lss => some (.bool (Op.bytesLess a.toList b.toList))
    | .leq => some (.bool (Op.bytesLess a.toList b.toList || a.toList == b.toList))
    | .gtr => some (.bool (!(Op.bytesLess a.toList b.toList || a.toList == b.toList)))
    | .geq => some (.bool (!(Op.bytesLess a.toList b.toList)))
    | _ => none
  | _, _ => none

theorem vBin_run {P : Program} {op : BinOp} {x y z : Value} (t : TypeId) (h : vBin op x y = some z) (w : World) : (binOp op t x y).run P w = .ok z w := by
  unfold vBin at h
  split at h
  · rename_i k a k' b
    cases op <;> simp only [] at h
    all_goals (first
      | (split at h
         · cases h
         · rename_i hc
           simp only [Option.some.injEq] at h
           subst h
           simp [binOp, Op.shift, hc])
      | (split at h
         · rename_i hc
           simp only [Option.some.injEq] at h
           subst h
           first
             | (subst hc; simp [binOp, Op.intArith, Op.intBits, Op.intCmp])
             | (obtain ⟨rfl, hb⟩ := hc; simp [binOp, Op.intDiv, hb])
         · cases h)
      | (cases h; done))
  · rename_i a b
    cases op <;> simp only [] at h
    all_goals (first
      | (split at h
         · rename_i hc
           simp only [Option.some.injEq] at h
           subst h
           have : ¬ (((a.size + b.size : Nat) : Int) > IntKind.i64.max) := by simp [IntKind.max, IntKind.signed, IntKind.bits]; omega
           simp only [binOp, Op.stringOp, if_neg this]
           rfl
         · cases h)
      | (simp only [Option.some.injEq] at h; subst h; simp [binOp, Op.stringOp])
      | (cases h; done))
  · cases h

theorem eqGuard_run {P : Program} (op : BinOp) (t : TypeId) (x y : Operand) (a b : Value) (hn : (a = .nilIface → b ≠ .nilIface)) (ha : ∀ xs ys, a = .agg xs → b ≠ .agg ys) (w : World) :
    (eqGuard op t x y a b).run P w = .ok () w := by
  cases op <;> first
    | rfl
    | (unfold eqGuard
       simp only [Bool.not_true, Bool.false_eq_true, if_false]
       first
         | rfl
         | (split
            · exact absurd rfl (hn rfl)
            · exact absurd rfl (ha _ _ rfl)
            · rfl))

/-- An operation that yields a value. -/
def Yld (P : Program) (q : Bool) (s : Sem Value) (A : Nat → Prop) (w0 : World) (β0 : Nat → Option Nat) (T0 : Tbl) (w : World) (β : Nat → Option Nat) (T : Tbl) (K : M → Tbl → Prop) : Prop :=
  ∃ x w' m T' β', s.run P w = .ok x w' ∧ K m T' ∧ Move A w0 β0 T0 w β T w' β' T' ∧ Rep w' β' (okB w' β' T' w0.heap.size A) T' m x ∧ (q = true → ∀ k, k < w.heap.size → w'.heap[k]? = w.heap[k]?)

section
variable {P : Program} {A : Nat → Prop} {w0 : World} {β0 : Nat → Option Nat} {T0 : Tbl} {w : World} {β : Nat → Option Nat} {T : Tbl} {K : M → Tbl → Prop}

theorem Yld.pure {q : Bool} {s : Sem Value} {x : Value} {m : M} (hP : Post A w0 β0 T0 w β T) (hr : s.run P w = .ok x w) (hm : Rep w β (okB w β T w0.heap.size A) T m x) (hK : K m T) :
    Yld P q s A w0 β0 T0 w β T K := ⟨x, w, m, T, β, hr, hK, Move.refl hP, hm, fun _ _ _ => rfl⟩

abbrev RepS (A : Nat → Prop) (w0 w : World) (β : Nat → Option Nat) (T : Tbl) (m : M) (x : Value) : Prop := Rep w β (okB w β T w0.heap.size A) T m x
abbrev RepSL (A : Nat → Prop) (w0 w : World) (β : Nat → Option Nat) (T : Tbl) (m : List M) (x : List Value) : Prop := RepL w β (okB w β T w0.heap.size A) T m x

theorem ev_rep {env : Env} {a : Act} (h : ∀ k, RepS A w0 w β T (env k) (a.tmps.getD k undef)) (x : Operand) : RepS A w0 w β T (ev env x) (a.eval x) := by
  unfold ev
  split
  · exact h _
  · rename_i cs
    simp only [RepS, Act.eval, Rep]
    exact ⟨cs.toList, by simp, RepL.of_v _⟩
  · simp [RepS, Act.eval, Rep]
  · simp [RepS, Rep]
  · simp only [RepS, Act.eval, Rep]
    exact ⟨[], [], rfl, RepL.nil, RepL.nil⟩

theorem ev_repL {env : Env} {a : Act} (h : ∀ k, RepS A w0 w β T (env k) (a.tmps.getD k undef)) (xs : Array Operand) : RepSL A w0 w β T (xs.toList.map (ev env)) (xs.toList.map a.eval) := by
  induction xs.toList with
  | nil => exact RepL.nil
  | cons x xs ih => exact RepL.cons (ev_rep h x) ih

/-! What the tables say -/
theorem run_typeInfo {t : TypeId} {i : TypeInfo} (h : P.info? t = some i) : (typeInfo t).run P w = .ok i w := by simp [typeInfo, h]
theorem run_sizeOf {t : TypeId} {i : TypeInfo} (h : P.info? t = some i) : (sizeOf t).run P w = .ok i.size w := by simp [sizeOf, run_typeInfo h]
theorem run_underlying {t : TypeId} {d : TypeDesc} (h : P.underlying t = some d) : (underlying t).run P w = .ok d w := by simp [underlying, h]
theorem run_zeroValue {t : TypeId} {i : TypeInfo} {z : Value} (h : P.info? t = some i) (hz : i.zero = some z) : (zeroValue t).run P w = .ok z w := by simp [zeroValue, run_typeInfo h, hz]

def LK.ag : LK → Bool
  | .st _ _ | .ar _ _ _ => true
  | _ => false

theorem lay_spec {t : TypeId} {k : LK} {n : Nat} {z : List Value} (h : lay P t = some (k, n, z)) :
    ∃ d i zv, P.underlying t = some d ∧ P.info? t = some i ∧ i.zero = some zv ∧ layK P d = some k ∧ i.size = n ∧ zv.cells.toList = z := by
  unfold lay at h
  simp only [Option.bind_eq_some_iff, Option.map_eq_some_iff, Prod.mk.injEq] at h
  obtain ⟨d, h1, i, h2, zv, h3, k', h4, rfl, rfl, rfl⟩ := h
  exact ⟨d, i, zv, h1, h2, h3, h4, rfl, rfl⟩

theorem layK_ag {d : TypeDesc} {k : LK} (h : layK P d = some k) : (match d with | .struct _ | .array _ _ => true | _ => false) = k.ag := by
  unfold layK at h
  split at h
  · simp only [Option.bind_eq_some_iff, Option.map_eq_some_iff] at h; obtain ⟨_, _, _, _, rfl⟩ := h; rfl
  · simp only [Option.bind_eq_some_iff, Option.map_eq_some_iff] at h; obtain ⟨_, _, _, _, rfl⟩ := h; rfl
  · simp only [Option.bind_eq_some_iff, Option.map_eq_some_iff] at h; obtain ⟨_, _, _, _, rfl⟩ := h; rfl
  · rename_i h1 h2 h3
    simp only [Option.some.injEq] at h
    subst h
    cases d <;> first | rfl | exact absurd rfl (h1 _) | exact absurd rfl (h2 _ _)

theorem run_isAgg {t : TypeId} {k : LK} {n : Nat} {z : List Value} (h : lay P t = some (k, n, z)) : (isAgg t).run P w = .ok k.ag w ∧ (sizeOf t).run P w = .ok n w := by
  obtain ⟨d, i, zv, h1, h2, h3, h4, rfl, rfl⟩ := lay_spec h
  refine ⟨?_, run_sizeOf h2⟩
  simp only [isAgg, Sem.run_bind, run_underlying h1, Result.andThen_ok]
  rw [← layK_ag h4]
  cases d <;> rfl

theorem run_zero {t : TypeId} {k : LK} {n : Nat} {z : List Value} (h : lay P t = some (k, n, z)) : ∃ zv, (zeroValue t).run P w = .ok zv w ∧ zv.cells.toList = z := by
  obtain ⟨d, i, zv, h1, h2, h3, h4, rfl, rfl⟩ := lay_spec h
  exact ⟨zv, run_zeroValue h2 h3, rfl⟩
end
end Go.Tl
