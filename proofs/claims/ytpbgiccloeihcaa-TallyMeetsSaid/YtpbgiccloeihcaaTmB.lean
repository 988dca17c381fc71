/- The tree logic, part MB: the rules of evaluation, for the simplifier. -/
import Derived.Test.YtpbgiccloeihcaaTmA
namespace Go.Tl
open Go.RowKit

def layF (P : Program) (t : TypeId) (F : LK → Nat → List Value → Prop) : Prop :=
  match lay P t with
  | some (k, s, z) => F k s z
  | none => False
def undF (P : Program) (t : TypeId) (F : TypeDesc → Prop) : Prop :=
  match P.underlying t with
  | some d => F d
  | none => False
theorem layF_of {P : Program} {t : TypeId} {k : LK} {s : Nat} {z : List Value} (h : lay P t = some (k, s, z)) (F : LK → Nat → List Value → Prop) : layF P t F = F k s z := by unfold layF; rw [h]
theorem undF_of {P : Program} {t : TypeId} {d : TypeDesc} (h : P.underlying t = some d) (F : TypeDesc → Prop) : undF P t F = F d := by unfold undF; rw [h]

section
variable {P : Program} {T : Tbl} {n n0 : Nat} {env : Env} {q : Bool} {K : M → Tbl → Prop} {F : M → Prop} {G : Tbl → Prop} {next : Env → Tbl → Prop} {Q : Exit → Env → Tbl → Prop} {l : Lst} {R : Env → Tbl → Prop} {ops : List Oper} {ov : OV}

/-! ### The run. -/
theorem rL_nil {as : List (Nat × Bool)} : runL ov ops R as [] l T = R (envL l) T := rfl
theorem rL_s {as : List (Nat × Bool)} {os : List Oper} {op : Op} {ty : TypeId} {pos : String} {aft : Array Edge} {d : Nat} :
    runL ov ops R as (⟨some d, op, ty, pos, aft, none⟩ :: os) l T = ov (envL l) T op fun m T' => runL ov ops R as os ((d, m) :: l) T' := rfl
theorem rL_n {as : List (Nat × Bool)} {os : List Oper} {op : Op} {ty : TypeId} {pos : String} {aft : Array Edge} :
    runL ov ops R as (⟨none, op, ty, pos, aft, none⟩ :: os) l T = ov (envL l) T op fun _ T' => runL ov ops R as os l T' := rfl
def dstK (ops : List Oper) (j : Nat) (F : Nat → Prop) : Prop :=
  match dstOf ops j with
  | some t => F t
  | none => False
theorem dstK_zero {os : List Oper} {t : Tmp} {op : Op} {ty : TypeId} {pos : String} {aft : Array Edge} {g : Option (Nat × Bool)} {F : Nat → Prop} : dstK (⟨some t, op, ty, pos, aft, g⟩ :: os) 0 F = F t := rfl
theorem dstK_succ {o : Oper} {os : List Oper} {j : Nat} {F : Nat → Prop} : dstK (o :: os) (j + 1) F = dstK os j F := by simp [dstK, dstOf]
/-- Quietly. -/
def refN (N : Nat) (m : M) (A : Prop) : Prop :=
  match m with
  | .ref id _ => id < N ∧ A
  | _ => False
theorem refN_ref {N id off : Nat} {A : Prop} : refN N (.ref id off) A = (id < N ∧ A) := rfl
theorem oW_load {N : Nat} {t : TypeId} {a : Operand} : opW P N env T (.load t a) K = evK env a fun m => refN N m (opLoad P T t m fun r => K r T) := by
  simp only [opW, isLoad, if_true, loadRef, pO_load, evK]
  cases ev env a <;> simp [refN]
theorem oW_move {N : Nat} {x : Operand} : opW P N env T (.move x) K = opV P true env T (.move x) K := by simp [opW, isLoad]
theorem oW_assign {N : Nat} {x : Operand} : opW P N env T (.assign x) K = opV P true env T (.assign x) K := by simp [opW, isLoad]
theorem oW_pick {N : Nat} {c a b : Operand} : opW P N env T (.pick c a b) K = opV P true env T (.pick c a b) K := by simp [opW, isLoad]
theorem oW_alloc {N : Nat} {t : TypeId} : opW P N env T (.alloc t) K = opV P true env T (.alloc t) K := by simp [opW, isLoad]
theorem oW_box {N : Nat} {t : TypeId} {x : Operand} : opW P N env T (.box t x) K = opV P true env T (.box t x) K := by simp [opW, isLoad]
theorem oW_build {N : Nat} {t : TypeId} {ps : Array (Nat × Operand)} : opW P N env T (.build t ps) K = opV P true env T (.build t ps) K := by simp [opW, isLoad]
theorem oW_buildSlice {N : Nat} {t : TypeId} {k : Nat} {ps : Array (Nat × Operand)} : opW P N env T (.buildSlice t k ps) K = opV P true env T (.buildSlice t k ps) K := by simp [opW, isLoad]
theorem oW_store {N : Nat} {t : TypeId} {a x : Operand} : opW P N env T (.store t a x) K = opV P true env T (.store t a x) K := by simp [opW, isLoad]
theorem oW_nilCheck {N : Nat} {x : Operand} : opW P N env T (.nilCheck x) K = opV P true env T (.nilCheck x) K := by simp [opW, isLoad]
theorem oW_binOp {N : Nat} {op : BinOp} {t u : TypeId} {x y : Operand} : opW P N env T (.binOp op t x y u) K = opV P true env T (.binOp op t x y u) K := by simp [opW, isLoad]
theorem oW_unOp {N : Nat} {op : UnOp} {t : TypeId} {x : Operand} : opW P N env T (.unOp op t x) K = opV P true env T (.unOp op t x) K := by simp [opW, isLoad]
theorem oW_convert {N : Nat} {s d : TypeId} {x : Operand} : opW P N env T (.convert s d x) K = opV P true env T (.convert s d x) K := by simp [opW, isLoad]
theorem oW_makeFunc {N : Nat} {fn : Fn} {a b : Array Operand} : opW P N env T (.makeFunc fn a b) K = opV P true env T (.makeFunc fn a b) K := by simp [opW, isLoad]
theorem oW_makeSlice {N : Nat} {t : TypeId} {l c : Operand} : opW P N env T (.makeSlice t l c) K = opV P true env T (.makeSlice t l c) K := by simp [opW, isLoad]
theorem oW_slice {N : Nat} {t : TypeId} {x : Operand} {lo hi mx : Option Operand} : opW P N env T (.slice t x lo hi mx) K = opV P true env T (.slice t x lo hi mx) K := by simp [opW, isLoad]
theorem oW_fieldAddr {N : Nat} {t : TypeId} {x : Operand} {f : Nat} : opW P N env T (.fieldAddr t x f) K = opV P true env T (.fieldAddr t x f) K := by simp [opW, isLoad]
theorem oW_field {N : Nat} {t : TypeId} {x : Operand} {f : Nat} : opW P N env T (.field t x f) K = opV P true env T (.field t x f) K := by simp [opW, isLoad]
theorem oW_indexAddr {N : Nat} {t : TypeId} {x i : Operand} : opW P N env T (.indexAddr t x i) K = opV P true env T (.indexAddr t x i) K := by simp [opW, isLoad]
theorem oW_index {N : Nat} {t : TypeId} {x i : Operand} : opW P N env T (.index t x i) K = opV P true env T (.index t x i) K := by simp [opW, isLoad]
theorem oW_extract {N : Nat} {x : Operand} {i : Nat} : opW P N env T (.extract x i) K = opV P true env T (.extract x i) K := by simp [opW, isLoad]
theorem oW_call {N : Nat} {c : Call} : opW P N env T (.call c) K = opV P true env T (.call c) K := by simp [opW, isLoad]
theorem oW_makeInterface {N : Nat} {t : TypeId} {x : Operand} : opW P N env T (.makeInterface t x) K = opV P true env T (.makeInterface t x) K := by simp [opW, isLoad]
/-- In another order. -/
def opK (os : List Oper) (i : Nat) (F : Oper → Prop) (G : Prop) : Prop :=
  match os[i]? with
  | some o => F o
  | none => G
theorem opK_zero {o : Oper} {os : List Oper} {F : Oper → Prop} {G : Prop} : opK (o :: os) 0 F G = F o := rfl
theorem opK_succ {o : Oper} {os : List Oper} {i : Nat} {F : Oper → Prop} {G : Prop} : opK (o :: os) (i + 1) F G = opK os i F G := by simp [opK]
theorem rL_pick {as : List (Nat × Bool)} {i : Nat} {is : List Nat} : runL ov ops R as (pickO ops (i :: is)) l T = opK ops i (fun o => runL ov ops R as (o :: pickO ops is) l T) (runL ov ops R as (pickO ops is) l T) := by
  unfold opK pickO
  cases h : ops[i]? <;> simp [h]
theorem rL_pick_nil {as : List (Nat × Bool)} : runL ov ops R as (pickO ops []) l T = R (envL l) T := by simp [pickO, runL]
/-- What is known of a test. -/
def lkK (as : List (Nat × Bool)) (j : Nat) (A : Bool → Prop) (B : Prop) : Prop :=
  match as.lookup j with
  | some b => A b
  | none => B
theorem lkK_nil {j : Nat} {A : Bool → Prop} {B : Prop} : lkK [] j A B = B := rfl
theorem lkK_hit {as : List (Nat × Bool)} {j : Nat} {b : Bool} {A : Bool → Prop} {B : Prop} : lkK ((j, b) :: as) j A B = A b := by simp [lkK, List.lookup_cons]
theorem lkK_miss {as : List (Nat × Bool)} {i j : Nat} {b : Bool} {A : Bool → Prop} {B : Prop} (h : j ≠ i) : lkK ((i, b) :: as) j A B = lkK as j A B := by
  have : (j == i) = false := by simpa using h
  simp [lkK, List.lookup_cons, this]
def ifK (b want : Bool) (A B : Prop) : Prop := if b = want then A else B
theorem ifK_tt {A B : Prop} : ifK true true A B = A := by simp [ifK]
theorem ifK_ff {A B : Prop} : ifK false false A B = A := by simp [ifK]
theorem ifK_tf {A B : Prop} : ifK true false A B = B := by simp [ifK]
theorem ifK_ft {A B : Prop} : ifK false true A B = B := by simp [ifK]
def spK (m : M) (want : Bool) (A B : Prop) : Prop := boolK m fun b => (b = want → A) ∧ (b ≠ want → B)
theorem spK_tt {A B : Prop} : spK (.v (.bool true)) true A B = A := by simp [spK, boolK]
theorem spK_ff {A B : Prop} : spK (.v (.bool false)) false A B = A := by simp [spK, boolK]
theorem spK_tf {A B : Prop} : spK (.v (.bool true)) false A B = B := by simp [spK, boolK]
theorem spK_ft {A B : Prop} : spK (.v (.bool false)) true A B = B := by simp [spK, boolK]
theorem spK_t {b : Bool} {A B : Prop} : spK (.v (.bool b)) true A B = ((b = true → A) ∧ (b = false → B)) := by simp [spK, boolK]
theorem spK_f {b : Bool} {A B : Prop} : spK (.v (.bool b)) false A B = ((b = false → A) ∧ (b = true → B)) := by simp [spK, boolK]
theorem rL_st {as : List (Nat × Bool)} {os : List Oper} {op : Op} {ty : TypeId} {pos : String} {aft : Array Edge} {d j : Nat} :
    runL ov ops R as (⟨some d, op, ty, pos, aft, some (j, true)⟩ :: os) l T = lkK as j
      (fun b => ifK b true (ov (envL l) T op fun m T' => runL ov ops R as os ((d, m) :: l) T') (runL ov ops R as os ((d, .any) :: l) T))
      (dstK ops j fun t => slotK (envL l) t fun m => spK m true (ov (envL ((t, .v (.bool true)) :: l)) T op fun m T' => runL ov ops R ((j, true) :: as) os ((d, m) :: (t, .v (.bool true)) :: l) T')
        (runL ov ops R ((j, false) :: as) os ((d, .any) :: (t, .v (.bool false)) :: l) T)) := by
  simp only [runL, lkK, dstK, spK, ifK]
  cases as.lookup j <;> rfl
theorem rL_sf {as : List (Nat × Bool)} {os : List Oper} {op : Op} {ty : TypeId} {pos : String} {aft : Array Edge} {d j : Nat} :
    runL ov ops R as (⟨some d, op, ty, pos, aft, some (j, false)⟩ :: os) l T = lkK as j
      (fun b => ifK b false (ov (envL l) T op fun m T' => runL ov ops R as os ((d, m) :: l) T') (runL ov ops R as os ((d, .any) :: l) T))
      (dstK ops j fun t => slotK (envL l) t fun m => spK m false (ov (envL ((t, .v (.bool false)) :: l)) T op fun m T' => runL ov ops R ((j, false) :: as) os ((d, m) :: (t, .v (.bool false)) :: l) T')
        (runL ov ops R ((j, true) :: as) os ((d, .any) :: (t, .v (.bool true)) :: l) T)) := by
  simp only [runL, lkK, dstK, spK, ifK]
  cases as.lookup j <;> rfl
theorem rL_nt {as : List (Nat × Bool)} {os : List Oper} {op : Op} {ty : TypeId} {pos : String} {aft : Array Edge} {j : Nat} :
    runL ov ops R as (⟨none, op, ty, pos, aft, some (j, true)⟩ :: os) l T = lkK as j
      (fun b => ifK b true (ov (envL l) T op fun _ T' => runL ov ops R as os (l) T') (runL ov ops R as os (l) T))
      (dstK ops j fun t => slotK (envL l) t fun m => spK m true (ov (envL ((t, .v (.bool true)) :: l)) T op fun _ T' => runL ov ops R ((j, true) :: as) os ((t, .v (.bool true)) :: l) T')
        (runL ov ops R ((j, false) :: as) os ((t, .v (.bool false)) :: l) T)) := by
  simp only [runL, lkK, dstK, spK, ifK]
  cases as.lookup j <;> rfl
theorem rL_nf {as : List (Nat × Bool)} {os : List Oper} {op : Op} {ty : TypeId} {pos : String} {aft : Array Edge} {j : Nat} :
    runL ov ops R as (⟨none, op, ty, pos, aft, some (j, false)⟩ :: os) l T = lkK as j
      (fun b => ifK b false (ov (envL l) T op fun _ T' => runL ov ops R as os (l) T') (runL ov ops R as os (l) T))
      (dstK ops j fun t => slotK (envL l) t fun m => spK m false (ov (envL ((t, .v (.bool false)) :: l)) T op fun _ T' => runL ov ops R ((j, false) :: as) os ((t, .v (.bool false)) :: l) T')
        (runL ov ops R ((j, true) :: as) os ((t, .v (.bool true)) :: l) T)) := by
  simp only [runL, lkK, dstK, spK, ifK]
  cases as.lookup j <;> rfl
theorem addS_some {d : Nat} {m : M} : addS l (some d) m = (d, m) :: l := rfl
theorem addS_none {m : M} : addS l none m = l := rfl
theorem keepE_nil {F : Lst → Prop} : keepE env [] F = F [] := rfl
theorem keepE_cons {k : Nat} {ks : List Nat} {F : Lst → Prop} : keepE env (k :: ks) F = slotK env k fun m => keepE env ks fun r => F ((k, m) :: r) := rfl
def pkK (b : Bool) (x y : M) (F : M → Prop) : Prop := F (if b = true then x else y)
theorem pkK_true {x y : M} : pkK true x y F = F x := rfl
theorem pkK_false {x y : M} : pkK false x y F = F y := rfl
theorem pkK_bb {b c d : Bool} : pkK b (.v (.bool c)) (.v (.bool d)) F = F (.v (.bool (if b = true then c else d))) := by cases b <;> rfl
theorem qO_pick {c a b : Operand} : opV P q env T (.pick c a b) K = evK env c fun m => boolK m fun t => evK env a fun x => evK env b fun y => pkK t x y fun m => K m T := pO_pick
def cdK (m : M) (A B : Prop) : Prop := boolK m fun b => (b = true → A) ∧ (b = false → B)
theorem cdK_true {A B : Prop} : cdK (.v (.bool true)) A B = A := by simp [cdK, boolK]
theorem cdK_false {A B : Prop} : cdK (.v (.bool false)) A B = B := by simp [cdK, boolK]
theorem cdK_b {b : Bool} {A B : Prop} : cdK (.v (.bool b)) A B = ((b = true → A) ∧ (b = false → B)) := by simp [cdK, boolK]
theorem WpC.condK {fn : Func} {p : List Nat} {c : Operand} (h : ck (cd fn p) = .cond c) (h' : evK env c fun m => cdK m (WpC P n n0 (cd fn (0 :: p)) Q env T) (WpC P n n0 (cd fn (1 :: p)) Q env T)) : WpC P n n0 (cd fn p) Q env T := WpC.condC h h'
theorem argL_nil {i : Nat} : argL i [] = [] := rfl
theorem argL_cons {i : Nat} {m : M} {ms : List M} : argL i (m :: ms) = (i, m) :: argL (i + 1) ms := rfl
theorem pn_nil : pn [] = 1 := rfl
theorem pn_cons {i : Nat} {p : List Nat} : pn (i :: p) = 2 * pn p + i := rfl

/-! ### What hangs on a type's make. -/
theorem qO_alloc {t : TypeId} : opV P q env T (.alloc t) K = layF P t fun _ _ z => lenK T fun l => pushK T (.cells true (z.map .v)) fun T' => K (.ref l 0) T' := by
  simp only [opV_alloc, layF, lenK, pushK]
  cases lay P t with
  | none => rfl
  | some x => rfl
def agK (k : LK) (A B : Prop) : Prop := if k.ag = true then A else B
theorem agK_one {A B : Prop} : agK .one A B = B := rfl
theorem agK_sl {e b : Nat} {ez : List Value} {A B : Prop} : agK (.sl e b ez) A B = B := rfl
theorem agK_st {ps : List (Nat × Nat)} {ags : List Bool} {A B : Prop} : agK (.st ps ags) A B = A := rfl
theorem agK_ar {m e : Nat} {ag : Bool} {A B : Prop} : agK (.ar m e ag) A B = A := rfl
theorem qLoad {t : TypeId} {m : M} : opLoad P T t m F = layF P t fun k s _ => agK k (ldA s T m F) (ldM T m F) := by
  unfold layF
  cases h : lay P t with
  | none => simp [opLoad, h]
  | some x =>
    obtain ⟨k, s, z⟩ := x
    cases hk : k.ag with
    | true => simp only [agK, hk, if_true]; exact opLoad_ag h hk m F
    | false => simp only [agK, hk]; exact opLoad_flat h hk m F
theorem qStore {t : TypeId} {m v : M} : opStore P T t m v G = layF P t fun _ s _ => stM s T m v G := by
  unfold layF
  cases h : lay P t with
  | none => simp [opStore, h]
  | some x =>
    obtain ⟨k, s, z⟩ := x
    exact opStore_eq h m v G
theorem stM_one {id off : Nat} {v : M} : stM 1 T (.ref id off) v G = storeK T id off v G := by
  unfold stM storeK blkK putK setK
  cases hT : T[id]? with
  | none => simp only [hT]; cases cellsOf T v with
    | none => rfl
    | some l => cases l with
      | nil => rfl
      | cons c l => cases l <;> simp
  | some o =>
    cases o with
    | gone => simp only [hT]; cases cellsOf T v with
      | none => rfl
      | some l => cases l with
        | nil => rfl
        | cons c l => cases l <;> simp
    | cells fr cs =>
      simp only [hT]
      cases hc : cellsOf T v with
      | none => rfl
      | some l =>
        cases l with
        | nil => simp
        | cons c l =>
          cases l with
          | cons c' l => simp
          | nil =>
            apply propext
            constructor
            · rintro ⟨h1, _, h3, h4⟩
              refine ⟨by simpa using h1, by omega, ?_⟩
              have e : cs.take off ++ [c] ++ cs.drop (off + 1) = cs.set off c := by
                rw [List.set_eq_take_append_cons_drop, if_pos (by omega)]; simp
              rw [← e]; exact h4
            · rintro ⟨h1, h2, h3⟩
              refine ⟨by simpa using h1, rfl, by omega, ?_⟩
              have e : cs.take off ++ [c] ++ cs.drop (off + 1) = cs.set off c := by
                rw [List.set_eq_take_append_cons_drop, if_pos h2]; simp
              rw [e]; exact h3
/-- The cells in a value's place. -/
def spl (cs : List M) (off : Nat) (vs : List M) : List M := cs.take off ++ vs ++ cs.drop (off + vs.length)
theorem spl_zero {cs : List M} : ∀ {vs : List M}, vs.length ≤ cs.length → spl cs 0 vs = vs ++ cs.drop vs.length := by intro vs _; simp [spl]
theorem spl_succ {c : M} {cs vs : List M} {off : Nat} : spl (c :: cs) (off + 1) vs = c :: spl cs off vs := by
  simp only [spl, List.take_succ_cons, List.cons_append, List.append_assoc]
  have : off + 1 + vs.length = (off + vs.length) + 1 := by omega
  rw [this, List.drop_succ_cons]
theorem spl_nil {cs : List M} {off : Nat} : spl cs off [] = cs := by simp [spl]
theorem spl_cons {c v : M} {cs vs : List M} : spl (c :: cs) 0 (v :: vs) = v :: spl cs 0 vs := by simp [spl]
theorem spl_one {cs : List M} {off : Nat} {v : M} (h : off < cs.length) : spl cs off [v] = cs.set off v := by
  rw [spl, List.set_eq_take_append_cons_drop, if_pos h]; simp
def stA (s : Nat) (T : Tbl) (id off : Nat) (vs : List M) (G : Tbl → Prop) : Prop := vs.all (oneCell T) = true ∧ vs.length = s ∧ blkK T id fun fr cs => off + s ≤ cs.length ∧ setK T id (.cells fr (spl cs off vs)) G
theorem stM_ag {s id off : Nat} {vs : List M} : stM s T (.ref id off) (.agg vs) G = stA s T id off vs G := by
  unfold stM stA blkK setK
  simp only [cells_agg]
  cases hT : T[id]? with
  | none => simp
  | some o =>
    cases o with
    | gone => simp
    | cells fr cs =>
      simp only
      apply propext
      constructor
      · rintro ⟨h1, h2, h3, h4⟩; exact ⟨h1, h2, h3, by unfold spl; rw [h2]; exact h4⟩
      · rintro ⟨h1, h2, h3, h4⟩; exact ⟨h1, h2, h3, by unfold spl at h4; rw [h2] at h4; exact h4⟩
theorem stA_eq {s id off : Nat} {vs : List M} : stA s T id off vs G = (vs.all (oneCell T) = true ∧ vs.length = s ∧ blkK T id fun fr cs => off + s ≤ cs.length ∧ setK T id (.cells fr (spl cs off vs)) G) := rfl
theorem storeK_sr {i o n z : Nat} {id off : Nat} : storeK T id off (.sr i o n z) G = (liveB T i = true ∧ blkK T id fun f0 cs => putK cs off (.sr i o n z) fun cs' => setK T id (.cells f0 cs') G) := by
  unfold storeK
  rw [cells_sr]
  by_cases h : liveB T i = true <;> simp [h, one_sr]
theorem storeK_ref {i o : Nat} {id off : Nat} : storeK T id off (.ref i o) G = (liveB T i = true ∧ blkK T id fun f0 cs => putK cs off (.ref i o) fun cs' => setK T id (.cells f0 cs') G) := by
  unfold storeK
  rw [cells_ref]
  by_cases h : liveB T i = true <;> simp [h, one_ref]
theorem storeK_ip {fr : Bool} {cells : List M} {o : Nat} {id off : Nat} : storeK T id off (.ip fr cells o) G = (blkK T id fun f0 cs => putK cs off (.ip fr cells o) fun cs' => setK T id (.cells f0 cs') G) := by simp [storeK, cellsOf, oneCell]
theorem storeK_slv {a : Option Addr} {l c : Nat} {id off : Nat} : storeK T id off (.v (.slice a l c)) G = (blkK T id fun f0 cs => putK cs off (.v (.slice a l c)) fun cs' => setK T id (.cells f0 cs') G) := by simp [storeK, cellsOf, oneCell]
theorem storeK_ptr {a : Option Addr} {id off : Nat} : storeK T id off (.v (.pointer a)) G = (blkK T id fun f0 cs => putK cs off (.v (.pointer a)) fun cs' => setK T id (.cells f0 cs') G) := by simp [storeK, cellsOf, oneCell]
theorem storeK_map {a : Option Nat} {id off : Nat} : storeK T id off (.v (.map a)) G = (blkK T id fun f0 cs => putK cs off (.v (.map a)) fun cs' => setK T id (.cells f0 cs') G) := by simp [storeK, cellsOf, oneCell]
theorem storeK_nilFunc  {id off : Nat} : storeK T id off (.v .nilFunc) G = (blkK T id fun f0 cs => putK cs off (.v .nilFunc) fun cs' => setK T id (.cells f0 cs') G) := by simp [storeK, cellsOf, oneCell]
theorem storeK_nilIface  {id off : Nat} : storeK T id off (.v .nilIface) G = (blkK T id fun f0 cs => putK cs off (.v .nilIface) fun cs' => setK T id (.cells f0 cs') G) := by simp [storeK, cellsOf, oneCell]
theorem storeK_fn {f : Fn} {a b : List M} {id off : Nat} : storeK T id off (.fn f a b) G = (blkK T id fun f0 cs => putK cs off (.fn f a b) fun cs' => setK T id (.cells f0 cs') G) := by simp [storeK, cellsOf, oneCell]
theorem storeK_ifc {t : TypeId} {m : M} {id off : Nat} : storeK T id off (.ifc t m) G = (blkK T id fun f0 cs => putK cs off (.ifc t m) fun cs' => setK T id (.cells f0 cs') G) := by simp [storeK, cellsOf, oneCell]
theorem storeK_sx  {id off : Nat} : storeK T id off .sx G = (blkK T id fun f0 cs => putK cs off .sx fun cs' => setK T id (.cells f0 cs') G) := by simp [storeK, cellsOf, oneCell]
def flK (T : Tbl) (place : Nat → Option (Nat × Nat)) (cells : List M) (ps : List (Nat × M)) (H : List M → Prop) : Prop :=
  match fillM T place cells ps with
  | some cs => H cs
  | none => False
def celK (T : Tbl) (m : M) (H : List M → Prop) : Prop :=
  match cellsOf T m with
  | some cs => H cs
  | none => False
theorem celK_int {k : IntKind} {x : Int} {H : List M → Prop} : celK T (.v (.int k x)) H = H [.v (.int k x)] := rfl
theorem celK_bool {b : Bool} {H : List M → Prop} : celK T (.v (.bool b)) H = H [.v (.bool b)] := rfl
theorem celK_str {b : ByteArray} {H : List M → Prop} : celK T (.v (.string b)) H = H [.v (.string b)] := rfl
theorem celK_ptr {a : Option Addr} {H : List M → Prop} : celK T (.v (.pointer a)) H = H [.v (.pointer a)] := rfl
theorem celK_slv {a : Option Addr} {l c : Nat} {H : List M → Prop} : celK T (.v (.slice a l c)) H = H [.v (.slice a l c)] := rfl
theorem celK_map {a : Option Nat} {H : List M → Prop} : celK T (.v (.map a)) H = H [.v (.map a)] := rfl
theorem celK_nilFunc {H : List M → Prop} : celK T (.v .nilFunc) H = H [.v .nilFunc] := rfl
theorem celK_nilIface {H : List M → Prop} : celK T (.v .nilIface) H = H [.v .nilIface] := rfl
theorem celK_sl {fr : Bool} {cs : List M} {len : Nat} {H : List M → Prop} : celK T (.sl fr cs len) H = H [.sl fr cs len] := rfl
theorem celK_ip {fr : Bool} {cs : List M} {off : Nat} {H : List M → Prop} : celK T (.ip fr cs off) H = H [.ip fr cs off] := rfl
theorem celK_sx {H : List M → Prop} : celK T .sx H = H [.sx] := rfl
theorem celK_fn {f : Fn} {a b : List M} {H : List M → Prop} : celK T (.fn f a b) H = H [.fn f a b] := rfl
theorem celK_ifc {t : TypeId} {m : M} {H : List M → Prop} : celK T (.ifc t m) H = H [.ifc t m] := rfl
theorem celK_agg {cs : List M} {H : List M → Prop} : celK T (.agg cs) H = H cs := rfl
theorem celK_ref {id off : Nat} {H : List M → Prop} : celK T (.ref id off) H = (liveB T id = true ∧ H [.ref id off]) := by
  unfold celK; rw [cells_ref]; cases liveB T id <;> simp
theorem celK_sr {id off len sz : Nat} {H : List M → Prop} : celK T (.sr id off len sz) H = (liveB T id = true ∧ H [.sr id off len sz]) := by
  unfold celK; rw [cells_sr]; cases liveB T id <;> simp
theorem flK_nil {place : Nat → Option (Nat × Nat)} {cells : List M} {H : List M → Prop} : flK T place cells [] H = H cells := rfl
theorem flK_cons {place : Nat → Option (Nat × Nat)} {cells : List M} {i : Nat} {m : M} {ps : List (Nat × M)} {H : List M → Prop} :
    flK T place cells ((i, m) :: ps) H = celK T m fun cs => ∃ off, place i = some (off, cs.length) ∧ off + cs.length ≤ cells.length ∧ flK T place (spl cells off cs) ps H := by
  unfold flK celK
  simp only [fillM]
  cases hp : place i with
  | none => cases cellsOf T m <;> simp
  | some x =>
    obtain ⟨off, size⟩ := x
    cases hc : cellsOf T m with
    | none => simp
    | some cs =>
      simp only
      by_cases h : cs.length = size ∧ off + size ≤ cells.length
      · rw [if_pos h]
        obtain ⟨rfl, h2⟩ := h
        apply propext
        constructor
        · intro h'; exact ⟨off, rfl, h2, h'⟩
        · rintro ⟨off', h3, _, h4⟩
          cases h3; exact h4
      · rw [if_neg h]
        apply propext
        constructor
        · exact False.elim
        · rintro ⟨off', h3, h4, _⟩
          cases h3; exact absurd ⟨rfl, h4⟩ h
/-- A struct's parts, each in its place. -/
def flS (T : Tbl) (ps : List (Nat × Nat)) (cells : List M) : List (Nat × M) → (List M → Prop) → Prop
  | [], H => H cells
  | (i, m) :: r, H => celK T m fun cs => ∃ off s, ps[i]? = some (off, s) ∧ s = cs.length ∧ off + cs.length ≤ cells.length ∧ flS T ps (spl cells off cs) r H
theorem flS_eq {ps : List (Nat × Nat)} : ∀ {r : List (Nat × M)} {cells : List M} {H : List M → Prop}, flK T (ps[·]?) cells r H = flS T ps cells r H
  | [], _, _ => rfl
  | (i, m) :: r, cells, H => by
    rw [flK_cons, flS]
    unfold celK
    cases cellsOf T m with
    | none => rfl
    | some cs =>
      simp only [flS_eq]
      apply propext
      constructor
      · rintro ⟨off, h1, h2, h3⟩; exact ⟨off, _, h1, rfl, h2, h3⟩
      · rintro ⟨off, s, h1, h2, h3, h4⟩; subst h2; exact ⟨off, h1, h3, h4⟩
def plcK (ps : List (Nat × Nat)) (i : Nat) (H : Nat → Nat → Prop) : Prop := ∃ off s, ps[i]? = some (off, s) ∧ H off s
theorem plcK_zero {o s : Nat} {ps : List (Nat × Nat)} {H : Nat → Nat → Prop} : plcK ((o, s) :: ps) 0 H = H o s := by
  apply propext
  constructor
  · rintro ⟨o', s', h, h'⟩; simp only [List.getElem?_cons_zero, Option.some.injEq, Prod.mk.injEq] at h; obtain ⟨rfl, rfl⟩ := h; exact h'
  · intro h; exact ⟨o, s, rfl, h⟩
theorem plcK_succ {p : Nat × Nat} {ps : List (Nat × Nat)} {i : Nat} {H : Nat → Nat → Prop} : plcK (p :: ps) (i + 1) H = plcK ps i H := by simp [plcK]
theorem flS_nil {ps : List (Nat × Nat)} {cells : List M} {H : List M → Prop} : flS T ps cells [] H = H cells := rfl
theorem flS_cons {ps : List (Nat × Nat)} {cells : List M} {i : Nat} {m : M} {r : List (Nat × M)} {H : List M → Prop} :
    flS T ps cells ((i, m) :: r) H = celK T m fun cs => plcK ps i fun off s => s = cs.length ∧ off + cs.length ≤ cells.length ∧ flS T ps (spl cells off cs) r H := rfl
def buildK (T : Tbl) (k : LK) (z : List Value) (parts : List (Nat × M)) (F : M → Prop) : Prop :=
  match k with
  | .st ps _ => flS T ps (z.map .v) parts fun cs => F (.agg cs)
  | .ar _ e _ => flK T (fun i => some (i * e, e)) (z.map .v) parts fun cs => F (.agg cs)
  | _ => False
theorem buildK_st {ps : List (Nat × Nat)} {ags : List Bool} {z : List Value} {parts : List (Nat × M)} : buildK T (.st ps ags) z parts F = flS T ps (z.map .v) parts fun cs => F (.agg cs) := rfl
theorem buildK_ar {m e : Nat} {ag : Bool} {z : List Value} {parts : List (Nat × M)} : buildK T (.ar m e ag) z parts F = flK T (fun i => some (i * e, e)) (z.map .v) parts fun cs => F (.agg cs) := rfl
theorem qBuild {t : TypeId} {parts : List (Nat × M)} : opBuild P T t parts F = layF P t fun k _ z => buildK T k z parts F := by
  unfold layF
  cases h : lay P t with
  | none => simp [opBuild, h]
  | some x =>
    obtain ⟨k, s, z⟩ := x
    cases k with
    | st ps ags => rw [opBuild_st h]; simp only [buildK, ← flS_eq]; rfl
    | ar m e ag => rw [opBuild_ar h]; rfl
    | one => simp [opBuild, h, buildK]
    | sl e b ez => simp [opBuild, h, buildK]
def slzK (k : LK) (H : Nat → Nat → List Value → Prop) : Prop :=
  match k with
  | .sl e b ez => H e b ez
  | _ => False
theorem slzK_sl {e b : Nat} {ez : List Value} {H : Nat → Nat → List Value → Prop} : slzK (.sl e b ez) H = H e b ez := rfl
theorem qBuildSlice {t : TypeId} {len : Nat} {parts : List (Nat × M)} : opBuildSlice P T t len parts K = layF P t fun k _ _ => slzK k fun e _ ez => len * e ≤ 2 ^ 24 ∧ len ≤ 9223372036854775807 ∧ ez.length = e ∧
    flK T (fun i => some (i * e, e)) (zeros len ez) parts fun cs => cs.length = len * e ∧ lenK T fun l => pushK T (.cells true cs) fun T' => K (.sr l 0 len e) T' := by
  unfold layF
  cases h : lay P t with
  | none => simp [opBuildSlice, h]
  | some x =>
    obtain ⟨k, s, z⟩ := x
    cases k with
    | sl e b ez => rw [opBuildSlice_eq h]; rfl
    | one => simp [opBuildSlice, h, slzK]
    | st ps ags => simp [opBuildSlice, h, slzK]
    | ar m e ag => simp [opBuildSlice, h, slzK]
def fadK (k : LK) (f : Nat) (m : M) (F : M → Prop) : Prop :=
  match k with
  | .st ps _ => faK ps f m F
  | _ => False
theorem fadK_st {ps : List (Nat × Nat)} {ags : List Bool} {f : Nat} {m : M} : fadK (.st ps ags) f m F = faK ps f m F := rfl
theorem qFieldAddr {t : TypeId} {f : Nat} {m : M} : opFieldAddr P t f m F = layF P t fun k _ _ => fadK k f m F := by
  unfold layF
  cases h : lay P t with
  | none => simp [opFieldAddr, h]
  | some x =>
    obtain ⟨k, s, z⟩ := x
    cases k with
    | st ps ags => exact pFA h
    | one => simp [opFieldAddr, h, fadK]
    | sl e b ez => simp [opFieldAddr, h, fadK]
    | ar m e ag => simp [opFieldAddr, h, fadK]
def ixK (k : LK) (m i : M) (F : M → Prop) : Prop :=
  match k, i with
  | .ar n e _, .v (.int _ x) => 0 ≤ x ∧ x < n ∧ (match m with
      | .ref id off => F (.ref id (off + x.toNat * e))
      | .ip fr cells off => F (.ip fr cells (off + x.toNat * e))
      | _ => False)
  | .sl e _ _, .v (.int _ x) => (match m with
      | .sr id off len sz => 0 ≤ x ∧ x < len ∧ sz = e ∧ F (.ref id (off + x.toNat * e))
      | .sl fr cells len => 0 ≤ x ∧ x < len ∧ F (.ip fr cells (x.toNat * e))
      | _ => False)
  | _, _ => False
theorem qIndexAddr {t : TypeId} {m i : M} : opIndexAddr P t m i F = layF P t fun k _ _ => ixK k m i F := by
  unfold layF opIndexAddr
  cases h : lay P t with
  | none => rfl
  | some x =>
    obtain ⟨k, s, z⟩ := x
    cases k <;> (cases i <;> try rfl) <;> (rename_i y; cases y <;> rfl)
theorem ixK_sr {e b : Nat} {ez : List Value} {id off len : Nat} {sz : Nat} {k : IntKind} {x : Int} : ixK (.sl e b ez) (.sr id off len sz) (.v (.int k x)) F = (0 ≤ x ∧ x < len ∧ sz = e ∧ F (.ref id (off + x.toNat * e))) := rfl
theorem ixK_sl {e b : Nat} {ez : List Value} {fr : Bool} {cs : List M} {len : Nat} {k : IntKind} {x : Int} : ixK (.sl e b ez) (.sl fr cs len) (.v (.int k x)) F = (0 ≤ x ∧ x < len ∧ F (.ip fr cs (x.toNat * e))) := rfl
theorem ixK_arR {m e : Nat} {ag : Bool} {id off : Nat} {k : IntKind} {x : Int} : ixK (.ar m e ag) (.ref id off) (.v (.int k x)) F = (0 ≤ x ∧ x < m ∧ F (.ref id (off + x.toNat * e))) := rfl
theorem ixK_arI {m e : Nat} {ag : Bool} {fr : Bool} {cs : List M} {off : Nat} {k : IntKind} {x : Int} : ixK (.ar m e ag) (.ip fr cs off) (.v (.int k x)) F = (0 ≤ x ∧ x < m ∧ F (.ip fr cs (off + x.toNat * e))) := rfl
def fldK (k : LK) (f : Nat) (cs : List M) (F : M → Prop) : Prop :=
  match k with
  | .st ps ags => (match ps[f]?, ags[f]? with
    | some (o, s), some ag => partM ag cs o s F
    | _, _ => False)
  | _ => False
theorem fldK_zero {o s : Nat} {ps : List (Nat × Nat)} {ag : Bool} {ags : List Bool} {cs : List M} : fldK (.st ((o, s) :: ps) (ag :: ags)) 0 cs F = partM ag cs o s F := rfl
theorem fldK_succ {p : Nat × Nat} {ps : List (Nat × Nat)} {ag : Bool} {ags : List Bool} {f : Nat} {cs : List M} : fldK (.st (p :: ps) (ag :: ags)) (f + 1) cs F = fldK (.st ps ags) f cs F := by simp [fldK]
theorem qField {t : TypeId} {f : Nat} {cs : List M} : opField P t f (.agg cs) F = layF P t fun k _ _ => fldK k f cs F := by
  unfold layF opField
  cases h : lay P t with
  | none => rfl
  | some x =>
    obtain ⟨k, s, z⟩ := x
    cases k with
    | st ps ags => rfl
    | one => rfl
    | sl _ _ _ => rfl
    | ar _ _ _ => rfl
def arK (k : LK) (cs : List M) (x : Int) (F : M → Prop) : Prop :=
  match k with
  | .ar n e ag => x < n ∧ partM ag cs (x.toNat * e) e F
  | _ => False
theorem arK_ar {m e : Nat} {ag : Bool} {cs : List M} {x : Int} : arK (.ar m e ag) cs x F = (x < m ∧ partM ag cs (x.toNat * e) e F) := rfl
theorem qIndex_ag {t : TypeId} {cs : List M} {k : IntKind} {x : Int} : opIndex P t (.agg cs) (.v (.int k x)) F = (0 ≤ x ∧ layF P t fun k _ _ => arK k cs x F) := by
  unfold layF opIndex
  cases h : lay P t with
  | none => rfl
  | some y =>
    obtain ⟨k, s, z⟩ := y
    cases k <;> rfl
def strD (d : TypeDesc) : Bool := match d with | .string => true | _ => false
theorem strD_string : strD .string = true := rfl
/-- A text's byte. -/
def btI (s : ByteArray) (i : Nat) : Int := ((s.data.toList.getD i 0).toNat : Int)
theorem qIndex_str {t : TypeId} {s : ByteArray} {k : IntKind} {x : Int} : opIndex P t (.v (.string s)) (.v (.int k x)) F = (0 ≤ x ∧ (undF P t fun d => strD d = true) ∧ x < s.size ∧ F (.v (.int .u8 (btI s x.toNat)))) := by
  have key : 0 ≤ x → ((∃ b, s[x.toNat]? = some b ∧ F (.v (.int .u8 b.toNat))) ↔ (x < s.size ∧ F (.v (.int .u8 (btI s x.toNat))))) := fun h0 => by
    constructor
    · rintro ⟨b, h1, h2⟩
      obtain ⟨h3, h4⟩ := getElem?_eq_some_iff.1 h1
      refine ⟨by omega, ?_⟩
      have e : s.data.toList.getD x.toNat 0 = b := by
        have h5 : x.toNat < s.data.toList.length := by simpa using h3
        rw [List.getD_eq_getElem?_getD, List.getElem?_eq_getElem h5]
        simp only [Option.getD_some, Array.getElem_toList]
        exact h4
      rw [btI, e]; exact h2
    · rintro ⟨h1, h2⟩
      have h3 : x.toNat < s.size := by omega
      refine ⟨s[x.toNat], getElem?_eq_some_iff.2 ⟨h3, rfl⟩, ?_⟩
      have e : s.data.toList.getD x.toNat 0 = s[x.toNat] := by
        have h5 : x.toNat < s.data.toList.length := by simpa using h3
        rw [List.getD_eq_getElem?_getD, List.getElem?_eq_getElem h5]
        simp; rfl
      rw [btI, e] at h2; exact h2
  unfold opIndex undF
  apply propext
  constructor
  · rintro ⟨h0, h1, h2⟩
    refine ⟨h0, by rw [h1]; rfl, (key h0).1 h2⟩
  · rintro ⟨h0, h1, h2⟩
    refine ⟨h0, ?_, (key h0).2 h2⟩
    cases hu : P.underlying t with
    | none => rw [hu] at h1; exact h1.elim
    | some d => rw [hu] at h1; cases d <;> simp [strD] at h1 ⊢
theorem qMakeSlice {t : TypeId} {k k' : IntKind} {x y : Int} : opMakeSlice P T t (.v (.int k x)) (.v (.int k' y)) K = layF P t fun L _ _ => slzK L fun e b ez =>
    ez.length = e ∧ 0 ≤ x ∧ x ≤ y ∧ y * b ≤ 281474976710656 ∧ y ≤ 9223372036854775807 ∧ lenK T fun l => pushK T (.cells true (zeros x.toNat ez)) fun T' => K (.sr l 0 x.toNat e) T' := by
  unfold layF opMakeSlice
  cases h : lay P t with
  | none => rfl
  | some y =>
    obtain ⟨k, s, z⟩ := y
    cases k <;> rfl
theorem qSlice_sl {t : TypeId} {fr : Bool} {cells : List M} {len : Nat} {lo hi : Option M} : opSlice P T t (.sl fr cells len) lo hi none F = (bndOk lo ∧ bndOk hi ∧ layF P t fun L _ _ => slzK L fun e _ _ =>
    bndV lo 0 ≤ bndV hi len ∧ bndV hi len ≤ len ∧ F (.sl fr ((cells.drop (bndV lo 0 * e)).take ((bndV hi len - bndV lo 0) * e)) (bndV hi len - bndV lo 0))) := by
  unfold layF opSlice
  cases h : lay P t with
  | none => rfl
  | some y =>
    obtain ⟨k, s, z⟩ := y
    cases k <;> rfl
theorem qSlice_sr {t : TypeId} {id off len sz : Nat} {lo hi : Option M} : opSlice P T t (.sr id off len sz) lo hi none F = (bndOk lo ∧ bndOk hi ∧ layF P t fun L _ _ => slzK L fun e _ _ =>
    sz = e ∧ bndV lo 0 ≤ bndV hi len ∧ bndV hi len ≤ len ∧ F (.sr id (off + bndV lo 0 * sz) (bndV hi len - bndV lo 0) sz)) := by
  unfold layF opSlice
  cases h : lay P t with
  | none => rfl
  | some y =>
    obtain ⟨k, s, z⟩ := y
    cases k <;> rfl
theorem qSlice_str {t : TypeId} {s : ByteArray} {lo hi : Option M} : opSlice P T t (.v (.string s)) lo hi none F = (bndOk lo ∧ bndOk hi ∧ (undF P t fun d => strD d = true) ∧ bndV lo 0 ≤ bndV hi s.size ∧ bndV hi s.size ≤ s.size ∧ F (.v (.string (s.extract (bndV lo 0) (bndV hi s.size))))) := by
  have e : (undF P t fun d => strD d = true) = (P.underlying t = some .string) := by
    unfold undF
    cases P.underlying t with
    | none => simp
    | some d => cases d <;> simp [strD]
  rw [e]
  rfl
def aryK (k : LK) (H : Nat → Nat → Prop) : Prop :=
  match k with
  | .ar n e _ => H n e
  | _ => False
theorem aryK_ar {m e : Nat} {ag : Bool} {H : Nat → Nat → Prop} : aryK (.ar m e ag) H = H m e := rfl
theorem qSlice_ref {t : TypeId} {id off : Nat} {lo hi : Option M} : opSlice P T t (.ref id off) lo hi none F = (bndOk lo ∧ bndOk hi ∧ layF P t fun L _ _ => aryK L fun n e => blkK T id fun _ cs =>
    off + n * e ≤ cs.length ∧ n ≤ 9223372036854775807 ∧ bndV lo 0 ≤ bndV hi n ∧ bndV hi n ≤ n ∧ F (.sr id (off + bndV lo 0 * e) (bndV hi n - bndV lo 0) e)) := by
  unfold layF opSlice blkK
  cases h : lay P t with
  | none => rfl
  | some y =>
    obtain ⟨k, s, z⟩ := y
    cases k with
    | ar n e ag =>
      simp only [aryK]
      cases T[id]? with
      | none => rfl
      | some o => cases o <;> rfl
    | one => rfl
    | sl _ _ _ => rfl
    | st _ _ => rfl

def apK (T : Tbl) (e b : Nat) (s : M) (ns : List M) (m : Nat) (K : M → Tbl → Prop) : Prop :=
  match s with
  | .v (.slice none 0 0) => m * b ≤ 140737488355328 ∧ m ≤ 9223372036854775807 ∧ K (.sr T.length 0 m e) (T ++ [.cells true ns])
  | .sx => m * b ≤ 140737488355328 ∧ m ≤ 9223372036854775807 ∧ K (.sr T.length 0 m e) (T ++ [.cells true ns])
  | .sr id off n sz => (match T[id]? with
    | some (.cells fr cs) => off = 0 ∧ sz = e ∧ cs.length = n * e ∧ (n + m) * b ≤ 140737488355328 ∧ n + m ≤ 9223372036854775807 ∧
        K (.sr T.length 0 (n + m) e) (T.set id .gone ++ [.cells fr (cs ++ ns)])
    | _ => False)
  | _ => False
theorem qAppend {t : TypeId} {s x : M} : opAppend P T #[t, t] s x K = layF P t fun L _ _ => slzK L fun e b ez => ez.length = e ∧ rowK T e x fun ns m => ns.all (oneCell T) = true ∧ apK T e b s ns m K := by
  unfold layF opAppend rowK
  have e1 : (#[t, t] : Array TypeId)[0]? = some t := rfl
  have e2 : (#[t, t] : Array TypeId)[1]? = some t := rfl
  simp only [e1, e2, true_and]
  cases h : lay P t with
  | none => rfl
  | some y =>
    obtain ⟨k, s', z⟩ := y
    cases k with
    | sl e b ez =>
      simp only [slzK]
      cases rowOf T e x with
      | none => rfl
      | some p => rfl
    | one => rfl
    | ar _ _ _ => rfl
    | st _ _ => rfl
theorem apK_nil {e b m : Nat} {ns : List M} : apK T e b (.v (.slice none 0 0)) ns m K = (m * b ≤ 140737488355328 ∧ m ≤ 9223372036854775807 ∧ lenK T fun l => pushK T (.cells true ns) fun T' => K (.sr l 0 m e) T') := rfl
theorem apK_sx {e b m : Nat} {ns : List M} : apK T e b .sx ns m K = (m * b ≤ 140737488355328 ∧ m ≤ 9223372036854775807 ∧ lenK T fun l => pushK T (.cells true ns) fun T' => K (.sr l 0 m e) T') := rfl
theorem apK_sr {e b m id off n sz : Nat} {ns : List M} : apK T e b (.sr id off n sz) ns m K = blkK T id fun fr cs => off = 0 ∧ sz = e ∧ cs.length = n * e ∧ (n + m) * b ≤ 140737488355328 ∧ n + m ≤ 9223372036854775807 ∧
    setK T id .gone fun T1 => lenK T fun l => pushK T1 (.cells fr (cs ++ ns)) fun T' => K (.sr l 0 (n + m) e) T' := by
  unfold apK blkK setK lenK pushK
  simp only
  cases h : T[id]? with
  | none => simp only [h]
  | some o => cases o <;> simp only [h]

def lenD (T : Tbl) (d : TypeDesc) (m : M) (F : M → Prop) : Prop :=
  match d with
  | .slice _ => oneCell T m = true ∧ (match m with | .v (.string _) => False | _ => True) ∧ ∃ n, lenM m = some n ∧ F (.v (.int .i64 (n : Int)))
  | .string => (match m with | .v (.string s) => F (.v (.int .i64 (s.size : Int))) | _ => False)
  | .array n _ => F (.v (.int .i64 (n : Int)))
  | _ => False
theorem qLen {t : TypeId} {m : M} : opLen P T #[t] m F = undF P t fun d => lenD T d m F := by
  unfold opLen undF
  have e1 : (#[t] : Array TypeId)[0]? = some t := rfl
  simp only [e1]
  cases P.underlying t with
  | none => rfl
  | some d => cases d <;> rfl
theorem lenD_sl {e : TypeId} {fr : Bool} {cs : List M} {len : Nat} : lenD T (.slice e) (.sl fr cs len) F = F (.v (.int .i64 (len : Int))) := by simp [lenD, oneCell, lenM]
theorem lenD_sr {e : TypeId} {id off len sz : Nat} : lenD T (.slice e) (.sr id off len sz) F = (liveB T id = true ∧ F (.v (.int .i64 (len : Int)))) := by simp [lenD, one_sr, lenM]
theorem lenD_nil {e : TypeId} : lenD T (.slice e) (.v (.slice none 0 0)) F = F (.v (.int .i64 0)) := by simp [lenD, oneCell, lenM]
theorem lenD_sx {e : TypeId} : lenD T (.slice e) .sx F = F (.v (.int .i64 0)) := by simp [lenD, oneCell, lenM]
theorem lenD_str {s : ByteArray} : lenD T .string (.v (.string s)) F = F (.v (.int .i64 (s.size : Int))) := rfl
theorem lenD_ar {e : TypeId} {m : Nat} {x : M} : lenD T (.array m e) x F = F (.v (.int .i64 (m : Int))) := rfl

def cvD (s d : TypeDesc) (m : M) (F : M → Prop) : Prop :=
  match d, m with
  | .int k, .v (.int _ n) => F (.v (.int k (k.wrap n)))
  | .string, .v (.string x) => F (.v (.string x))
  | _, _ => False
theorem qConvert {s d : TypeId} {m : M} : opConvert P s d m F = undF P s fun ds => undF P d fun dd => cvD ds dd m F := by
  unfold opConvert undF
  cases P.underlying s with
  | none => rfl
  | some ds =>
    cases P.underlying d with
    | none => rfl
    | some dd => cases dd <;> simp only [cvD] <;> (cases m <;> try rfl) <;> (rename_i x; cases x <;> rfl)
theorem cvD_int {ds : TypeDesc} {k k' : IntKind} {x : Int} : cvD ds (.int k) (.v (.int k' x)) F = F (.v (.int k (k.wrap x))) := rfl
theorem cvD_str {ds : TypeDesc} {x : ByteArray} : cvD ds .string (.v (.string x)) F = F (.v (.string x)) := rfl

/-! ### The same or not. -/
def eqB (op : BinOp) (r : Bool) (F : M → Prop) : Prop :=
  match op with
  | .eql => F (.v (.bool r))
  | .neq => F (.v (.bool (!r)))
  | _ => False
theorem eqB_eql {r : Bool} : eqB .eql r F = F (.v (.bool r)) := rfl
theorem eqB_neq {r : Bool} : eqB .neq r F = F (.v (.bool (!r))) := rfl
def bolD (d : TypeDesc) : Bool := match d with | .bool => true | _ => false
def ptrD (d : TypeDesc) : Bool := match d with | .pointer _ => true | _ => false
def slcD (d : TypeDesc) : Bool := match d with | .slice _ => true | _ => false
theorem bolD_bool : bolD .bool = true := rfl
theorem ptrD_pointer {e : TypeId} : ptrD (.pointer e) = true := rfl
theorem slcD_slice {e : TypeId} : slcD (.slice e) = true := rfl
theorem qEq_bool {op : BinOp} {t : TypeId} {a b : Bool} : opBin P T op t (.v (.bool a)) (.v (.bool b)) F = undF P t fun d => bolD d = true ∧ eqB op (a == b) F := by
  unfold opBin undF
  simp only [one_bool, true_and, eqM]
  cases P.underlying t with
  | none => simp
  | some d => cases d <;> simp [bolD] <;> cases op <;> simp [eqB]
theorem qEq_ref {op : BinOp} {t : TypeId} {id off : Nat} : opBin P T op t (.ref id off) (.v (.pointer none)) F = (liveB T id = true ∧ undF P t fun d => ptrD d = true ∧ eqB op false F) := by
  unfold opBin undF
  simp only [one_ptr, one_ref, true_and, eqM]
  cases P.underlying t with
  | none => simp
  | some d => cases d <;> simp [ptrD] <;> cases op <;> simp [eqB]
theorem qEq_ip {op : BinOp} {t : TypeId} {fr : Bool} {cs : List M} {off : Nat} : opBin P T op t (.ip fr cs off) (.v (.pointer none)) F = (undF P t fun d => ptrD d = true ∧ eqB op false F) := by
  unfold opBin undF
  simp only [one_ptr, one_ip, true_and, eqM]
  cases P.underlying t with
  | none => simp
  | some d => cases d <;> simp [ptrD] <;> cases op <;> simp [eqB]
theorem qEq_ptr {op : BinOp} {t : TypeId} : opBin P T op t (.v (.pointer none)) (.v (.pointer none)) F = (undF P t fun d => ptrD d = true ∧ eqB op true F) := by
  unfold opBin undF
  simp only [one_ptr, true_and, eqM]
  cases P.underlying t with
  | none => simp
  | some d => cases d <;> simp [ptrD] <;> cases op <;> simp [eqB]
theorem qEq_slnil {op : BinOp} {t : TypeId} {fr : Bool} {cs : List M} {len : Nat} : opBin P T op t (.sl fr cs len) (.v (.slice none 0 0)) F = (undF P t fun d => slcD d = true ∧ len ≠ 0 ∧ eqB op false F) := by
  unfold opBin undF
  simp only [one_slv, one_sl, true_and, eqM]
  cases P.underlying t with
  | none => simp
  | some d => cases d <;> simp [slcD] <;> cases op <;> simp [eqB]
theorem qEq_srnil {op : BinOp} {t : TypeId} {id off len sz : Nat} : opBin P T op t (.sr id off len sz) (.v (.slice none 0 0)) F = (liveB T id = true ∧ undF P t fun d => slcD d = true ∧ len ≠ 0 ∧ eqB op false F) := by
  unfold opBin undF
  simp only [one_slv, one_sr, true_and, eqM]
  cases P.underlying t with
  | none => simp
  | some d => cases d <;> simp [slcD] <;> cases op <;> simp [eqB]
theorem qEq_nilnil {op : BinOp} {t : TypeId} : opBin P T op t (.v (.slice none 0 0)) (.v (.slice none 0 0)) F = (undF P t fun d => slcD d = true ∧ eqB op true F) := by
  unfold opBin undF
  simp only [one_slv, true_and, eqM]
  cases P.underlying t with
  | none => simp
  | some d => cases d <;> simp [slcD] <;> cases op <;> simp [eqB]
theorem qS_add {t : TypeId} {x y : ByteArray} : opBin P T .add t (.v (.string x)) (.v (.string y)) F = (x.size + y.size ≤ 9223372036854775807 ∧ F (.v (.string (x ++ y)))) := by
  rw [opBin_str, vBinS_add]; by_cases h : x.size + y.size ≤ 9223372036854775807 <;> simp [h]
theorem qS_eql {t : TypeId} {x y : ByteArray} : opBin P T .eql t (.v (.string x)) (.v (.string y)) F = F (.v (.bool (x.toList == y.toList))) := by rw [opBin_str, vBinS_eql]
theorem qS_neq {t : TypeId} {x y : ByteArray} : opBin P T .neq t (.v (.string x)) (.v (.string y)) F = F (.v (.bool (!(x.toList == y.toList)))) := by rw [opBin_str, vBinS_neq]
theorem qS_lss {t : TypeId} {x y : ByteArray} : opBin P T .lss t (.v (.string x)) (.v (.string y)) F = F (.v (.bool (Op.bytesLess x.toList y.toList))) := by rw [opBin_str, vBinS_lss]
theorem qS_leq {t : TypeId} {x y : ByteArray} : opBin P T .leq t (.v (.string x)) (.v (.string y)) F = F (.v (.bool (Op.bytesLess x.toList y.toList || x.toList == y.toList))) := by rw [opBin_str, vBinS_leq]
theorem qS_gtr {t : TypeId} {x y : ByteArray} : opBin P T .gtr t (.v (.string x)) (.v (.string y)) F = F (.v (.bool (!(Op.bytesLess x.toList y.toList || x.toList == y.toList)))) := by rw [opBin_str, vBinS_gtr]
theorem qS_geq {t : TypeId} {x y : ByteArray} : opBin P T .geq t (.v (.string x)) (.v (.string y)) F = F (.v (.bool (!(Op.bytesLess x.toList y.toList)))) := by rw [opBin_str, vBinS_geq]
theorem pU_xor {k : IntKind} {x : Int} : opUn .xor (.v (.int k x)) F = F (.v (.int k (k.wrap (BitVec.ofInt k.bits (if k.signed then -1 else k.max) ^^^ BitVec.ofInt k.bits x).toNat))) := rfl

/-! ### Lists of plain things. -/
/-- What is read at a place. -/
def rd {α : Type} [Inhabited α] (xs : List α) (i : Nat) : α := xs.getD i default
theorem rd_lt {α : Type} [Inhabited α] {xs : List α} {i : Nat} (h : i < xs.length) : rd xs i = xs[i] := by simp [rd, List.getD, List.getElem?_eq_getElem h]
theorem rd_get? {α : Type} [Inhabited α] {xs : List α} {i : Nat} (h : i < xs.length) : xs[i]? = some (rd xs i) := by rw [rd_lt h]; exact List.getElem?_eq_getElem h
theorem atM_map {α : Type} [Inhabited α] {f : α → M} {xs : List α} {i : Nat} : atM (xs.map f) i F = (i < xs.length ∧ F (f (rd xs i))) := by
  unfold atM
  rw [List.getElem?_map]
  by_cases h : i < xs.length
  · rw [rd_get? h]; simp [h]
  · rw [List.getElem?_eq_none (by omega)]; simp [h]
theorem putK_map {α : Type} {f : α → M} {xs : List α} {i : Nat} {y : α} {H : List M → Prop} : putK (xs.map f) i (f y) H = (i < xs.length ∧ H ((xs.set i y).map f)) := by
  simp [putK, List.map_set]
theorem putK_int {xs : List Int} {i : Nat} {k : IntKind} {y : Int} {H : List M → Prop} : putK (xs.map fun x => .v (.int k x)) i (.v (.int k y)) H = (i < xs.length ∧ H ((xs.set i y).map fun x => .v (.int k x))) := putK_map (f := fun x => .v (.int k x))
theorem putK_bool {xs : List Bool} {i : Nat} {y : Bool} {H : List M → Prop} : putK (xs.map fun x => .v (.bool x)) i (.v (.bool y)) H = (i < xs.length ∧ H ((xs.set i y).map fun x => .v (.bool x))) := putK_map (f := fun x => .v (.bool x))
end
end Go.Tl
