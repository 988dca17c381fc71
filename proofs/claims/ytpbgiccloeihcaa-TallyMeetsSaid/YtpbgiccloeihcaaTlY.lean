/- The tree logic, part Y: evaluation, each step before what comes behind it. -/
import Derived.Test.YtpbgiccloeihcaaTlX
namespace Go.Tl
section
variable {P : Program} {T : Tbl} {n n0 : Nat} {env : Env} {q : Bool} {K : M → Tbl → Prop} {F : M → Prop} {G : Tbl → Prop}

def evK (env : Env) (x : Operand) (F : M → Prop) : Prop := F (ev env x)
def slotK (env : Env) (k : Nat) (F : M → Prop) : Prop := F (env k)
def getK (ms : List M) (k : Nat) (F : M → Prop) : Prop := F (ms.getD k .any)
def lenK (T : Tbl) (F : Nat → Prop) : Prop := F T.length
def pushK (T : Tbl) (o : Ob) (G : Tbl → Prop) : Prop := G (T ++ [o])
def setK (T : Tbl) (i : Nat) (o : Ob) (G : Tbl → Prop) : Prop := G (T.set i o)
def blkK (T : Tbl) (i : Nat) (F : Bool → List M → Prop) : Prop :=
  match T[i]? with
  | some (.cells fr cs) => F fr cs
  | _ => False
def putK (cs : List M) (i : Nat) (v : M) (F : List M → Prop) : Prop := i < cs.length ∧ F (cs.set i v)
def boolK (m : M) (F : Bool → Prop) : Prop :=
  match m with
  | .v (.bool b) => F b
  | _ => False
def evL (env : Env) (xs : List Operand) (F : List M → Prop) : Prop := F (xs.map (ev env))
def evP (env : Env) (xs : List (Nat × Operand)) (F : List (Nat × M) → Prop) : Prop := F (xs.map fun p => (p.1, ev env p.2))
def evO (env : Env) (x : Option Operand) (F : Option M → Prop) : Prop := F (x.map (ev env))

theorem evK_tmp {k : Nat} : evK env (.tmp k) F = slotK env k F := rfl
theorem evK_int {k : IntKind} {x : Int} : evK env (.const (.int k x)) F = F (.v (.int k x)) := rfl
theorem evK_bool {b : Bool} : evK env (.const (.bool b)) F = F (.v (.bool b)) := rfl
theorem evK_str {b : ByteArray} : evK env (.const (.string b)) F = F (.v (.string b)) := rfl
theorem evK_ptr {a : Option Addr} : evK env (.const (.pointer a)) F = F (.v (.pointer a)) := rfl
theorem evK_sl {a : Option Addr} {l c : Nat} : evK env (.const (.slice a l c)) F = F (.v (.slice a l c)) := rfl
theorem evK_map {a : Option Nat} : evK env (.const (.map a)) F = F (.v (.map a)) := rfl
theorem evK_nilFunc : evK env (.const .nilFunc) F = F (.v .nilFunc) := rfl
theorem evK_nilIface : evK env (.const .nilIface) F = F (.v .nilIface) := rfl
theorem evK_func {f : FuncId} : evK env (.func f) F = F (.fn (.func f) [] []) := rfl
theorem evK_agg {cs : Array Value} : evK env (.const (.agg cs)) F = F (.agg (cs.toList.map .v)) := rfl

theorem slotK_hit {d : Nat} {m : M} (h : d < n) : slotK (updO n env (some d) m) d F = F m := by simp [slotK, updO, upd, h]
theorem slotK_miss {d k : Nat} {m : M} (h : k ≠ d) : slotK (updO n env (some d) m) k F = slotK env k F := by simp [slotK, updO, upd, h]
theorem slotK_none {k : Nat} {m : M} : slotK (updO n env none m) k F = slotK env k F := rfl
theorem slotK_hit' {d : Nat} {m : M} (h : d < n) : slotK (upd n env d m) d F = F m := by simp [slotK, upd, h]
theorem slotK_miss' {d k : Nat} {m : M} (h : k ≠ d) : slotK (upd n env d m) k F = slotK env k F := by simp [slotK, upd, h]
theorem slotK_arg {ms : List M} {k : Nat} : slotK (argEnv ms) k F = getK ms k F := rfl
theorem slotK_envL_hit {k : Nat} {m : M} {l : List (Nat × M)} : slotK (envL ((k, m) :: l)) k F = F m := by simp [slotK, envL]
theorem slotK_envL_miss {a k : Nat} {m : M} {l : List (Nat × M)} (h : k ≠ a) : slotK (envL ((a, m) :: l)) k F = slotK (envL l) k F := by simp [slotK, envL, h]
theorem slotK_envL_nil {k : Nat} : slotK (envL []) k F = F .any := rfl
theorem getK_zero {m : M} {ms : List M} : getK (m :: ms) 0 F = F m := rfl
theorem getK_succ {m : M} {ms : List M} {k : Nat} : getK (m :: ms) (k + 1) F = getK ms k F := by simp [getK]
theorem getK_nil {k : Nat} : getK [] k F = F .any := by simp [getK]
theorem lenK_nil {F : Nat → Prop} : lenK [] F = F 0 := rfl
theorem lenK_cons {o : Ob} {F : Nat → Prop} : lenK (o :: T) F = lenK T (fun n => F (n + 1)) := rfl
theorem pushK_nil {o : Ob} : pushK [] o G = G [o] := rfl
theorem pushK_cons {o o' : Ob} : pushK (o :: T) o' G = pushK T o' (fun T' => G (o :: T')) := rfl
theorem setK_zero {o o' : Ob} : setK (o :: T) 0 o' G = G (o' :: T) := rfl
theorem setK_succ {o o' : Ob} {i : Nat} : setK (o :: T) (i + 1) o' G = setK T i o' (fun T' => G (o :: T')) := rfl
theorem blkK_zero {fr : Bool} {cs : List M} {F : Bool → List M → Prop} : blkK (.cells fr cs :: T) 0 F = F fr cs := rfl
theorem blkK_succ {o : Ob} {i : Nat} {F : Bool → List M → Prop} : blkK (o :: T) (i + 1) F = blkK T i F := by simp [blkK]
theorem putK_zero {c v : M} {cs : List M} {F : List M → Prop} : putK (c :: cs) 0 v F = F (v :: cs) := by simp [putK]
theorem putK_succ {c v : M} {cs : List M} {i : Nat} {F : List M → Prop} : putK (c :: cs) (i + 1) v F = putK cs i v (fun cs' => F (c :: cs')) := by simp [putK]
theorem boolK_b {b : Bool} {F : Bool → Prop} : boolK (.v (.bool b)) F = F b := rfl
theorem evL_nil {F : List M → Prop} : evL env [] F = F [] := rfl
theorem evL_cons {x : Operand} {xs : List Operand} {F : List M → Prop} : evL env (x :: xs) F = evK env x (fun m => evL env xs (fun ms => F (m :: ms))) := rfl
theorem evP_nil {F : List (Nat × M) → Prop} : evP env [] F = F [] := rfl
theorem evP_cons {i : Nat} {x : Operand} {xs : List (Nat × Operand)} {F : List (Nat × M) → Prop} : evP env ((i, x) :: xs) F = evK env x (fun m => evP env xs (fun ms => F ((i, m) :: ms))) := rfl
theorem evO_none {F : Option M → Prop} : evO env none F = F none := rfl
theorem evO_some {x : Operand} {F : Option M → Prop} : evO env (some x) F = evK env x (fun m => F (some m)) := rfl
theorem atM_zero {c : M} {cs : List M} : atM (c :: cs) 0 F = F c := rfl
theorem atM_succ {c : M} {cs : List M} {i : Nat} : atM (c :: cs) (i + 1) F = atM cs i F := by simp [atM]
theorem atM_of {cs : List M} {i : Nat} {c : M} (h : cs[i]? = some c) (F : M → Prop) : atM cs i F = F c := by simp [atM, h]

/-! ### Operations. -/
theorem pO_move {x : Operand} : opV P q env T (.move x) K = evK env x (fun m => K m T) := rfl
theorem pO_assign {x : Operand} : opV P q env T (.assign x) K = evK env x (fun m => K m T) := rfl
theorem pO_alloc {t : TypeId} {k : LK} {s : Nat} {z : List Value} (h : lay P t = some (k, s, z)) : opV P q env T (.alloc t) K = lenK T (fun l => pushK T (.cells true (z.map .v)) (fun T' => K (.ref l 0) T')) := by
  simp only [opV_alloc, h]; rfl
theorem pO_load {t : TypeId} {a : Operand} : opV P q env T (.load t a) K = evK env a (fun m => opLoad P T t m (fun r => K r T)) := rfl
theorem pO_store {t : TypeId} {a x : Operand} : opV P q env T (.store t a x) K = (q = false ∧ evK env a (fun m => evK env x (fun v => opStore P T t m v (fun T' => K .any T')))) := rfl
theorem pO_build {t : TypeId} {ps : Array (Nat × Operand)} : opV P q env T (.build t ps) K = evP env ps.toList (fun l => opBuild P T t l (fun m => K m T)) := rfl
theorem pO_buildSlice {t : TypeId} {k : Nat} {ps : Array (Nat × Operand)} : opV P q env T (.buildSlice t k ps) K = evP env ps.toList (fun l => opBuildSlice P T t k l K) := rfl
theorem pO_binOp {op : BinOp} {t u : TypeId} {x y : Operand} : opV P q env T (.binOp op t x y u) K = evK env x (fun a => evK env y (fun b => opBin P T op t a b (fun m => K m T))) := rfl
theorem pO_unOp {op : UnOp} {t : TypeId} {x : Operand} : opV P q env T (.unOp op t x) K = evK env x (fun a => opUn op a (fun m => K m T)) := rfl
theorem pO_convert {s d : TypeId} {x : Operand} : opV P q env T (.convert s d x) K = evK env x (fun a => opConvert P s d a (fun m => K m T)) := rfl
theorem pO_makeFunc {fn : Fn} {fs cs : Array Operand} : opV P q env T (.makeFunc fn fs cs) K = evL env fs.toList (fun a => evL env cs.toList (fun b => K (.fn fn a b) T)) := rfl
theorem pO_makeSlice {t : TypeId} {l c : Operand} : opV P q env T (.makeSlice t l c) K = evK env l (fun a => evK env c (fun b => opMakeSlice P T t a b K)) := rfl
theorem pO_slice {t : TypeId} {x : Operand} {lo hi mx : Option Operand} : opV P q env T (.slice t x lo hi mx) K =
    evK env x (fun a => evO env lo (fun l => evO env hi (fun h => evO env mx (fun m => oneCell T a = true ∧ opSlice P T t a l h m (fun r => K r T))))) := rfl
theorem pO_fieldAddr {t : TypeId} {x : Operand} {f : Nat} : opV P q env T (.fieldAddr t x f) K = evK env x (fun a => oneCell T a = true ∧ opFieldAddr P t f a (fun m => K m T)) := rfl
theorem pO_indexAddr {t : TypeId} {x i : Operand} : opV P q env T (.indexAddr t x i) K = evK env x (fun a => evK env i (fun b => oneCell T a = true ∧ opIndexAddr P t a b (fun m => K m T))) := rfl
theorem pO_field {t : TypeId} {x : Operand} {f : Nat} : opV P q env T (.field t x f) K = evK env x (fun a => opField P t f a (fun m => K m T)) := rfl
theorem pO_index {t : TypeId} {x i : Operand} : opV P q env T (.index t x i) K = evK env x (fun a => evK env i (fun b => opIndex P t a b (fun m => K m T))) := rfl
theorem pO_extract {x : Operand} {i : Nat} : opV P q env T (.extract x i) K = evK env x (fun a => opExtract a i (fun m => K m T)) := rfl
theorem pO_pick {c a b : Operand} : opV P q env T (.pick c a b) K = evK env c (fun m => boolK m (fun t => evK env a (fun x => evK env b (fun y => K (if t = true then x else y) T)))) := by
  unfold boolK evK
  simp only [opV_pick]
  split <;> simp_all
def boxK (T : Tbl) (m : M) (K : M → Tbl → Prop) : Prop :=
  match cellsOf T m with
  | some cs => K (.ref T.length 0) (T ++ [.cells true cs])
  | none => False
def nilK (T : Tbl) (m : M) (K : M → Prop) : Prop :=
  match m with
  | .ref id off => oneCell T (.ref id off) = true ∧ K (.ref id off)
  | .ip fr cells off => K (.ip fr cells off)
  | .fn (.func f) a b => K (.fn (.func f) a b)
  | _ => False
theorem pO_box {t : TypeId} {x : Operand} : opV P q env T (.box t x) K = evK env x (fun m => boxK T m K) := by
  unfold evK boxK
  simp only [opV_box]
  cases cellsOf T (ev env x) <;> rfl
theorem boxK_eq {m : M} : boxK T m K = (match cellsOf T m with | some cs => lenK T (fun l => pushK T (.cells true cs) (fun T' => K (.ref l 0) T')) | none => False) := by
  unfold boxK lenK pushK
  cases cellsOf T m <;> rfl
theorem pO_nilCheck {x : Operand} : opV P q env T (.nilCheck x) K = evK env x (fun m => nilK T m (fun r => K r T)) := by
  unfold evK nilK
  simp only [opV_nilCheck]
  cases ev env x <;> rfl
theorem nilK_ref {id off : Nat} : nilK T (.ref id off) F = (oneCell T (.ref id off) = true ∧ F (.ref id off)) := rfl
theorem nilK_ip {fr : Bool} {cells : List M} {off : Nat} : nilK T (.ip fr cells off) F = F (.ip fr cells off) := rfl
theorem nilK_fn {f : FuncId} {a b : List M} : nilK T (.fn (.func f) a b) F = F (.fn (.func f) a b) := rfl

/-! ### Loads, stores, addresses. -/
theorem pL_flat {t : TypeId} {k : LK} {s : Nat} {z : List Value} (h : lay P t = some (k, s, z)) (hk : k.ag = false) (m : M) : opLoad P T t m F = ldM T m F := opLoad_flat h hk m F
theorem ldM_ref {id off : Nat} : ldM T (.ref id off) F = blkK T id (fun _ cs => atM cs off F) := by
  unfold ldM blkK atM behind
  cases h : T[id]? with
  | none => simp [h]
  | some o =>
    cases o with
    | gone => simp [h]
    | cells fr cs => simp only [h]; cases cs[off]? <;> rfl
theorem ldM_ip {fr : Bool} {cells : List M} {off : Nat} : ldM T (.ip fr cells off) F = atM cells off F := rfl
theorem ldA_ref {s id off : Nat} : ldA s T (.ref id off) F = blkK T id (fun _ cs => off + s ≤ cs.length ∧ F (.agg ((cs.drop off).take s))) := by
  unfold ldA blkK behind
  cases h : T[id]? with
  | none => simp [h]
  | some o => cases o <;> simp [h]
theorem ldA_ip {s : Nat} {fr : Bool} {cells : List M} {off : Nat} : ldA s T (.ip fr cells off) F = (off + s ≤ cells.length ∧ F (.agg ((cells.drop off).take s))) := rfl

def storeK (T : Tbl) (id off : Nat) (v : M) (G : Tbl → Prop) : Prop :=
  match cellsOf T v with
  | some [c] => oneCell T c = true ∧ blkK T id (fun fr cs => putK cs off c (fun cs' => setK T id (.cells fr cs') G))
  | _ => False

theorem pS_one {t : TypeId} {k : LK} {z : List Value} (h : lay P t = some (k, 1, z)) {id off : Nat} {v : M} : opStore P T t (.ref id off) v G = storeK T id off v G := by
  rw [opStore_eq h]
  unfold stM storeK blkK putK setK
  cases hT : T[id]? with
  | none => simp only [hT]; cases cellsOf T v with
    | none => rfl
    | some l => cases l with
      | nil => rfl
      | cons c l => cases l <;> simp
  | some o =>
    cases o with
    | gone => simp only [hT]; cases cellsOf T v with
      | none => rfl
      | some l => cases l with
        | nil => rfl
        | cons c l => cases l <;> simp
    | cells fr cs =>
      simp only [hT]
      cases hc : cellsOf T v with
      | none => rfl
      | some l =>
        cases l with
        | nil => simp
        | cons c l =>
          cases l with
          | cons c' l => simp
          | nil =>
            apply propext
            constructor
            · rintro ⟨h1, _, h3, h4⟩
              refine ⟨by simpa using h1, by omega, ?_⟩
              have e : cs.take off ++ [c] ++ cs.drop (off + 1) = cs.set off c := by
                rw [List.set_eq_take_append_cons_drop, if_pos (by omega)]; simp
              rw [← e]; exact h4
            · rintro ⟨h1, h2, h3⟩
              refine ⟨by simpa using h1, rfl, by omega, ?_⟩
              have e : cs.take off ++ [c] ++ cs.drop (off + 1) = cs.set off c := by
                rw [List.set_eq_take_append_cons_drop, if_pos h2]; simp
              rw [e]; exact h3

theorem storeK_int {id off : Nat} {k : IntKind} {x : Int} : storeK T id off (.v (.int k x)) G = blkK T id (fun fr cs => putK cs off (.v (.int k x)) (fun cs' => setK T id (.cells fr cs') G)) := by simp [storeK, cellsOf, oneCell]
theorem storeK_bool {id off : Nat} {b : Bool} : storeK T id off (.v (.bool b)) G = blkK T id (fun fr cs => putK cs off (.v (.bool b)) (fun cs' => setK T id (.cells fr cs') G)) := by simp [storeK, cellsOf, oneCell]
theorem storeK_str {id off : Nat} {b : ByteArray} : storeK T id off (.v (.string b)) G = blkK T id (fun fr cs => putK cs off (.v (.string b)) (fun cs' => setK T id (.cells fr cs') G)) := by simp [storeK, cellsOf, oneCell]
theorem storeK_sl {id off len : Nat} {fr : Bool} {cells : List M} : storeK T id off (.sl fr cells len) G = blkK T id (fun f cs => putK cs off (.sl fr cells len) (fun cs' => setK T id (.cells f cs') G)) := by simp [storeK, cellsOf, oneCell]

def faK (ps : List (Nat × Nat)) (f : Nat) (m : M) (F : M → Prop) : Prop :=
  match ps[f]? with
  | some (o, s) => s ≠ 0 ∧ (match m with
    | .ref id off => F (.ref id (off + o))
    | .ip fr cells off => F (.ip fr cells (off + o))
    | _ => False)
  | none => False
theorem pFA {t : TypeId} {ps : List (Nat × Nat)} {ags : List Bool} {s : Nat} {z : List Value} (h : lay P t = some (.st ps ags, s, z)) {f : Nat} {m : M} : opFieldAddr P t f m F = faK ps f m F := by
  unfold opFieldAddr faK
  rw [h]
  cases h' : ps[f]? with
  | none => simp [h']
  | some p => obtain ⟨o, s⟩ := p; simp only [h']; cases m <;> rfl
theorem faK_zero {o s : Nat} {ps : List (Nat × Nat)} {m : M} : faK ((o, s) :: ps) 0 m F = (s ≠ 0 ∧ (match m with | .ref id off => F (.ref id (off + o)) | .ip fr cells off => F (.ip fr cells (off + o)) | _ => False)) := by
  unfold faK
  cases m <;> rfl
theorem faK_succ {p : Nat × Nat} {ps : List (Nat × Nat)} {f : Nat} {m : M} : faK (p :: ps) (f + 1) m F = faK ps f m F := by
  simp [faK]
theorem faK_ref {o s : Nat} {ps : List (Nat × Nat)} {id off : Nat} : faK ((o, s + 1) :: ps) 0 (.ref id off) F = F (.ref id (off + o)) := by simp [faK]
theorem faK_ip {o s : Nat} {ps : List (Nat × Nat)} {fr : Bool} {cells : List M} {off : Nat} : faK ((o, s + 1) :: ps) 0 (.ip fr cells off) F = F (.ip fr cells (off + o)) := by simp [faK]
theorem pB_add {t : TypeId} {k : IntKind} {x y : Int} : opBin P T .add t (.v (.int k x)) (.v (.int k y)) F = F (.v (.int k (k.wrap (x + y)))) := by rw [opBin_int, vBin_add]
theorem pB_sub {t : TypeId} {k : IntKind} {x y : Int} : opBin P T .sub t (.v (.int k x)) (.v (.int k y)) F = F (.v (.int k (k.wrap (x - y)))) := by rw [opBin_int, vBin_sub]
theorem pB_mul {t : TypeId} {k : IntKind} {x y : Int} : opBin P T .mul t (.v (.int k x)) (.v (.int k y)) F = F (.v (.int k (k.wrap (x * y)))) := by rw [opBin_int, vBin_mul]
theorem pB_eql {t : TypeId} {k : IntKind} {x y : Int} : opBin P T .eql t (.v (.int k x)) (.v (.int k y)) F = F (.v (.bool (decide (x = y)))) := by rw [opBin_int, vBin_eql]
theorem pB_neq {t : TypeId} {k : IntKind} {x y : Int} : opBin P T .neq t (.v (.int k x)) (.v (.int k y)) F = F (.v (.bool (decide (x ≠ y)))) := by rw [opBin_int, vBin_neq]
theorem pB_lss {t : TypeId} {k : IntKind} {x y : Int} : opBin P T .lss t (.v (.int k x)) (.v (.int k y)) F = F (.v (.bool (decide (x < y)))) := by rw [opBin_int, vBin_lss]
theorem pB_leq {t : TypeId} {k : IntKind} {x y : Int} : opBin P T .leq t (.v (.int k x)) (.v (.int k y)) F = F (.v (.bool (decide (x ≤ y)))) := by rw [opBin_int, vBin_leq]
theorem pB_gtr {t : TypeId} {k : IntKind} {x y : Int} : opBin P T .gtr t (.v (.int k x)) (.v (.int k y)) F = F (.v (.bool (decide (x > y)))) := by rw [opBin_int, vBin_gtr]
theorem pB_geq {t : TypeId} {k : IntKind} {x y : Int} : opBin P T .geq t (.v (.int k x)) (.v (.int k y)) F = F (.v (.bool (decide (x ≥ y)))) := by rw [opBin_int, vBin_geq]
theorem pB_and {t : TypeId} {k : IntKind} {x y : Int} : opBin P T .and t (.v (.int k x)) (.v (.int k y)) F = F (.v (.int k (k.wrap (BitVec.ofInt k.bits x &&& BitVec.ofInt k.bits y).toNat))) := by rw [opBin_int, vBin_and]
theorem pB_or {t : TypeId} {k : IntKind} {x y : Int} : opBin P T .or t (.v (.int k x)) (.v (.int k y)) F = F (.v (.int k (k.wrap (BitVec.ofInt k.bits x ||| BitVec.ofInt k.bits y).toNat))) := by rw [opBin_int, vBin_or]
theorem pB_xor {t : TypeId} {k : IntKind} {x y : Int} : opBin P T .xor t (.v (.int k x)) (.v (.int k y)) F = F (.v (.int k (k.wrap (BitVec.ofInt k.bits x ^^^ BitVec.ofInt k.bits y).toNat))) := by rw [opBin_int, vBin_xor]
theorem pB_andNot {t : TypeId} {k : IntKind} {x y : Int} : opBin P T .andNot t (.v (.int k x)) (.v (.int k y)) F = F (.v (.int k (k.wrap (BitVec.ofInt k.bits x &&& ~~~ BitVec.ofInt k.bits y).toNat))) := by rw [opBin_int, vBin_andNot]
theorem pB_quo {t : TypeId} {k : IntKind} {x y : Int} : opBin P T .quo t (.v (.int k x)) (.v (.int k y)) F = (y ≠ 0 ∧ F (.v (.int k (k.wrap (x.tdiv y))))) := by rw [opBin_int, vBin_quo]; by_cases h : y = 0 <;> simp [h]
theorem pB_rem {t : TypeId} {k : IntKind} {x y : Int} : opBin P T .rem t (.v (.int k x)) (.v (.int k y)) F = (y ≠ 0 ∧ F (.v (.int k (x.tmod y)))) := by rw [opBin_int, vBin_rem]; by_cases h : y = 0 <;> simp [h]
theorem pB_shl {t : TypeId} {k k' : IntKind} {x y : Int} : opBin P T .shl t (.v (.int k x)) (.v (.int k' y)) F = (0 ≤ y ∧ F (.v (.int k (k.wrap (x * 2 ^ min y.toNat k.bits))))) := by rw [opBin_int, vBin_shl]; by_cases h : y < 0 <;> simp [h] <;> omega
theorem pB_shr {t : TypeId} {k k' : IntKind} {x y : Int} : opBin P T .shr t (.v (.int k x)) (.v (.int k' y)) F = (0 ≤ y ∧ F (.v (.int k (x.fdiv (2 ^ min y.toNat k.bits))))) := by rw [opBin_int, vBin_shr]; by_cases h : y < 0 <;> simp [h] <;> omega
theorem pU_not {b : Bool} : opUn .not (.v (.bool b)) F = F (.v (.bool (!b))) := rfl
theorem pU_neg {k : IntKind} {x : Int} : opUn .neg (.v (.int k x)) F = F (.v (.int k (k.wrap (0 - x)))) := rfl
theorem pI_sr {t : TypeId} {e b : Nat} {ez : List Value} {s : Nat} {z : List Value} (h : lay P t = some (.sl e b ez, s, z)) {id off len sz : Nat} {k : IntKind} {x : Int} :
    opIndexAddr P t (.sr id off len sz) (.v (.int k x)) F = (0 ≤ x ∧ x < len ∧ sz = e ∧ F (.ref id (off + x.toNat * e))) := by simp [opIndexAddr, h]
theorem pI_sl {t : TypeId} {e b : Nat} {ez : List Value} {s : Nat} {z : List Value} (h : lay P t = some (.sl e b ez, s, z)) {fr : Bool} {cells : List M} {len : Nat} {k : IntKind} {x : Int} :
    opIndexAddr P t (.sl fr cells len) (.v (.int k x)) F = (0 ≤ x ∧ x < len ∧ F (.ip fr cells (x.toNat * e))) := by simp [opIndexAddr, h]
theorem pI_arR {t : TypeId} {m e : Nat} {ag : Bool} {s : Nat} {z : List Value} (h : lay P t = some (.ar m e ag, s, z)) {id off : Nat} {k : IntKind} {x : Int} :
    opIndexAddr P t (.ref id off) (.v (.int k x)) F = (0 ≤ x ∧ x < m ∧ F (.ref id (off + x.toNat * e))) := by simp [opIndexAddr, h]
theorem pI_arI {t : TypeId} {m e : Nat} {ag : Bool} {s : Nat} {z : List Value} (h : lay P t = some (.ar m e ag, s, z)) {fr : Bool} {cells : List M} {off : Nat} {k : IntKind} {x : Int} :
    opIndexAddr P t (.ip fr cells off) (.v (.int k x)) F = (0 ≤ x ∧ x < m ∧ F (.ip fr cells (off + x.toNat * e))) := by simp [opIndexAddr, h]
def guardD (os : List Oper) (j : Nat) (env : Env) (want : Bool) (yes no : Prop) : Prop :=
  match (os[j]?).bind (·.dst) with
  | some t => slotK env t (fun m => boolK m (fun b => if b = want then yes else no))
  | none => False
theorem guardK {ops : List Oper} {dst : Option Tmp} {op : Op} {ty : TypeId} {pos : String} {aft : Array Edge} {yes no : Prop} {j : Nat} {want : Bool} :
    guardM ⟨ops⟩ ⟨dst, op, ty, pos, aft, some (j, want)⟩ env yes no = guardD ops j env want yes no := by
  unfold guardM guardD slotK boolK
  simp only [List.getElem?_toArray]
  cases (ops[j]?).bind (·.dst) with
  | none => rfl
  | some t => simp only; cases env t <;> rfl
theorem guardD_zero {os : List Oper} {t : Tmp} {op : Op} {ty : TypeId} {pos : String} {aft : Array Edge} {g : Option (Nat × Bool)} {yes no : Prop} {want : Bool} :
    guardD (⟨some t, op, ty, pos, aft, g⟩ :: os) 0 env want yes no = slotK env t (fun m => boolK m (fun b => if b = want then yes else no)) := rfl
theorem guardD_succ {os : List Oper} {o : Oper} {j : Nat} {yes no : Prop} {want : Bool} : guardD (o :: os) (j + 1) env want yes no = guardD os j env want yes no := by simp [guardD]
theorem pR_none {ops : Array Oper} {R : Env → Tbl → Prop} {l : List Oper} {dst : Option Tmp} {op : Op} {ty : TypeId} {pos : String} {aft : Array Edge} :
    runO P n ops R (⟨dst, op, ty, pos, aft, none⟩ :: l) env T = opV P false env T op (fun m T' => runO P n ops R l (updO n env dst m) T') := rfl
theorem pR_some {ops : List Oper} {R : Env → Tbl → Prop} {l : List Oper} {dst : Option Tmp} {op : Op} {ty : TypeId} {pos : String} {aft : Array Edge} {j : Nat} {want : Bool} :
    runO P n ⟨ops⟩ R (⟨dst, op, ty, pos, aft, some (j, want)⟩ :: l) env T = guardD ops j env want (opV P false env T op (fun m T' => runO P n ⟨ops⟩ R l (updO n env dst m) T')) (runO P n ⟨ops⟩ R l (updO n env dst .any) T) := by
  simp only [runO, guardK]
theorem runO_call {ops : Array Oper} {R : Env → Tbl → Prop} {l : List Oper} {dst : Option Tmp} {f : FuncId} {c : Call} {ty : TypeId} {pos : String} {aft : Array Edge} (hc : c.callee = .value (.func f)) (K1 : M → Tbl → Prop)
    (h1 : CallW P false f (c.args.toList.map (ev env)) T K1) (h2 : ∀ m T', K1 m T' → runO P n ops R l (updO n env dst m) T') : runO P n ops R (⟨dst, .call c, ty, pos, aft, none⟩ :: l) env T := by
  simp only [runO, guardM, opV, hc, ev]
  simpa using h1.via h2
end
end Go.Tl
