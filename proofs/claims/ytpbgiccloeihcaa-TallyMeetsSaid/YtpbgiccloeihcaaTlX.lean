/- The tree logic, part X: for the simplifier: what is to be reckoned first, and what is not to be looked into before its turn. -/
import Derived.Test.YtpbgiccloeihcaaTlW
namespace Go.Tl
section
variable {P : Program} {T T' : Tbl} {n n0 : Nat} {env env' : Env}

/-! ### Do not look behind. -/
theorem runO_congr {ops : Array Oper} {K : Env → Tbl → Prop} {l l' : List Oper} (h : l = l') : runO P n ops K l env T = runO P n ops K l' env T := by rw [h]
theorem guardM_congr {ops : Array Oper} {o : Oper} {yes no : Prop} : guardM ops o env yes no = guardM ops o env yes no := rfl
theorem opV_congr {q : Bool} {o : Op} {K : M → Tbl → Prop} : opV P q env T o K = opV P q env T o K := rfl
theorem opLoad_congr {t : TypeId} {m m' : M} {K : M → Prop} (h : m = m') : opLoad P T t m K = opLoad P T t m' K := by rw [h]
theorem ldM_congr {m m' : M} {K : M → Prop} (h : m = m') (hT : T = T') : ldM T m K = ldM T' m' K := by rw [h, hT]
theorem ldA_congr {m m' : M} {K : M → Prop} (h : m = m') (hT : T = T') : ldA n T m K = ldA n T' m' K := by rw [h, hT]
theorem opStore_congr {t : TypeId} {m m' x x' : M} {K : Tbl → Prop} (h : m = m') (hx : x = x') : opStore P T t m x K = opStore P T t m' x' K := by rw [h, hx]
theorem stM_congr {m m' x x' : M} {K : Tbl → Prop} (h : m = m') (hx : x = x') (hT : T = T') : stM n T m x K = stM n T' m' x' K := by rw [h, hx, hT]
theorem opBuild_congr {t : TypeId} {ps ps' : List (Nat × M)} {K : M → Prop} (h : ps = ps') : opBuild P T t ps K = opBuild P T t ps' K := by rw [h]
theorem opBuildSlice_congr {t : TypeId} {len : Nat} {ps ps' : List (Nat × M)} {K : M → Tbl → Prop} (h : ps = ps') : opBuildSlice P T t len ps K = opBuildSlice P T t len ps' K := by rw [h]
theorem opFieldAddr_congr {t : TypeId} {f : Nat} {m m' : M} {K : M → Prop} (h : m = m') : opFieldAddr P t f m K = opFieldAddr P t f m' K := by rw [h]
theorem opIndexAddr_congr {t : TypeId} {m m' i i' : M} {K : M → Prop} (h : m = m') (hi : i = i') : opIndexAddr P t m i K = opIndexAddr P t m' i' K := by rw [h, hi]
theorem opField_congr {t : TypeId} {f : Nat} {m m' : M} {K : M → Prop} (h : m = m') : opField P t f m K = opField P t f m' K := by rw [h]
theorem opIndex_congr {t : TypeId} {m m' i i' : M} {K : M → Prop} (h : m = m') (hi : i = i') : opIndex P t m i K = opIndex P t m' i' K := by rw [h, hi]
theorem opExtract_congr {m m' : M} {i : Nat} {K : M → Prop} (h : m = m') : opExtract m i K = opExtract m' i K := by rw [h]
theorem opMakeSlice_congr {t : TypeId} {l l' c c' : M} {K : M → Tbl → Prop} (h : l = l') (hc : c = c') : opMakeSlice P T t l c K = opMakeSlice P T t l' c' K := by rw [h, hc]
theorem opSlice_congr {t : TypeId} {m m' : M} {lo lo' hi hi' mx mx' : Option M} {K : M → Prop} (h : m = m') (h1 : lo = lo') (h2 : hi = hi') (h3 : mx = mx') : opSlice P T t m lo hi mx K = opSlice P T t m' lo' hi' mx' K := by rw [h, h1, h2, h3]
theorem opBin_congr {op : BinOp} {t : TypeId} {a a' b b' : M} {K : M → Prop} (h : a = a') (h' : b = b') : opBin P T op t a b K = opBin P T op t a' b' K := by rw [h, h']
theorem opUn_congr {op : UnOp} {m m' : M} {K : M → Prop} (h : m = m') : opUn op m K = opUn op m' K := by rw [h]
theorem opConvert_congr {s d : TypeId} {m m' : M} {K : M → Prop} (h : m = m') : opConvert P s d m K = opConvert P s d m' K := by rw [h]
theorem opBuiltin_congr {q : Bool} {ts : Array TypeId} {b : Builtin} {ms ms' : List M} {K : M → Tbl → Prop} (h : ms = ms') : opBuiltin P q T ts b ms K = opBuiltin P q T ts b ms' K := by rw [h]
theorem opLen_congr {ts : Array TypeId} {m m' : M} {K : M → Prop} (h : m = m') : opLen P T ts m K = opLen P T ts m' K := by rw [h]
theorem opAppend_congr {ts : Array TypeId} {m m' x x' : M} {K : M → Tbl → Prop} (h : m = m') (hx : x = x') : opAppend P T ts m x K = opAppend P T ts m' x' K := by rw [h, hx]
theorem partM_congr {ag : Bool} {cs cs' : List M} {off off' size : Nat} {K : M → Prop} (h : cs = cs') (ho : off = off') : partM ag cs off size K = partM ag cs' off' size K := by rw [h, ho]
theorem CallW_congr {q : Bool} {f : FuncId} {args args' : List M} {K : M → Tbl → Prop} (h : args = args') (hT : T = T') : CallW P q f args T K = CallW P q f args' T' K := by rw [h, hT]
theorem WpC_congr {c : Code} {Q : Exit → Env → Tbl → Prop} (h : env = env') (hT : T = T') : WpC P n n0 c Q env T = WpC P n n0 c Q env' T' := by rw [h, hT]
theorem thenM_congr {next : Env → Tbl → Prop} {Q : Exit → Env → Tbl → Prop} {e e' : Exit} (h : e = e') : thenM next Q e env T = thenM next Q e' env T := by rw [h]
theorem blockM_congr {id : Nat} {Q : Exit → Env → Tbl → Prop} {e e' : Exit} (h : e = e') : blockM id Q e env T = blockM id Q e' env T := by rw [h]
theorem retQ_congr {fn : Func} {K : M → Tbl → Prop} {e : Exit} : retQ P fn n0 K e env T = retQ P fn n0 K e env T := rfl
theorem wpP_congr {ops : Array Oper} {q : Bool} {N : Nat} {K : Env → Tbl → Prop} {p : Plan} : wpP P n ops q N K p env T = wpP P n ops q N K p env T := rfl

/-! ### In match form. -/
theorem runO_nil {ops : Array Oper} {K : Env → Tbl → Prop} : runO P n ops K [] env T = K env T := rfl
theorem runO_cons {ops : Array Oper} {K : Env → Tbl → Prop} {o : Oper} {l : List Oper} :
    runO P n ops K (o :: l) env T = guardM ops o env (opV P false env T o.op fun m T' => runO P n ops K l (updO n env o.dst m) T') (runO P n ops K l (updO n env o.dst .any) T) := rfl
theorem guardM_none {ops : Array Oper} {dst : Option Tmp} {op : Op} {ty : TypeId} {pos : String} {aft : Array Edge} {yes no : Prop} : guardM ops ⟨dst, op, ty, pos, aft, none⟩ env yes no = yes := rfl
theorem guardM_some {ops : Array Oper} {dst : Option Tmp} {op : Op} {ty : TypeId} {pos : String} {aft : Array Edge} {yes no : Prop} {j : Nat} {want : Bool} :
    guardM ops ⟨dst, op, ty, pos, aft, some (j, want)⟩ env yes no = (match (ops[j]?).bind (·.dst) with | some t => (match env t with | .v (.bool b) => if b = want then yes else no | _ => False) | none => False) := rfl
theorem opBin_int {op : BinOp} {t : TypeId} {k k' : IntKind} {x y : Int} {K : M → Prop} : opBin P T op t (.v (.int k x)) (.v (.int k' y)) K = (match vBin op (.int k x) (.int k' y) with | some z => K (.v z) | none => False) := by
  apply propext
  simp only [opBin]
  constructor
  · rintro ⟨z, h1, h2⟩
    rw [h1]; exact h2
  · intro h
    split at h
    · rename_i z hz; exact ⟨z, hz, h⟩
    · exact h.elim

theorem opBin_str {op : BinOp} {t : TypeId} {x y : ByteArray} {K : M → Prop} : opBin P T op t (.v (.string x)) (.v (.string y)) K = (match vBin op (.string x) (.string y) with | some z => K (.v z) | none => False) := by
  apply propext
  simp only [opBin]
  constructor
  · rintro ⟨z, h1, h2⟩
    rw [h1]; exact h2
  · intro h
    split at h
    · rename_i z hz; exact ⟨z, hz, h⟩
    · exact h.elim

def eqOp (op : BinOp) (r : Option Bool) (K : M → Prop) : Prop :=
  match r, op with
  | some r, .eql => K (.v (.bool r))
  | some r, .neq => K (.v (.bool (!r)))
  | _, _ => False

/-- Of two that are neither both numbers, nor both texts, nor both made of parts. -/
def eqKind : M → M → Bool
  | .v (.int _ _), .v (.int _ _) => false
  | .v (.string _), .v (.string _) => false
  | .agg _, .agg _ => false
  | _, _ => true

theorem opBin_eq {op : BinOp} {t : TypeId} {a b : M} {K : M → Prop} (h : eqKind a b = true) : opBin P T op t a b K = (oneCell T a = true ∧ oneCell T b = true ∧ eqOp op (eqM P t a b) K) := by
  apply propext
  unfold opBin
  split
  · cases h
  · cases h
  · cases h
  · constructor
    · rintro ⟨h1, h2, r, h3, h4⟩
      refine ⟨h1, h2, ?_⟩
      rw [h3]
      cases op <;> simp only [eqOp] at h4 ⊢ <;> exact h4
    · rintro ⟨h1, h2, h3⟩
      refine ⟨h1, h2, ?_⟩
      unfold eqOp at h3
      split at h3
      · rename_i r hr; exact ⟨r, hr, h3⟩
      · rename_i r hr; exact ⟨r, hr, h3⟩
      · exact h3.elim

theorem eqOp_congr {op : BinOp} {r r' : Option Bool} {K : M → Prop} (h : r = r') : eqOp op r K = eqOp op r' K := by rw [h]

theorem opLen_sl1 {t el : TypeId} (h : P.underlying t = some (.slice el)) (m : M) (K : M → Prop) :
    opLen P T #[t] m K = (oneCell T m = true ∧ (match m with | .v (.string _) => False | _ => True) ∧ (match lenM m with | some n => K (.v (.int .i64 (n : Int))) | none => False)) := opLen_sl (by simpa using h) m K

theorem opLen_str {t : TypeId} (h : P.underlying t = some .string) (m : M) (K : M → Prop) :
    opLen P T #[t] m K = (match m with | .v (.string s) => K (.v (.int .i64 (s.size : Int))) | _ => False) := by
  unfold opLen
  have e : (#[t] : Array TypeId)[0]? = some t := rfl
  rw [e]
  simp only [h]
  cases m <;> rfl

theorem opLen_ar {t el : TypeId} {n : Nat} (h : P.underlying t = some (.array n el)) (m : M) (K : M → Prop) :
    opLen P T #[t] m K = K (.v (.int .i64 (n : Int))) := by
  simp [opLen, h]

def mmM (mx : Bool) (a b : M) (K : M → Prop) : Prop :=
  match opMax2 mx a b with
  | some r => K r
  | none => False

theorem opMin_eq {q : Bool} {ts : Array TypeId} {a b : M} {K : M → Tbl → Prop} : opBuiltin P q T ts .min [a, b] K = mmM false a b (fun r => K r T) := by
  apply propext
  simp only [opBuiltin, mmM]
  constructor
  · rintro ⟨r, h1, h2⟩; rw [h1]; exact h2
  · intro h
    split at h
    · rename_i r hr; exact ⟨r, hr, h⟩
    · exact h.elim

theorem opMax_eq {q : Bool} {ts : Array TypeId} {a b : M} {K : M → Tbl → Prop} : opBuiltin P q T ts .max [a, b] K = mmM true a b (fun r => K r T) := by
  apply propext
  simp only [opBuiltin, mmM]
  constructor
  · rintro ⟨r, h1, h2⟩; rw [h1]; exact h2
  · intro h
    split at h
    · rename_i r hr; exact ⟨r, hr, h⟩
    · exact h.elim

theorem opLen_eq {q : Bool} {ts : Array TypeId} {m : M} {K : M → Tbl → Prop} : opBuiltin P q T ts .len [m] K = opLen P T ts m (fun r => K r T) := rfl
theorem opAppend_eq {q : Bool} {ts : Array TypeId} {s x : M} {K : M → Tbl → Prop} : opBuiltin P q T ts .append [s, x] K = (q = false ∧ ts.size = 2 ∧ opAppend P T ts s x K) := rfl

def atM (cs : List M) (i : Nat) (K : M → Prop) : Prop :=
  match cs[i]? with
  | some c => K c
  | none => False

theorem opExtract_eq {ms : List M} {i : Nat} {K : M → Prop} : opExtract (.tup ms) i K = atM ms i K := by
  apply propext
  simp only [opExtract, atM]
  constructor
  · rintro ⟨r, h1, h2⟩; rw [h1]; exact h2
  · intro h
    split at h
    · rename_i r hr; exact ⟨r, hr, h⟩
    · exact h.elim

theorem partM_one {cs : List M} {off size : Nat} {K : M → Prop} : partM false cs off size K = atM cs off K := by
  apply propext
  simp only [partM, atM, Bool.false_eq_true, if_false]
  constructor
  · rintro ⟨r, h1, h2⟩; rw [h1]; exact h2
  · intro h
    split at h
    · rename_i r hr; exact ⟨r, hr, h⟩
    · exact h.elim

theorem partM_ag {cs : List M} {off size : Nat} {K : M → Prop} : partM true cs off size K = K (.agg ((cs.drop off).take size)) := by simp [partM]
theorem mmM_congr {mx : Bool} {a a' b b' : M} {K : M → Prop} (h : a = a') (h' : b = b') : mmM mx a b K = mmM mx a' b' K := by rw [h, h']
theorem atM_congr {cs cs' : List M} {i i' : Nat} {K : M → Prop} (h : cs = cs') (h' : i = i') : atM cs i K = atM cs' i' K := by rw [h, h']
theorem vBin_add {k : IntKind} {a b : Int} : vBin .add (.int k a) (.int k b) = some (.int k (k.wrap (a + b))) := by simp [vBin]
theorem vBin_sub {k : IntKind} {a b : Int} : vBin .sub (.int k a) (.int k b) = some (.int k (k.wrap (a - b))) := by simp [vBin]
theorem vBin_mul {k : IntKind} {a b : Int} : vBin .mul (.int k a) (.int k b) = some (.int k (k.wrap (a * b))) := by simp [vBin]
theorem vBin_quo {k : IntKind} {a b : Int} : vBin .quo (.int k a) (.int k b) = (if b ≠ 0 then some (.int k (k.wrap (a.tdiv b))) else none) := by simp [vBin]
theorem vBin_rem {k : IntKind} {a b : Int} : vBin .rem (.int k a) (.int k b) = (if b ≠ 0 then some (.int k (a.tmod b)) else none) := by simp [vBin]
theorem vBin_and {k : IntKind} {a b : Int} : vBin .and (.int k a) (.int k b) = some (.int k (k.wrap (BitVec.ofInt k.bits a &&& BitVec.ofInt k.bits b).toNat)) := by simp [vBin]
theorem vBin_or {k : IntKind} {a b : Int} : vBin .or (.int k a) (.int k b) = some (.int k (k.wrap (BitVec.ofInt k.bits a ||| BitVec.ofInt k.bits b).toNat)) := by simp [vBin]
theorem vBin_xor {k : IntKind} {a b : Int} : vBin .xor (.int k a) (.int k b) = some (.int k (k.wrap (BitVec.ofInt k.bits a ^^^ BitVec.ofInt k.bits b).toNat)) := by simp [vBin]
theorem vBin_andNot {k : IntKind} {a b : Int} : vBin .andNot (.int k a) (.int k b) = some (.int k (k.wrap (BitVec.ofInt k.bits a &&& ~~~ BitVec.ofInt k.bits b).toNat)) := by simp [vBin]
theorem vBin_eql {k : IntKind} {a b : Int} : vBin .eql (.int k a) (.int k b) = some (.bool (decide (a = b))) := by simp only [vBin, if_true]; rfl
theorem vBin_neq {k : IntKind} {a b : Int} : vBin .neq (.int k a) (.int k b) = some (.bool (decide (a ≠ b))) := by simp only [vBin, if_true]; by_cases h : a = b <;> simp [h]
theorem vBin_lss {k : IntKind} {a b : Int} : vBin .lss (.int k a) (.int k b) = some (.bool (decide (a < b))) := by simp [vBin]
theorem vBin_leq {k : IntKind} {a b : Int} : vBin .leq (.int k a) (.int k b) = some (.bool (decide (a ≤ b))) := by simp [vBin]
theorem vBin_gtr {k : IntKind} {a b : Int} : vBin .gtr (.int k a) (.int k b) = some (.bool (decide (a > b))) := by simp [vBin]
theorem vBin_geq {k : IntKind} {a b : Int} : vBin .geq (.int k a) (.int k b) = some (.bool (decide (a ≥ b))) := by simp [vBin]
theorem vBin_shl {k k' : IntKind} {a b : Int} : vBin .shl (.int k a) (.int k' b) = (if b < 0 then none else some (.int k (k.wrap (a * 2 ^ min b.toNat k.bits)))) := rfl
theorem vBin_shr {k k' : IntKind} {a b : Int} : vBin .shr (.int k a) (.int k' b) = (if b < 0 then none else some (.int k (a.fdiv (2 ^ min b.toNat k.bits)))) := rfl
theorem vBinS_add {a b : ByteArray} : vBin .add (.string a) (.string b) = (if a.size + b.size ≤ 9223372036854775807 then some (.string (a ++ b)) else none) := rfl
theorem vBinS_eql {a b : ByteArray} : vBin .eql (.string a) (.string b) = (some (.bool (a.toList == b.toList))) := rfl
theorem vBinS_neq {a b : ByteArray} : vBin .neq (.string a) (.string b) = (some (.bool (!(a.toList == b.toList)))) := rfl
theorem vBinS_lss {a b : ByteArray} : vBin .lss (.string a) (.string b) = (some (.bool (Op.bytesLess a.toList b.toList))) := rfl
theorem vBinS_leq {a b : ByteArray} : vBin .leq (.string a) (.string b) = (some (.bool (Op.bytesLess a.toList b.toList || a.toList == b.toList))) := rfl
theorem vBinS_gtr {a b : ByteArray} : vBin .gtr (.string a) (.string b) = (some (.bool (!(Op.bytesLess a.toList b.toList || a.toList == b.toList)))) := rfl
theorem vBinS_geq {a b : ByteArray} : vBin .geq (.string a) (.string b) = (some (.bool (!(Op.bytesLess a.toList b.toList)))) := rfl
theorem opV_move {q : Bool} {K : M → Tbl → Prop} {x : Operand} : opV P q env T (.move x) K = (K (ev env x) T) := rfl
theorem opV_assign {q : Bool} {K : M → Tbl → Prop} {x : Operand} : opV P q env T (.assign x) K = (K (ev env x) T) := rfl
theorem opV_pick {q : Bool} {K : M → Tbl → Prop} {c a b : Operand} : opV P q env T (.pick c a b) K = (match ev env c with | .v (.bool t) => K (if t = true then ev env a else ev env b) T | _ => False) := rfl
theorem opV_alloc {q : Bool} {K : M → Tbl → Prop} {t : TypeId} : opV P q env T (.alloc t) K = (match lay P t with | some (_, _, z) => K (.ref T.length 0) (T ++ [.cells true (z.map .v)]) | none => False) := rfl
theorem opV_box {q : Bool} {K : M → Tbl → Prop} {t : TypeId} {x : Operand} : opV P q env T (.box t x) K = (match cellsOf T (ev env x) with | some cs => K (.ref T.length 0) (T ++ [.cells true cs]) | none => False) := rfl
theorem opV_build {q : Bool} {K : M → Tbl → Prop} {t : TypeId} {ps : Array (Nat × Operand)} : opV P q env T (.build t ps) K = (opBuild P T t (ps.toList.map fun p => (p.1, ev env p.2)) (fun m => K m T)) := rfl
theorem opV_buildSlice {q : Bool} {K : M → Tbl → Prop} {t : TypeId} {n : Nat} {ps : Array (Nat × Operand)} : opV P q env T (.buildSlice t n ps) K = (opBuildSlice P T t n (ps.toList.map fun p => (p.1, ev env p.2)) K) := rfl
theorem opV_load {q : Bool} {K : M → Tbl → Prop} {t : TypeId} {a : Operand} : opV P q env T (.load t a) K = (opLoad P T t (ev env a) (fun m => K m T)) := rfl
theorem opV_store {q : Bool} {K : M → Tbl → Prop} {t : TypeId} {a x : Operand} : opV P q env T (.store t a x) K = (q = false ∧ opStore P T t (ev env a) (ev env x) (fun T' => K .any T')) := rfl
theorem opV_nilCheck {q : Bool} {K : M → Tbl → Prop} {x : Operand} : opV P q env T (.nilCheck x) K = (match ev env x with | .ref id off => oneCell T (.ref id off) = true ∧ K (.ref id off) T | .ip fr cells off => K (.ip fr cells off) T | .fn (.func f) a b => K (.fn (.func f) a b) T | _ => False) := rfl
theorem opV_binOp {q : Bool} {K : M → Tbl → Prop} {op : BinOp} {t u : TypeId} {x y : Operand} : opV P q env T (.binOp op t x y u) K = (opBin P T op t (ev env x) (ev env y) (fun m => K m T)) := rfl
theorem opV_unOp {q : Bool} {K : M → Tbl → Prop} {op : UnOp} {t : TypeId} {x : Operand} : opV P q env T (.unOp op t x) K = (opUn op (ev env x) (fun m => K m T)) := rfl
theorem opV_convert {q : Bool} {K : M → Tbl → Prop} {s d : TypeId} {x : Operand} : opV P q env T (.convert s d x) K = (opConvert P s d (ev env x) (fun m => K m T)) := rfl
theorem opV_makeFunc {q : Bool} {K : M → Tbl → Prop} {fn : Fn} {fs cs : Array Operand} : opV P q env T (.makeFunc fn fs cs) K = (K (.fn fn (fs.toList.map (ev env)) (cs.toList.map (ev env))) T) := rfl
theorem opV_makeSlice {q : Bool} {K : M → Tbl → Prop} {t : TypeId} {l c : Operand} : opV P q env T (.makeSlice t l c) K = (opMakeSlice P T t (ev env l) (ev env c) K) := rfl
theorem opV_slice {q : Bool} {K : M → Tbl → Prop} {t : TypeId} {x : Operand} {lo hi mx : Option Operand} : opV P q env T (.slice t x lo hi mx) K = (oneCell T (ev env x) = true ∧ opSlice P T t (ev env x) (lo.map (ev env)) (hi.map (ev env)) (mx.map (ev env)) (fun m => K m T)) := rfl
theorem opV_fieldAddr {q : Bool} {K : M → Tbl → Prop} {t : TypeId} {x : Operand} {f : Nat} : opV P q env T (.fieldAddr t x f) K = (oneCell T (ev env x) = true ∧ opFieldAddr P t f (ev env x) (fun m => K m T)) := rfl
theorem opV_indexAddr {q : Bool} {K : M → Tbl → Prop} {t : TypeId} {x i : Operand} : opV P q env T (.indexAddr t x i) K = (oneCell T (ev env x) = true ∧ opIndexAddr P t (ev env x) (ev env i) (fun m => K m T)) := rfl
theorem opV_field {q : Bool} {K : M → Tbl → Prop} {t : TypeId} {x : Operand} {f : Nat} : opV P q env T (.field t x f) K = (opField P t f (ev env x) (fun m => K m T)) := rfl
theorem opV_index {q : Bool} {K : M → Tbl → Prop} {t : TypeId} {x i : Operand} : opV P q env T (.index t x i) K = (opIndex P t (ev env x) (ev env i) (fun m => K m T)) := rfl
theorem opV_extract {q : Bool} {K : M → Tbl → Prop} {x : Operand} {i : Nat} : opV P q env T (.extract x i) K = (opExtract (ev env x) i (fun m => K m T)) := rfl
theorem opV_call {q : Bool} {K : M → Tbl → Prop} {c : Call} : opV P q env T (.call c) K = (match c.callee with | .builtin b => opBuiltin P q T c.argTypes b (c.args.toList.map (ev env)) K | .value f => (match ev env f with | .fn (.func g) first captured => CallW P q g (first ++ c.args.toList.map (ev env) ++ captured) T K | _ => False) | .invoke _ _ => False) := rfl
end
end Go.Tl
