/- The tree logic, part Z: each case of each law, by itself. -/
import Derived.Test.YtpbgiccloeihcaaTlY
namespace Go.Tl
section
variable {P : Program} {T : Tbl} {n n0 : Nat} {env : Env} {q : Bool} {K : M → Tbl → Prop} {F : M → Prop} {G : Tbl → Prop} {next : Env → Tbl → Prop} {Q : Exit → Env → Tbl → Prop}

theorem thenM_n : thenM next Q .normal env T = next env T := rfl
theorem thenM_r : thenM next Q .ret env T = Q .ret env T := rfl
theorem thenM_x {id : Nat} : thenM next Q (.exit id) env T = Q (.exit id) env T := rfl
theorem blockM_n {id : Nat} : blockM id Q .normal env T = Q .normal env T := rfl
theorem blockM_r {id : Nat} : blockM id Q .ret env T = Q .ret env T := rfl
theorem blockM_x {id id' : Nat} : blockM id Q (.exit id') env T = if id' = id then Q .normal env T else Q (.exit id') env T := rfl

def liveB (T : Tbl) (i : Nat) : Bool := match T[i]? with | some (.cells _ _) => true | _ => false
theorem liveB_zero {fr : Bool} {cs : List M} : liveB (.cells fr cs :: T) 0 = true := rfl
theorem liveB_succ {o : Ob} {i : Nat} : liveB (o :: T) (i + 1) = liveB T i := by simp [liveB]
theorem one_int {k : IntKind} {x : Int} : oneCell T (.v (.int k x)) = true := rfl
theorem one_bool {b : Bool} : oneCell T (.v (.bool b)) = true := rfl
theorem one_str {b : ByteArray} : oneCell T (.v (.string b)) = true := rfl
theorem one_ptr {a : Option Addr} : oneCell T (.v (.pointer a)) = true := rfl
theorem one_slv {a : Option Addr} {l c : Nat} : oneCell T (.v (.slice a l c)) = true := rfl
theorem one_map {a : Option Nat} : oneCell T (.v (.map a)) = true := rfl
theorem one_nilFunc : oneCell T (.v .nilFunc) = true := rfl
theorem one_nilIface : oneCell T (.v .nilIface) = true := rfl
theorem one_sl {fr : Bool} {cells : List M} {len : Nat} : oneCell T (.sl fr cells len) = true := rfl
theorem one_ip {fr : Bool} {cells : List M} {off : Nat} : oneCell T (.ip fr cells off) = true := rfl
theorem one_sx : oneCell T .sx = true := rfl
theorem one_fn {f : Fn} {a b : List M} : oneCell T (.fn f a b) = true := rfl
theorem one_ifc {t : TypeId} {m : M} : oneCell T (.ifc t m) = true := rfl
theorem one_ref {id off : Nat} : oneCell T (.ref id off) = liveB T id := rfl
theorem one_sr {id off len sz : Nat} : oneCell T (.sr id off len sz) = liveB T id := rfl
theorem one_agg {cs : List M} : oneCell T (.agg cs) = false := rfl

theorem cells_int {k : IntKind} {x : Int} : cellsOf T (.v (.int k x)) = some [.v (.int k x)] := rfl
theorem cells_bool {b : Bool} : cellsOf T (.v (.bool b)) = some [.v (.bool b)] := rfl
theorem cells_str {b : ByteArray} : cellsOf T (.v (.string b)) = some [.v (.string b)] := rfl
theorem cells_ptr {a : Option Addr} : cellsOf T (.v (.pointer a)) = some [.v (.pointer a)] := rfl
theorem cells_slv {a : Option Addr} {l c : Nat} : cellsOf T (.v (.slice a l c)) = some [.v (.slice a l c)] := rfl
theorem cells_nilFunc : cellsOf T (.v .nilFunc) = some [.v .nilFunc] := rfl
theorem cells_sl {fr : Bool} {cells : List M} {len : Nat} : cellsOf T (.sl fr cells len) = some [.sl fr cells len] := rfl
theorem cells_ip {fr : Bool} {cells : List M} {off : Nat} : cellsOf T (.ip fr cells off) = some [.ip fr cells off] := rfl
theorem cells_sx : cellsOf T .sx = some [.sx] := rfl
theorem cells_fn {f : Fn} {a b : List M} : cellsOf T (.fn f a b) = some [.fn f a b] := rfl
theorem cells_ref {id off : Nat} : cellsOf T (.ref id off) = if liveB T id = true then some [.ref id off] else none := rfl
theorem cells_sr {id off len sz : Nat} : cellsOf T (.sr id off len sz) = if liveB T id = true then some [.sr id off len sz] else none := rfl
theorem cells_agg {cs : List M} : cellsOf T (.agg cs) = some cs := rfl

theorem len_sl {fr : Bool} {cells : List M} {len : Nat} : lenM (.sl fr cells len) = some len := rfl
theorem len_sr {id off len sz : Nat} : lenM (.sr id off len sz) = some len := rfl
theorem len_nil : lenM (.v (.slice none 0 0)) = some 0 := rfl
theorem len_sx : lenM .sx = some 0 := rfl

def lnK (m : M) (F : M → Prop) : Prop :=
  match lenM m with
  | some n => F (.v (.int .i64 (n : Int)))
  | none => False
theorem lnK_sl {fr : Bool} {cells : List M} {len : Nat} : lnK (.sl fr cells len) F = F (.v (.int .i64 (len : Int))) := rfl
theorem lnK_sr {id off len sz : Nat} : lnK (.sr id off len sz) F = F (.v (.int .i64 (len : Int))) := rfl
theorem lnK_nil : lnK (.v (.slice none 0 0)) F = F (.v (.int .i64 0)) := rfl
theorem lnK_sx : lnK .sx F = F (.v (.int .i64 0)) := rfl
theorem pN_sl {t el : TypeId} (h : P.underlying t = some (.slice el)) {m : M} (hm : ∀ s, m ≠ .v (.string s)) : opLen P T #[t] m F = (oneCell T m = true ∧ lnK m F) := by
  rw [opLen_sl1 h]
  apply propext
  constructor
  · rintro ⟨h1, _, h3⟩
    exact ⟨h1, h3⟩
  · rintro ⟨h1, h3⟩
    refine ⟨h1, ?_, h3⟩
    split
    · rename_i s; exact absurd rfl (hm s)
    · trivial
theorem pN_sl_sl {t el : TypeId} (h : P.underlying t = some (.slice el)) {fr : Bool} {cells : List M} {len : Nat} : opLen P T #[t] (.sl fr cells len) F = F (.v (.int .i64 (len : Int))) := by
  rw [pN_sl h (by intro s e; cases e)]; simp [oneCell, lnK_sl]
theorem pN_sl_sr {t el : TypeId} (h : P.underlying t = some (.slice el)) {id off len sz : Nat} : opLen P T #[t] (.sr id off len sz) F = (liveB T id = true ∧ F (.v (.int .i64 (len : Int)))) := by
  rw [pN_sl h (by intro s e; cases e), one_sr, lnK_sr]
theorem pN_sl_nil {t el : TypeId} (h : P.underlying t = some (.slice el)) : opLen P T #[t] (.v (.slice none 0 0)) F = F (.v (.int .i64 0)) := by
  rw [pN_sl h (by intro s e; cases e)]; simp [oneCell, lnK_nil]
theorem pN_str {t : TypeId} (h : P.underlying t = some .string) {s : ByteArray} : opLen P T #[t] (.v (.string s)) F = F (.v (.int .i64 (s.size : Int))) := by
  rw [opLen_str h]

theorem pMin {ts : Array TypeId} {k k' : IntKind} {x y : Int} : opBuiltin P q T ts .min [.v (.int k x), .v (.int k' y)] K = K (.v (.int k (if y < x then y else x))) T := by rw [opMin_eq]; rfl
theorem pMax {ts : Array TypeId} {k k' : IntKind} {x y : Int} : opBuiltin P q T ts .max [.v (.int k x), .v (.int k' y)] K = K (.v (.int k (if y > x then y else x))) T := by rw [opMax_eq]; rfl

theorem pC_int {s d : TypeId} {k k' : IntKind} {x : Int} {ds : TypeDesc} (hs : P.underlying s = some ds) (hd : P.underlying d = some (.int k')) : opConvert P s d (.v (.int k x)) F = F (.v (.int k' (k'.wrap x))) := by
  simp [opConvert, hs, hd]

/-! ### Calls. -/
def callK (P : Program) (q : Bool) (env : Env) (T : Tbl) (c : Call) (K : M → Tbl → Prop) : Prop :=
  match c.callee with
  | .builtin b => evL env c.args.toList (fun ms => opBuiltin P q T c.argTypes b ms K)
  | .value f => evK env f (fun m => evL env c.args.toList (fun ms => match m with
    | .fn (.func g) first captured => CallW P q g (first ++ ms ++ captured) T K
    | _ => False))
  | .invoke _ _ => False
theorem pO_call {c : Call} : opV P q env T (.call c) K = callK P q env T c K := by
  unfold callK evL evK
  simp only [opV_call]
  cases c.callee with
  | builtin b => rfl
  | value f => simp only; cases ev env f <;> rfl
  | invoke _ _ => rfl
def fnK (m : M) (ms : List M) (H : FuncId → List M → Prop) : Prop :=
  match m with
  | .fn (.func g) first captured => H g (first ++ ms ++ captured)
  | _ => False
theorem fnK_fn {g : FuncId} {a b ms : List M} {H : FuncId → List M → Prop} : fnK (.fn (.func g) a b) ms H = H g (a ++ ms ++ b) := rfl
theorem callK_b {b : Builtin} {xs : List Operand} {ts : Array TypeId} : callK P q env T ⟨.builtin b, ⟨xs⟩, ts⟩ K = evL env xs (fun ms => opBuiltin P q T ts b ms K) := rfl
theorem callK_f {f : FuncId} {xs : List Operand} {ts : Array TypeId} : callK P q env T ⟨.value (.func f), ⟨xs⟩, ts⟩ K = evL env xs (fun ms => CallW P q f ms T K) := by
  simp [callK, evK_func, evL]
theorem callK_t {k : Nat} {xs : List Operand} {ts : Array TypeId} : callK P q env T ⟨.value (.tmp k), ⟨xs⟩, ts⟩ K = slotK env k (fun m => evL env xs (fun ms => fnK m ms (fun g as => CallW P q g as T K))) := rfl

theorem boxK_agg {cs : List M} : boxK T (.agg cs) K = lenK T (fun l => pushK T (.cells true cs) (fun T' => K (.ref l 0) T')) := by rw [boxK_eq, cells_agg]
theorem boxK_int {k : IntKind} {x : Int} : boxK T (.v (.int k x)) K = lenK T (fun l => pushK T (.cells true [.v (.int k x)]) (fun T' => K (.ref l 0) T')) := by rw [boxK_eq, cells_int]
theorem boxK_bool {b : Bool} : boxK T (.v (.bool b)) K = lenK T (fun l => pushK T (.cells true [.v (.bool b)]) (fun T' => K (.ref l 0) T')) := by rw [boxK_eq, cells_bool]
theorem boxK_str {b : ByteArray} : boxK T (.v (.string b)) K = lenK T (fun l => pushK T (.cells true [.v (.string b)]) (fun T' => K (.ref l 0) T')) := by rw [boxK_eq, cells_str]
theorem boxK_slv {a : Option Addr} {l c : Nat} : boxK T (.v (.slice a l c)) K = lenK T (fun i => pushK T (.cells true [.v (.slice a l c)]) (fun T' => K (.ref i 0) T')) := by rw [boxK_eq, cells_slv]
theorem boxK_sl {fr : Bool} {cells : List M} {len : Nat} : boxK T (.sl fr cells len) K = lenK T (fun l => pushK T (.cells true [.sl fr cells len]) (fun T' => K (.ref l 0) T')) := by rw [boxK_eq, cells_sl]

/-! ### Slices. -/
theorem pM_sl {t : TypeId} {e b : Nat} {ez : List Value} {s : Nat} {z : List Value} (h : lay P t = some (.sl e b ez, s, z)) {k k' : IntKind} {x y : Int} :
    opMakeSlice P T t (.v (.int k x)) (.v (.int k' y)) K = (ez.length = e ∧ 0 ≤ x ∧ x ≤ y ∧ y * b ≤ 281474976710656 ∧ y ≤ 9223372036854775807 ∧ lenK T (fun l => pushK T (.cells true (zeros x.toNat ez)) (fun T' => K (.sr l 0 x.toNat e) T'))) := by
  simp only [opMakeSlice, h]; rfl
theorem pX_sl {t : TypeId} {e b : Nat} {ez : List Value} {s : Nat} {z : List Value} (h : lay P t = some (.sl e b ez, s, z)) {fr : Bool} {cells : List M} {len : Nat} {lo hi : Option M} :
    opSlice P T t (.sl fr cells len) lo hi none F = (bndOk lo ∧ bndOk hi ∧ bndV lo 0 ≤ bndV hi len ∧ bndV hi len ≤ len ∧ F (.sl fr ((cells.drop (bndV lo 0 * e)).take ((bndV hi len - bndV lo 0) * e)) (bndV hi len - bndV lo 0))) := by
  simp only [opSlice, h]
theorem pX_sr {t : TypeId} {e b : Nat} {ez : List Value} {s : Nat} {z : List Value} (h : lay P t = some (.sl e b ez, s, z)) {id off len sz : Nat} {lo hi : Option M} :
    opSlice P T t (.sr id off len sz) lo hi none F = (bndOk lo ∧ bndOk hi ∧ sz = e ∧ bndV lo 0 ≤ bndV hi len ∧ bndV hi len ≤ len ∧ F (.sr id (off + bndV lo 0 * sz) (bndV hi len - bndV lo 0) sz)) := by
  simp only [opSlice, h]
theorem pX_str {t : TypeId} (h : P.underlying t = some .string) {s : ByteArray} {lo hi : Option M} :
    opSlice P T t (.v (.string s)) lo hi none F = (bndOk lo ∧ bndOk hi ∧ bndV lo 0 ≤ bndV hi s.size ∧ bndV hi s.size ≤ s.size ∧ F (.v (.string (s.extract (bndV lo 0) (bndV hi s.size))))) := by
  simp [opSlice, h]
theorem bndOk_none : bndOk none = True := rfl
theorem bndOk_int {k : IntKind} {x : Int} : bndOk (some (.v (.int k x))) = (0 ≤ x) := rfl
theorem bndV_none {d : Nat} : bndV none d = d := rfl
theorem bndV_int {k : IntKind} {x : Int} {d : Nat} : bndV (some (.v (.int k x))) d = x.toNat := rfl

def rowK (T : Tbl) (e : Nat) (m : M) (H : List M → Nat → Prop) : Prop :=
  match rowOf T e m with
  | some (cs, n) => H cs n
  | none => False
theorem rowK_sl {e : Nat} {fr : Bool} {cells : List M} {len : Nat} {H : List M → Nat → Prop} : rowK T e (.sl fr cells len) H = (cells.length = len * e ∧ H cells len) := by
  unfold rowK rowOf
  by_cases h : cells.length = len * e <;> simp [h]
theorem rowK_nil {e : Nat} {H : List M → Nat → Prop} : rowK T e (.v (.slice none 0 0)) H = H [] 0 := rfl
theorem rowK_sx {e : Nat} {H : List M → Nat → Prop} : rowK T e .sx H = H [] 0 := rfl
theorem rowK_sr {e id off len sz : Nat} {H : List M → Nat → Prop} : rowK T e (.sr id off len sz) H = blkK T id (fun _ cs => sz = e ∧ off + len * e ≤ cs.length ∧ H ((cs.drop off).take (len * e)) len) := by
  unfold rowK rowOf blkK
  cases h : T[id]? with
  | none => simp [h]
  | some o =>
    cases o with
    | gone => simp [h]
    | cells fr cs =>
      simp only [h]
      by_cases hc : sz = e ∧ off + len * e ≤ cs.length
      · rw [if_pos hc]; simp [hc]
      · rw [if_neg hc]; simp; intro h1 h2; exact absurd ⟨h1, h2⟩ hc

theorem pP_nil {t : TypeId} {e b : Nat} {ez : List Value} {s : Nat} {z : List Value} (h : lay P t = some (.sl e b ez, s, z)) {x : M} :
    opAppend P T #[t, t] (.v (.slice none 0 0)) x K = (ez.length = e ∧ rowK T e x (fun ns m => ns.all (oneCell T) = true ∧ m * b ≤ 140737488355328 ∧ m ≤ 9223372036854775807 ∧ lenK T (fun l => pushK T (.cells true ns) (fun T' => K (.sr l 0 m e) T')))) := by
  unfold opAppend rowK lenK pushK
  have e1 : (#[t, t] : Array TypeId)[0]? = some t := rfl
  have e2 : (#[t, t] : Array TypeId)[1]? = some t := rfl
  simp only [e1, e2, h, true_and]
  cases rowOf T e x with
  | none => rfl
  | some p => rfl
theorem pP_sr {t : TypeId} {e b : Nat} {ez : List Value} {s : Nat} {z : List Value} (h : lay P t = some (.sl e b ez, s, z)) {x : M} {id off len sz : Nat} :
    opAppend P T #[t, t] (.sr id off len sz) x K = (ez.length = e ∧ rowK T e x (fun ns m => ns.all (oneCell T) = true ∧ blkK T id (fun fr cs => off = 0 ∧ sz = e ∧ cs.length = len * e ∧ (len + m) * b ≤ 140737488355328 ∧ len + m ≤ 9223372036854775807 ∧
      setK T id .gone (fun T1 => lenK T (fun l => pushK T1 (.cells fr (cs ++ ns)) (fun T' => K (.sr l 0 (len + m) e) T')))))) := by
  unfold opAppend rowK lenK pushK blkK setK
  have e1 : (#[t, t] : Array TypeId)[0]? = some t := rfl
  have e2 : (#[t, t] : Array TypeId)[1]? = some t := rfl
  simp only [e1, e2, h, true_and]
  cases rowOf T e x with
  | none => rfl
  | some p =>
    cases hT : T[id]? with
    | none => simp [hT]
    | some o => cases o <;> simp [hT]
end
end Go.Tl
