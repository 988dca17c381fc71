/- The tree logic, part W: a region of drawn order that only reckons and reads comes to what the text's order comes to. -/
import Derived.Test.YtpbgiccloeihcaaTlV
namespace Go.Tl
open Go.RowKit

/-- From number 'i' on each may be taken first, and only reckons or reads. -/
def pureOk (ops : Array Oper) : Nat → Nat → Array Bool → Bool
  | 0, _, l => (Region.ready .any ops l).isEmpty
  | fuel + 1, i, l => (match ops[i]? with | some o => flatKind o.op || isLoad o.op | none => false) && Region.free .any ops l i && (Region.ready .any ops l).contains i && pureOk ops fuel (i + 1) (l.setIfInBounds i true)

section
variable {P : Program} {A : Nat → Prop} {w0 : World} {β0 : Nat → Option Nat} {T0 : Tbl} {w : World} {β : Nat → Option Nat} {T : Tbl}

theorem opV_isLoad {env : Env} {a : Act} {o : Oper} {K : M → Tbl → Prop} (hE : EnvR A w0 w β T env a) (hP : Post A w0 β0 T0 w β T) (hf : isLoad o.op = true) (h : opV P false env T o.op K) :
    ∃ y m, (∀ w' : World, w'.heap = w.heap → (execOp a.eval o).run P w' = .ok (.value y) w') ∧ RepS A w0 w β T m y ∧ K m T := by
  obtain ⟨dst, op, ty, pos, aft, gd⟩ := o
  cases op <;> simp only [isLoad] at hf <;> (try cases hf)
  case load t x =>
    simp only [opV] at h
    have hx := ev_rep hE x
    obtain ⟨ad, y, m', h1, h2, h3, h4⟩ := load_ok2 hP hx h
    refine ⟨y, m', fun w' hw => ?_, h3, h4⟩
    simp only [execOp, Sem.run_bind, h2 w' (by rw [hw]), Result.andThen_ok, Sem.run_pure]

theorem runO_any {n : Nat} {ops : Array Oper} {K : Env → Tbl → Prop} {R : Act → World → Prop} (hsel : Region.noSelect ops = true) (hR : ∀ env a, K env T → SatB A w0 β0 T0 n env T a w β → R a w) :
    ∀ (fuel i : Nat) (listed : Array Bool) (env : Env) (a : Act), pureOk ops fuel i listed = true → fuel = ops.size - i → i ≤ ops.size → SatB A w0 β0 T0 n env T a w β → (∀ env' T', K env' T' → T' = T → K env' T) →
      (runO P n ops (fun env T' => K env T' ∧ T' = T) (ops.toList.drop i) env T) → wpAnyH P .any ops (fun e a w => e = .normal ∧ R a w) (fun w' => w'.heap = w.heap) fuel listed a w
  | 0, i, listed, env, a, hok, hf, hi, hS, hK, h => by
    have hr : Region.ready .any ops listed = [] := by simpa [pureOk] using hok
    have : ops.toList.drop i = [] := List.drop_eq_nil_of_le (by simp; omega)
    rw [this] at h
    simp only [runO] at h
    exact wpAnyH_done hr ⟨rfl, hR env a h.1 hS⟩ 0
  | fuel + 1, i, listed, env, a, hok, hf, hi, hS, hK, h => by
    simp only [pureOk, Bool.and_eq_true] at hok
    obtain ⟨⟨⟨hkind, hfree⟩, hready⟩, hok⟩ := hok
    cases ho : ops[i]? with
    | none => rw [ho] at hkind; cases hkind
    | some o =>
      rw [ho] at hkind
      simp only at hkind
      have hlt : i < ops.size := (Array.getElem?_eq_some_iff.1 ho).1
      have hd : ops.toList.drop i = o :: ops.toList.drop (i + 1) := by
        rw [List.drop_eq_getElem_cons (by simpa using hlt)]
        have := (Array.getElem?_eq_some_iff.1 ho).2
        simp [this]
      rw [hd] at h
      simp only [runO] at h
      have fin : ∀ v m, YieldsIf P ops (fun w' => w'.heap = w.heap) o v a → RepS A w0 w β T m v → runO P n ops (fun env T' => K env T' ∧ T' = T) (ops.toList.drop (i + 1)) (updO n env o.dst m) T →
          wpAnyH P .any ops (fun e a w => e = .normal ∧ R a w) (fun w' => w'.heap = w.heap) (fuel + 1) listed a w := fun v m hy hm hp =>
        wpAnyH_take ho hsel hfree hready (fun c a' w hq => by cases hq.1) hy rfl
          (runO_any hsel hR fuel (i + 1) _ _ _ hok (by omega) (by omega) ⟨put_defers.trans hS.defers, put_size.trans hS.size, hS.post, hS.env.put hS.size hm⟩ hK hp)
      rcases guard_elim hS.env h with ⟨hw, hV⟩ | ⟨hw, hp⟩
      · by_cases hfl : flatKind o.op = true
        · obtain ⟨y, m, h1, h2, h3⟩ := opV_flat hS.env hS.post hfl hV
          exact fin y m (.inl ⟨hw, fun w' _ => h1 w'⟩) h2 h3
        · have hld : isLoad o.op = true := by simpa [hfl] using hkind
          obtain ⟨y, m, h1, h2, h3⟩ := opV_isLoad hS.env hS.post hld hV
          exact fin y m (.inl ⟨hw, h1⟩) h2 h3
      · exact fin undef .any (.inr ⟨hw, rfl⟩) (by simp [RepS, Rep]) hp
end

section
variable {P : Program} {n n0 : Nat} {Q : Exit → Env → Tbl → Prop} {env : Env} {T : Tbl}

theorem WpC.pure {id : Nat} {ops : Array Oper} (hm : P.follows .mixedOrders = true) (hs : Region.noSelect ops = true) (hok : pureOk ops ops.size 0 (Array.replicate ops.size false) = true)
    (h : runO P n ops (fun env T' => Q .normal env T' ∧ T' = T) ops.toList env T) : WpC P n n0 (.region id ops true) Q env T := fun A w0 β0 T0 a w hn hS => by
  obtain ⟨h1, h2, β, h3, h4⟩ := hS
  have hd := h3.drew
  have hSd : SatB A w0 β0 T0 n env T a { w with drawn := w.drawn + 1 } β := ⟨h1, h2, hd.post, fun k => hd.rep (h4 k)⟩
  have := runO_any (K := Q .normal) (R := fun a w => ∃ env T, Q .normal env T ∧ Sat A w0 β0 T0 n env T a w) hs (fun env a hK hs => ⟨env, T, hK, hs.sat⟩) ops.size 0 _ env a hok (by omega) (by omega) hSd (fun _ _ h e => e ▸ h) (by simpa using h)
  refine wp_mono (wp_region_held (Q := fun e a w => e = .normal ∧ ∃ env T, Q .normal env T ∧ Sat A w0 β0 T0 n env T a w) hm this) fun e a w hq => ?_
  obtain ⟨rfl, hq⟩ := hq
  exact hq
end
end Go.Tl
