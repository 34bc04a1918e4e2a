/- What a region leaves when only some of its operations have run. One operation of a region, when others that do not touch it may have run before it. Regions, in the program's order and in any. Code. A call's end. The evaluator's answers are the program's. What an argument reads as, as the evaluator has it. A law: from what the evaluator answers to what the row says. -/
import Derived.Test.YtpififklhcfcnaaDoorB4
import Derived.ChangeArms
import Derived.OpenShut
import Derived.ChangeBears
import Derived.Carry
import Derived.ChangeOld
import Derived.ChangeShapes
import Derived.RowKit
namespace Go.Bb

def part {V : Type} (W : Nat → Nat → Option V) (f : Nat → V) (D : Nat → Bool) : Nat → Nat → V
  | 0, x => f x
  | m + 1, x => if D m = true then (match W m x with | some v => v | none => part W f D m x) else part W f D m x

theorem part_succ {V : Type} (W : Nat → Nat → Option V) (f : Nat → V) (D : Nat → Bool) (m x : Nat) :
    part W f D (m + 1) x = if D m = true then (match W m x with | some v => v | none => part W f D m x) else part W f D m x := rfl

theorem part_tail {V : Type} {W : Nat → Nat → Option V} {f : Nat → V} {D : Nat → Bool} {j x : Nat} : ∀ (n : Nat), j ≤ n → (∀ i, j ≤ i → i < n → W i x ≠ none → D i = false) → part W f D n x = part W f D j x
  | 0, hj, _ => by have : j = 0 := by omega
                   subst this; rfl
  | n + 1, hj, h => by
    by_cases he : j = n + 1
    · subst he; rfl
    · have ih := part_tail (W := W) (f := f) (D := D) (x := x) n (by omega) fun i h1 h2 h3 => h i h1 (by omega) h3
      rw [part_succ]
      cases hw : W n x with
      | none => simp only; split <;> exact ih
      | some v =>
        rw [h n (by omega) (by omega) (by rw [hw]; simp)]
        simpa using ih

theorem part_eq {V : Type} {W : Nat → Nat → Option V} {f : Nat → V} {D D' : Nat → Bool} {x : Nat} : ∀ (n : Nat), (∀ i, i < n → W i x ≠ none → D i = D' i) → part W f D n x = part W f D' n x
  | 0, _ => rfl
  | n + 1, h => by
    have ih := part_eq (W := W) (f := f) (D := D) (D' := D') (x := x) n fun i h1 h2 => h i (by omega) h2
    rw [part_succ, part_succ]
    cases hw : W n x with
    | none => simp only; split <;> split <;> exact ih
    | some v => rw [h n (by omega) (by rw [hw]; simp), ih]

/-- What an operation looks at is as in the program's order. -/
theorem part_read {V : Type} {W : Nat → Nat → Option V} {f : Nat → V} {D : Nat → Bool} {j n x : Nat} (hj : j ≤ n) (h1 : ∀ i, i < j → W i x ≠ none → D i = true) (h2 : ∀ i, j ≤ i → i < n → W i x ≠ none → D i = false) :
    part W f D n x = part W f (fun _ => true) j x := by
  rw [part_tail n hj h2]
  exact part_eq j fun i hi hw => h1 i hi hw

theorem part_step {V : Type} {W : Nat → Nat → Option V} {f : Nat → V} {D D' : Nat → Bool} {j n x : Nat} (hD : ∀ i, i ≠ j → D' i = D i) (hj' : D' j = true) (hj : j < n)
    (h2 : ∀ i, j < i → i < n → W j x ≠ none → W i x ≠ none → D i = false) :
    part W f D' n x = match W j x with | some v => v | none => part W f D n x := by
  cases hw : W j x with
  | none =>
    simp only
    refine part_eq n fun i hi hne => hD i fun he => ?_
    subst he; exact hne hw
  | some v =>
    simp only
    rw [part_tail (j := j + 1) n (by omega) fun i h3 h4 h5 => by rw [hD i (by omega)]; exact h2 i (by omega) h4 (by rw [hw]; simp) h5]
    rw [part_succ, if_pos hj', hw]

theorem getE_setE : ∀ (env : Slots) (d : Nat) (v : PV) (x : Nat), getE (setE env d v) x = if x = d then v else getE env x
  | [], d, v, x => by
    simp only [setE, getE]
    by_cases h : x = d
    · subst h; rw [Nat.beq_refl]; simp
    · have : Nat.beq d x = false := by rw [Bool.eq_false_iff]; intro hb; exact h (Nat.eq_of_beq_eq_true hb).symm
      rw [this, if_neg h]; rfl
  | (s, u) :: r, d, v, x => by
    unfold setE
    cases hsd : Nat.beq s d with
    | true =>
      have := Nat.eq_of_beq_eq_true hsd; subst this
      simp only [cond_true, getE]
      by_cases h : x = s
      · subst h; rw [Nat.beq_refl]; simp
      · have : Nat.beq s x = false := by rw [Bool.eq_false_iff]; intro hb; exact h (Nat.eq_of_beq_eq_true hb).symm
        rw [this, if_neg h]; rfl
    | false =>
      have hne : s ≠ d := by rintro rfl; rw [Nat.beq_refl] at hsd; cases hsd
      simp only [cond_false]
      cases hle : Nat.ble d s with
      | true =>
        simp only [cond_true, getE]
        by_cases h : x = d
        · subst h; rw [Nat.beq_refl]; simp
        · have : Nat.beq d x = false := by rw [Bool.eq_false_iff]; intro hb; exact h (Nat.eq_of_beq_eq_true hb).symm
          rw [this, if_neg h]; rfl
      | false =>
        simp only [cond_false, getE]
        rw [getE_setE r d v x]
        by_cases h : x = d
        · subst h
          have : Nat.beq s x = false := by rw [Bool.eq_false_iff]; intro hb; exact hne (Nat.eq_of_beq_eq_true hb)
          rw [this, if_pos rfl, if_pos rfl]; rfl
        · rw [if_neg h, if_neg h]

theorem memN_map {ws : Ws} {x : Nat} : memN (ws.map (·.1)) x = true ↔ ∃ p ∈ ws, p.1 = x := by
  rw [memN_iff, List.mem_map]

/-- What is written does not hang on what was there. -/
theorem updW_in : ∀ (ws : Ws) (S S' : Nat → Option AObj) (x : Nat), (∃ p ∈ ws, p.1 = x) → updW S ws x = updW S' ws x
  | [], _, _, _, h => by simp at h
  | (o, y) :: r, S, S', x, h => by
    simp only [updW]
    by_cases hr : ∃ p ∈ r, p.1 = x
    · exact updW_in r _ _ x hr
    · rw [updW_ne r _ x (fun p hp hpx => hr ⟨p, hp, hpx⟩), updW_ne r _ x (fun p hp hpx => hr ⟨p, hp, hpx⟩)]
      obtain ⟨p, hp, hpx⟩ := h
      rcases List.mem_cons.1 hp with rfl | hp
      · simp only at hpx; subst hpx; rw [upd_same, upd_same]
      · exact absurd ⟨p, hp, hpx⟩ hr

theorem applyW_spec : ∀ (ws : Ws) (σ σ' : List AObj), applyW σ ws = some σ' → ∀ x, σ'[x]? = updW (σ[·]?) ws x
  | [], σ, σ', h, x => by simp [applyW] at h; subst h; rfl
  | (o, y) :: r, σ, σ', h, x => by
    unfold applyW at h
    have ext : ∀ (f g : Nat → Option AObj), (∀ i, f i = g i) → updW f r x = updW g r x := fun f g he => by rw [funext he]
    cases hb : Nat.blt o σ.length with
    | true =>
      rw [hb] at h
      simp only [cond_true] at h
      rw [applyW_spec r _ σ' h x]
      simp only [updW]
      have hlt : o < σ.length := by simpa [Nat.blt_eq] using hb
      refine ext _ _ fun i => ?_
      by_cases hi : i = o
      · subst hi; rw [upd_same, List.getElem?_set_self hlt]
      · rw [upd_ne _ _ hi, List.getElem?_set_ne (Ne.symm hi)]
    | false =>
      rw [hb] at h
      simp only [cond_false] at h
      cases hb2 : Nat.beq o σ.length with
      | false => rw [hb2] at h; simp at h
      | true =>
        rw [hb2] at h
        simp only [cond_true] at h
        have := Nat.eq_of_beq_eq_true hb2; subst this
        rw [applyW_spec r _ σ' h x]
        simp only [updW]
        refine ext _ _ fun i => ?_
        by_cases hi : i = σ.length
        · subst hi; rw [upd_same]; simp
        · rw [upd_ne _ _ hi, List.getElem?_append]
          split
          · rfl
          · rename_i hnl
            rw [List.getElem?_eq_none (by simp; omega), List.getElem?_eq_none (by omega)]

/-- The program's order, state by state. -/
theorem asteps_seq {E : Envt} {call : Callf} {k0 nt : Nat} {ops : Array Oper} : ∀ (l : List Oper) (env : Slots) (σ : List AObj) (env' : Slots) (σ' : List AObj) (ts : Trace), asteps E call k0 nt ops l env σ = some (env', σ', ts) →
    ∃ (e : Nat → Slots) (s : Nat → List AObj) (t : Nat → List Nat × List Nat), e 0 = env ∧ s 0 = σ ∧ e l.length = env' ∧ s l.length = σ' ∧ ts.length = l.length ∧ (∀ i, i < l.length → ts[i]? = some (t i)) ∧
      ∀ i o, l[i]? = some o → astep E call k0 nt ops (e i) (s i) o = some (e (i + 1), s (i + 1), t i)
  | [], env, σ, env', σ', ts, h => by
    simp [asteps] at h
    obtain ⟨rfl, rfl, rfl⟩ := h
    exact ⟨fun _ => env, fun _ => σ, fun _ => ([], []), rfl, rfl, rfl, rfl, rfl, by simp, by simp⟩
  | o :: r, env, σ, env', σ', ts, h => by
    unfold asteps at h
    cases h1 : astep E call k0 nt ops env σ o with
    | none => rw [h1] at h; simp at h
    | some q =>
      obtain ⟨env1, σ1, t1⟩ := q
      rw [h1] at h
      simp only at h
      cases h2 : asteps E call k0 nt ops r env1 σ1 with
      | none => rw [h2] at h; simp at h
      | some q =>
        obtain ⟨env2, σ2, ts2⟩ := q
        rw [h2] at h
        simp only [Option.some.injEq, Prod.mk.injEq] at h
        obtain ⟨rfl, rfl, rfl⟩ := h
        obtain ⟨e, s, t, a1, a2, a3, a4, a5, a6, a7⟩ := asteps_seq r env1 σ1 env2 σ2 ts2 h2
        refine ⟨fun i => match i with | 0 => env | i + 1 => e i, fun i => match i with | 0 => σ | i + 1 => s i, fun i => match i with | 0 => t1 | i + 1 => t i, rfl, rfl, a3, a4, by simp [a5], ?_, ?_⟩
        · intro i hi
          cases i with
          | zero => rfl
          | succ i => simpa using a6 i (by simpa using hi)
        · intro i o' ho
          cases i with
          | zero => simp at ho; subst ho; simp only; rw [h1, a1, a2]
          | succ i => simp only; exact a7 i o' (by simpa using ho)
end Go.Bb

namespace Go.Bb

def EnvR (w : World) (Z Y : Nat → Prop) (L : Nat → Option Loc) (nt : Nat) (a : Act) (e : Nat → PV) : Prop := a.tmps.size = nt ∧ ∀ t, Rep w Z Y L (a.tmps.getD t undef) (e t)

/-- The machine's state is the evaluator's. -/
def St (E : Envt) (w0 : World) (M0 : Nat → Nat → Prop) (k0 : Nat) (Y Z0 : Nat → Prop) (L0 : Nat → Option Loc) (nt : Nat) (e : Nat → PV) (S : Nat → Option AObj) (a : Act) (w : World) : Prop :=
  ∃ Z L, Sim w0 M0 k0 Y Z w L S ∧ Gr Y w0 Z0 L0 w Z L ∧ (∀ b, Z b → Z0 b ∨ w0.heap.size ≤ b) ∧ GOk E w Z ∧ EnvR w Z Y L nt a e ∧ a.defers = []

section
variable {E : Envt} {call : Callf} {w0 : World} {M0 : Nat → Nat → Prop} {k0 : Nat} {Y Z0 : Nat → Prop} {L0 : Nat → Option Loc} {nt : Nat} {w : World}

theorem put_getD {a : Act} {dst : Option Tmp} {v : Value} (hd : ∀ d, dst = some d → d < a.tmps.size) (t : Nat) : (a.put dst v).tmps.getD t undef = if dst = some t then v else a.tmps.getD t undef := by
  cases dst with
  | none => rfl
  | some d =>
    have := hd d rfl
    simp only [Act.put, Array.getD_eq_getD_getElem?, Array.getElem?_setIfInBounds, Option.some.injEq]
    by_cases h : d = t
    · subst h; simp [this]
    · rw [if_neg h, if_neg h]
theorem put_size (a : Act) (dst : Option Tmp) (v : Value) : (a.put dst v).tmps.size = a.tmps.size := by cases dst <;> simp [Act.put]
theorem put_defers (a : Act) (dst : Option Tmp) (v : Value) : (a.put dst v).defers = a.defers := by cases dst <;> rfl

theorem EnvR.put {w w' : World} {Z Z' Y : Nat → Prop} {L L' : Nat → Option Loc} {a : Act} {e e' : Nat → PV} {dst : Option Tmp} {v : Value} {p : PV} (h : EnvR w Z Y L nt a e) (g : Gr Y w Z L w' Z' L') (hd : ∀ d, dst = some d → d < nt)
    (hv : Rep w' Z' Y L' v p) (he : ∀ x, e' x = if dst = some x then p else e x) : EnvR w' Z' Y L' nt (a.put dst v) e' := by
  refine ⟨(put_size ..).trans h.1, fun t => ?_⟩
  rw [put_getD (fun d hdd => by rw [h.1]; exact hd d hdd), he]
  split
  · exact hv
  · exact (h.2 t).mono g

def opdF (E : Envt) (e : Nat → PV) : Operand → PV
  | .tmp t => e t
  | x => opd E [] x

theorem opd_rep {w : World} {Z Y : Nat → Prop} {L : Nat → Option Loc} {a : Act} {e : Nat → PV} {env : Slots} (h : EnvR w Z Y L nt a e) (hG : GOk E w Z) {x : Operand} (he : ∀ t, x = .tmp t → e t = getE env t) : Rep w Z Y L (a.eval x) (opd E env x) := by
  cases x with
  | tmp t => simp only [opd]; rw [← he t rfl]; exact h.2 t
  | const v => exact Rep.ofVal v
  | global g =>
    simp only [opd, Act.eval]
    cases hg : E.G g with
    | none => exact .dead _
    | some x => exact (hG g x hg).frozen (t := false) (by simp) rfl
  | func f => exact .clo f #[] [] rfl (by simp)

theorem setD_spec {env env' : Slots} {dst : Option Tmp} {v : PV} (h : setD nt env dst v = some env') : (∀ d, dst = some d → d < nt) ∧ ∀ x, getE env' x = if dst = some x then v else getE env x := by
  unfold setD at h
  cases dst with
  | none => simp at h; subst h; simp
  | some d =>
    simp only at h
    cases hb : Nat.blt d nt with
    | false => rw [hb] at h; simp at h
    | true =>
      rw [hb] at h; simp at h; subst h
      refine ⟨fun d' hd => by injection hd with hd; subst hd; exact Nat.le_of_ble_eq_true hb, fun x => ?_⟩
      rw [getE_setE]
      by_cases hx : x = d
      · subst hx; simp
      · rw [if_neg hx, if_neg (fun hh : some d = some x => hx (by injection hh with hh; exact hh.symm))]

theorem astep_cases {ops : Array Oper} {env env' : Slots} {σ σ' : List AObj} {o : Oper} {t : List Nat × List Nat} (h : astep E call k0 nt ops env σ o = some (env', σ', t)) :
    (wants ops env o = some false ∧ setD nt env o.dst (.tup []) = some env' ∧ σ' = σ ∧ t = ([], [])) ∨
    (wants ops env o = some true ∧ ∃ eff, aop E call k0 (fun i => cond (memN (foot (σ[·]?) (opd E env) o) i) σ[i]? none) σ.length (opd E env) o = some eff ∧ applyW σ eff.ws = some σ' ∧ setD nt env o.dst eff.val = some env' ∧
      t = (foot (σ[·]?) (opd E env) o, eff.ws.map (·.1))) := by
  unfold astep at h
  split at h
  · rename_i hw
    split at h
    · rename_i eff he
      split at h
      · rename_i s1 e1 h1 h2
        simp only [Option.some.injEq, Prod.mk.injEq] at h
        obtain ⟨rfl, rfl, rfl⟩ := h
        exact .inr ⟨hw, eff, he, h1, h2, rfl⟩
      · cases h
    · cases h
  · rename_i hw
    split at h
    · rename_i h1
      simp only [Option.some.injEq, Prod.mk.injEq] at h
      obtain ⟨rfl, rfl, rfl⟩ := h
      exact .inl ⟨hw, h1, rfl, rfl⟩
    · cases h
  · cases h

def Wv (ops : Array Oper) (e : Nat → Slots) (i x : Nat) : Option PV := match ops[i]? with
  | some o => if o.dst = some x then some (getE (e (i + 1)) x) else none
  | none => none
def Wst (s : Nat → List AObj) (t : Nat → List Nat × List Nat) (i x : Nat) : Option (Option AObj) := if memN (t i).2 x = true then some ((s (i + 1))[x]?) else none

theorem wanted_of {w : World} {Z Y : Nat → Prop} {L : Nat → Option Loc} {ops : Array Oper} {o : Oper} {a : Act} {ev : Nat → PV} {env : Slots} {b : Bool} (h : EnvR w Z Y L nt a ev) (he : ∀ t, t ∈ o.looksAt ops → ev t = getE env t) (hw : wants ops env o = some b) :
    Region.wanted o (yielded ops a.tmps) = b := by
  unfold wants at hw
  unfold Region.wanted
  cases hg : o.guard with
  | none => rw [hg] at hw; simp at hw; subst hw; rfl
  | some gw =>
    obtain ⟨g, want⟩ := gw
    rw [hg] at hw
    simp only at hw ⊢
    unfold yielded
    have hl : ops.toList[g]? = ops[g]? := Array.getElem?_toList ..
    rw [hl] at hw
    cases hd : (ops[g]?).bind (·.dst) with
    | none => rw [hd] at hw; simp at hw
    | some d =>
      rw [hd] at hw
      simp only at hw
      simp only [Option.bind_some]
      have hr := h.2 d
      rw [he d (by simp [Oper.looksAt, hg, hd])] at hr
      split at hw
      · rename_i b' hb'
        rw [hb'] at hr
        simp at hw; subst hw
        generalize hv : a.tmps.getD d undef = v at hr
        cases hr
        have hlt : d < a.tmps.size := by
          rcases Nat.lt_or_ge d a.tmps.size with h1 | h1
          · exact h1
          · rw [Array.getD_eq_getD_getElem?, Array.getElem?_eq_none h1] at hv; cases hv
        rw [Array.getD_eq_getD_getElem?, Array.getElem?_eq_getElem hlt] at hv
        simp at hv
        rw [Array.getElem?_eq_getElem hlt, hv]
        simp only
        cases b' <;> cases want <;> rfl
      · rename_i hb'
        rw [hb'] at hr
        simp at hw; subst hw
        generalize hv : a.tmps.getD d undef = v at hr
        cases hr with
        | tup cs _ _ _ =>
          cases ht : a.tmps[d]? with
          | none => rfl
          | some u =>
            rw [Array.getD_eq_getD_getElem?, ht] at hv
            simp at hv; subst hv; rfl
      · cases hw

/-- Two operations that may change places. -/
def Calm (ops : Array Oper) (o oi : Oper) (tj ti : List Nat × List Nat) : Prop :=
  (∀ d, oi.dst = some d → d ∉ o.looksAt ops ∧ o.dst ≠ some d) ∧ ∀ x, memN ti.2 x = true → memN tj.1 x = false ∧ memN tj.2 x = false

theorem step_at (hcall : CallOk E call) (hent : CallEnters E call) {ops : Array Oper} {e : Nat → Slots} {s : Nat → List AObj} {t : Nat → List Nat × List Nat}
    (hseq : ∀ i o, ops[i]? = some o → astep E call k0 nt ops (e i) (s i) o = some (e (i + 1), s (i + 1), t i))
    (hE : ∀ m, m ≤ ops.size → ∀ x, getE (e m) x = part (Wv ops e) (getE (e 0)) (fun _ => true) m x) (hS : ∀ m, m ≤ ops.size → ∀ x, (s m)[x]? = part (Wst s t) ((s 0)[·]?) (fun _ => true) m x)
    {D D' : Nat → Bool} {j : Nat} {o : Oper} (ho : ops[j]? = some o) (hj : D j = false) (hD : ∀ i, i ≠ j → D' i = D i) (hj' : D' j = true)
    (hap : ∀ i oi, ops[i]? = some oi → i ≠ j → D i ≠ decide (i < j) → Calm ops o oi (t j) (t i))
    {a : Act} {Q : Exit → Act → World → Prop} {K : Act → World → Prop}
    (hst : St E w0 M0 k0 Y Z0 L0 nt (part (Wv ops e) (getE (e 0)) D ops.size) (part (Wst s t) ((s 0)[·]?) D ops.size) a w)
    (hK : ∀ a' w', St E w0 M0 k0 Y Z0 L0 nt (part (Wv ops e) (getE (e 0)) D' ops.size) (part (Wst s t) ((s 0)[·]?) D' ops.size) a' w' → K a' w') : wpOp E.P ops Q j K a w := by
  have hlt : j < ops.size := (Array.getElem?_eq_some_iff.1 ho).1
  obtain ⟨Z, L, sim, gr, hz, hG, hev, hdf⟩ := hst
  have calm : ∀ i, i < ops.size → i ≠ j → D i ≠ decide (i < j) → ∃ oi, ops[i]? = some oi ∧ Calm ops o oi (t j) (t i) := fun i h1 h2 h3 =>
    ⟨ops[i], Array.getElem?_eq_getElem h1, hap i _ (Array.getElem?_eq_getElem h1) h2 h3⟩
  have rdE : ∀ x, (x ∈ o.looksAt ops ∨ o.dst = some x) → part (Wv ops e) (getE (e 0)) D ops.size x = getE (e j) x := by
    intro x hx
    rw [hE j (by omega)]
    have key : ∀ i, i < ops.size → i ≠ j → Wv ops e i x ≠ none → D i = decide (i < j) := by
      intro i h1 h2 h3
      by_cases hd : D i = decide (i < j)
      · exact hd
      · exfalso
        obtain ⟨oi, c1, c2, _⟩ := calm i h1 h2 hd
        simp only [Wv, c1] at h3
        by_cases hdx : oi.dst = some x
        · exact hx.elim (c2 x hdx).1 (c2 x hdx).2
        · rw [if_neg hdx] at h3; exact h3 rfl
    refine part_read (by omega) (fun i h1 h2 => ?_) (fun i h1 h2 h3 => ?_)
    · rw [key i (by omega) (by omega) h2]; simp [h1]
    · by_cases hij : i = j
      · subst hij; exact hj
      · rw [key i h2 hij h3]; simp; omega
  have rdS : ∀ x, (memN (t j).1 x = true ∨ memN (t j).2 x = true) → part (Wst s t) ((s 0)[·]?) D ops.size x = (s j)[x]? := by
    intro x hx
    rw [hS j (by omega)]
    have key : ∀ i, i < ops.size → i ≠ j → Wst s t i x ≠ none → D i = decide (i < j) := by
      intro i h1 h2 h3
      by_cases hd : D i = decide (i < j)
      · exact hd
      · exfalso
        obtain ⟨oi, c1, _, c2⟩ := calm i h1 h2 hd
        simp only [Wst] at h3
        cases hm : memN (t i).2 x with
        | false => rw [hm] at h3; simp at h3
        | true =>
          obtain ⟨c3, c4⟩ := c2 x hm
          rcases hx with hx | hx
          · rw [c3] at hx; cases hx
          · rw [c4] at hx; cases hx
    refine part_read (by omega) (fun i h1 h2 => ?_) (fun i h1 h2 h3 => ?_)
    · rw [key i (by omega) (by omega) h2]; simp [h1]
    · by_cases hij : i = j
      · subst hij; exact hj
      · rw [key i h2 hij h3]; simp; omega
  have nextE : ∀ {v : PV}, (∀ x, getE (e (j + 1)) x = if o.dst = some x then v else getE (e j) x) → ∀ x, part (Wv ops e) (getE (e 0)) D' ops.size x = if o.dst = some x then v else part (Wv ops e) (getE (e 0)) D ops.size x := by
    intro v hv x
    rw [part_step (D := D) hD hj' hlt]
    · simp only [Wv, ho]
      by_cases hd : o.dst = some x
      · rw [if_pos hd, if_pos hd]
        simp only
        rw [hv x, if_pos hd]
      · rw [if_neg hd, if_neg hd]
    · intro i h1 h2 h3 h4
      simp only [Wv, ho] at h3
      by_cases hd : o.dst = some x
      · by_cases hc : D i = decide (i < j)
        · rw [hc]; simp; omega
        · exfalso
          obtain ⟨oi, c1, c2, _⟩ := calm i h2 (by omega) hc
          simp only [Wv, c1] at h4
          by_cases hdx : oi.dst = some x
          · exact (c2 x hdx).2 hd
          · rw [if_neg hdx] at h4; exact h4 rfl
      · rw [if_neg hd] at h3; exact absurd rfl h3
  have nextS : ∀ {ws : Ws}, (t j).2 = ws.map (·.1) → (∀ x, (s (j + 1))[x]? = updW ((s j)[·]?) ws x) → part (Wst s t) ((s 0)[·]?) D' ops.size = updW (part (Wst s t) ((s 0)[·]?) D ops.size) ws := by
    intro ws ht hs
    funext x
    rw [part_step (D := D) hD hj' hlt]
    · simp only [Wst]
      cases hm : memN (t j).2 x with
      | true =>
        rw [if_pos rfl]
        simp only
        rw [hs x]
        rw [ht] at hm
        exact updW_in _ _ _ _ (memN_map.1 hm)
      | false =>
        rw [if_neg (by simp)]
        simp only
        rw [updW_ne]
        intro p hp hpx
        rw [ht, memN_map.2 ⟨p, hp, hpx⟩] at hm; cases hm
    · intro i h1 h2 h3 h4
      simp only [Wst] at h3 h4
      by_cases hc : D i = decide (i < j)
      · rw [hc]; simp; omega
      · exfalso
        obtain ⟨oi, c1, _, c2⟩ := calm i h2 (by omega) hc
        cases hm : memN (t i).2 x with
        | false => rw [hm] at h4; simp at h4
        | true =>
          have := (c2 x hm).2
          rw [this] at h3; simp at h3
  unfold wpOp
  rw [ho]
  simp only
  rcases astep_cases (hseq j o ho) with ⟨hw, h1, h2, h3⟩ | ⟨hw, eff, h1, h2, h3, h4⟩
  · rw [wanted_of hev (fun t ht => rdE t (.inl ht)) hw]
    simp only [Bool.false_eq_true, if_false]
    obtain ⟨d1, d2⟩ := setD_spec h1
    refine hK _ _ ⟨Z, L, ?_, gr, hz, hG, hev.put (p := .tup []) (Gr.refl ..) d1 (.tup #[] [] rfl (by simp)) (nextE d2), (put_defers ..).trans hdf⟩
    rw [nextS (ws := []) (by rw [h3]; rfl) (fun x => by rw [h2]; rfl)]
    exact sim
  · rw [wanted_of hev (fun t ht => rdE t (.inl ht)) hw]
    simp only [if_true]
    left
    obtain ⟨d1, d2⟩ := setD_spec h3
    refine aop_sound hcall hent sim (rd := fun i => cond (memN (foot ((s j)[·]?) (opd E (e j)) o) i) (s j)[i]? none) (k := (s j).length) (fun i obj hi => ?_) (fun x hx => ?_) hG (fun x hx => ?_) h1 (fun p hp hk => ?_) (fun w' v hp => ?_)
    · cases hm : memN (foot ((s j)[·]?) (opd E (e j)) o) i with
      | false => rw [hm] at hi; simp at hi
      | true =>
        rw [hm] at hi
        simp only [cond_true] at hi
        rw [rdS i (.inl (by rw [h4]; exact hm))]; exact hi
    · cases hm : memN (foot ((s j)[·]?) (opd E (e j)) o) x with
      | false => rw [hm] at hx; simp at hx
      | true =>
        rw [hm] at hx
        simp only [cond_true, ne_eq] at hx
        rcases Nat.lt_or_ge x (s j).length with h5 | h5
        · exact h5
        · exact absurd (List.getElem?_eq_none h5) hx
    · refine opd_rep hev hG fun t ht => rdE t (.inl ?_)
      subst ht
      exact List.mem_append_left _ (List.mem_filterMap.2 ⟨.tmp t, by simpa using hx, rfl⟩)
    · have := rdS p.1 (.inr (by rw [h4]; exact memN_map.2 ⟨p, hp, rfl⟩))
      rw [List.getElem?_eq_none hk] at this
      have hd := sim.dom p.1
      rw [this] at hd
      simpa using hd
    · obtain ⟨Z', L', p1, p2, p3, p4⟩ := hp
      refine hK _ _ ⟨Z', L', ?_, gr.trans p2, fun b hb => (p3 b hb).elim (hz b) .inr, hG.mono p2, hev.put (p := eff.val) p2 d1 p4 (nextE d2), (put_defers ..).trans hdf⟩
      rw [nextS (ws := eff.ws) (by rw [h4]) (applyW_spec _ _ _ h2)]
      exact p1
end
end Go.Bb

namespace Go.Bb

theorem fold_bits (acc : List Nat) (i : Nat) : ∀ (es : List Edge) (s0 : Nat), (es.foldl (fun s e => cond (Region.binds .any e) (s ||| 2 ^ e.on ||| acc.getD e.on 0) s) s0).testBit i = true →
    s0.testBit i = true ∨ ∃ e ∈ es, Region.binds .any e = true ∧ (i = e.on ∨ (acc.getD e.on 0).testBit i = true)
  | [], s0, h => .inl h
  | e :: r, s0, h => by
    simp only [List.foldl_cons] at h
    rcases fold_bits acc i r _ h with h1 | ⟨e', h1, h2, h3⟩
    · cases hb : Region.binds .any e with
      | false => rw [hb] at h1; exact .inl h1
      | true =>
        rw [hb] at h1
        simp only [cond_true, Nat.testBit_or, Bool.or_eq_true, Nat.testBit_two_pow, decide_eq_true_eq] at h1
        rcases h1 with (h1 | h1) | h1
        · exact .inl h1
        · exact .inr ⟨e, by simp, hb, .inl h1.symm⟩
        · exact .inr ⟨e, by simp, hb, .inr h1⟩
    · exact .inr ⟨e', List.mem_cons_of_mem _ h1, h2, h3⟩

theorem befs_spec : ∀ (l : List Oper) (acc : List Nat), ∃ ext, befs l acc = acc ++ ext ∧ ext.length = l.length ∧ ∀ (q : Nat) (o : Oper) (i : Nat), l[q]? = some o → ((befs l acc).getD (acc.length + q) 0).testBit i = true →
    ∃ e ∈ o.after, Region.binds .any e = true ∧ (i = e.on ∨ (e.on < acc.length + q ∧ ((befs l acc).getD e.on 0).testBit i = true))
  | [], acc => ⟨[], by simp [befs], rfl, by simp⟩
  | o :: r, acc => by
    let v := o.after.toList.foldl (fun s e => cond (Region.binds .any e) (s ||| 2 ^ e.on ||| acc.getD e.on 0) s) 0
    obtain ⟨ext, h1, h2, h3⟩ := befs_spec r (acc ++ [v])
    have hb : befs (o :: r) acc = befs r (acc ++ [v]) := rfl
    refine ⟨v :: ext, by rw [hb, h1]; simp, by simp [h2], fun q o' i ho hbit => ?_⟩
    rw [hb] at hbit ⊢
    cases q with
    | zero =>
      simp only [List.getElem?_cons_zero, Option.some.injEq] at ho
      subst ho
      rw [Nat.add_zero] at hbit ⊢
      have hv : (befs r (acc ++ [v])).getD acc.length 0 = v := by rw [h1]; simp [List.getD]
      rw [hv] at hbit
      rcases fold_bits acc i _ 0 hbit with h4 | ⟨e, h4, h5, h6⟩
      · simp at h4
      · refine ⟨e, by simpa using h4, h5, h6.imp id fun h6 => ?_⟩
        have hlt : e.on < acc.length := by
          rcases Nat.lt_or_ge e.on acc.length with h7 | h7
          · exact h7
          · rw [List.getD, List.getElem?_eq_none h7] at h6; simp at h6
        refine ⟨hlt, ?_⟩
        rw [h1, List.getD, List.append_assoc, List.getElem?_append_left hlt]; exact h6
    | succ q =>
      have ho' : r[q]? = some o' := by simpa using ho
      have hl : (acc ++ [v]).length + q = acc.length + (q + 1) := by simp; omega
      obtain ⟨e, h4, h5, h6⟩ := h3 q o' i ho' (by rw [hl]; exact hbit)
      rw [hl] at h6
      exact ⟨e, h4, h5, h6⟩

theorem goJ_spec {ops : Array Oper} {B : List Nat} {i : Nat} {x : Oper} {t : List Nat × List Nat} : ∀ (all : List (Oper × (List Nat × List Nat))) (j0 : Nat), pairsOk.goJ ops B i x t j0 all = true → ∀ (q : Nat) (y : Oper) (u : List Nat × List Nat), all[q]? = some (y, u) →
    i < j0 + q → (slotClash ops x y || clash t u) = true → (B.getD (j0 + q) 0).testBit i = true
  | [], j0, _, q, y, u, h, _, _ => by simp at h
  | (y', u') :: r, j0, hg, q, y, u, h, hlt, hc => by
    unfold pairsOk.goJ at hg
    rw [Bool.and_eq_true] at hg
    cases q with
    | zero =>
      simp at h
      obtain ⟨rfl, rfl⟩ := h
      have hb : Nat.blt i j0 = true := by simpa [Nat.blt_eq] using hlt
      have h1 := hg.1
      rw [hb, hc] at h1
      exact h1
    | succ q =>
      have := goJ_spec r (j0 + 1) hg.2 q y u (by simpa using h) (by omega) hc
      rwa [show j0 + (q + 1) = j0 + 1 + q by omega]

theorem pairsOk_spec {ops : Array Oper} {B : List Nat} : ∀ (l : List (Oper × (List Nat × List Nat))) (i0 : Nat) (j0 : Nat) (all : List (Oper × (List Nat × List Nat))), pairsOk ops B i0 l j0 all = true →
    ∀ (p q : Nat) (x : Oper) (t : List Nat × List Nat) (y : Oper) (u : List Nat × List Nat), l[p]? = some (x, t) → all[q]? = some (y, u) → i0 + p < j0 + q → (slotClash ops x y || clash t u) = true → (B.getD (j0 + q) 0).testBit (i0 + p) = true
  | [], i0, j0, all, _, p, q, x, t, y, u, h, _, _, _ => by simp at h
  | (x', t') :: r, i0, j0, all, hp, p, q, x, t, y, u, h, h2, hlt, hc => by
    unfold pairsOk at hp
    rw [Bool.and_eq_true] at hp
    cases p with
    | zero =>
      simp at h
      obtain ⟨rfl, rfl⟩ := h
      exact goJ_spec all j0 hp.1 q y u h2 hlt hc
    | succ p =>
      have := pairsOk_spec r (i0 + 1) j0 all hp.2 p q x t y u (by simpa using h) h2 (by omega) hc
      rwa [show i0 + (p + 1) = i0 + 1 + p by omega]

theorem edgesOk_spec : ∀ (l : List Oper) (j0 : Nat), edgesOk j0 l = true → ∀ (q : Nat) (o : Oper), l[q]? = some o → ∀ e ∈ o.after, Region.binds .any e = true → e.on < j0 + q
  | [], _, _, q, o, h, _, _, _ => by simp at h
  | o' :: r, j0, he, q, o, h, e, hm, hb => by
    unfold edgesOk at he
    rw [Bool.and_eq_true] at he
    cases q with
    | zero =>
      simp at h; subst h
      have := List.all_eq_true.1 he.1 e (by simpa using hm)
      rw [hb] at this
      simpa [Nat.blt_eq] using this
    | succ q =>
      have := edgesOk_spec r (j0 + 1) he.2 q o (by simpa using h) e hm hb
      omega

theorem meets_false {a b : List Nat} (h : meets a b = false) {x : Nat} (hx : memN a x = true) : memN b x = false := by
  unfold meets at h
  rw [List.any_eq_false] at h
  have := h x ((memN_iff a x).1 hx)
  simpa using this
theorem meets_comm_false {a b : List Nat} (h : meets a b = false) {x : Nat} (hx : memN b x = true) : memN a x = false := by
  cases hm : memN a x with
  | false => rfl
  | true => rw [meets_false h hm] at hx; cases hx

section
variable {E : Envt} {call : Callf} {w0 : World} {M0 : Nat → Nat → Prop} {k0 : Nat} {Y Z0 : Nat → Prop} {L0 : Nat → Option Loc} {nt : Nat} {w : World}

theorem St.draw {e : Nat → PV} {S : Nat → Option AObj} {a : Act} (h : St E w0 M0 k0 Y Z0 L0 nt e S a w) : St E w0 M0 k0 Y Z0 L0 nt e S a { w with drawn := w.drawn + 1 } := by
  obtain ⟨Z, L, s, g, hz, hG, hev, hd⟩ := h
  obtain ⟨s1, g1⟩ := s.same (w' := { w with drawn := w.drawn + 1 }) rfl rfl rfl rfl
  exact ⟨Z, L, s1, g.trans g1, hz, hG.mono g1, ⟨hev.1, fun t => (hev.2 t).mono g1⟩, hd⟩

theorem count_set : ∀ (l : List Bool) (j : Nat), l[j]? = some false → (l.set j true).count false + 1 = l.count false
  | [], j, h => by simp at h
  | b :: r, 0, h => by simp at h; subst h; simp
  | b :: r, j + 1, h => by
    have := count_set r j (by simpa using h)
    simp only [List.set_cons_succ, List.count_cons]
    omega

theorem region_sound (hcall : CallOk E call) (hent : CallEnters E call) (hmix : E.P.follows .mixedOrders = true) {id : Nat} {ops : Array Oper} {draw : Bool} {env env' : Slots} {σ σ' : List AObj} {ts : Trace}
    (hr : asteps E call k0 nt ops ops.toList env σ = some (env', σ', ts)) (hord : (!draw || orderOk ops ts) = true) {a : Act} {Q : Exit → Act → World → Prop}
    (hst : St E w0 M0 k0 Y Z0 L0 nt (getE env) (σ[·]?) a w) (hQ : ∀ a' w', St E w0 M0 k0 Y Z0 L0 nt (getE env') (σ'[·]?) a' w' → Q .normal a' w') : (Code.region id ops draw).wp E.P Q a w := by
  obtain ⟨e, s, t, rfl, rfl, rfl, rfl, hlen, hts, hseq'⟩ := asteps_seq _ _ _ _ _ _ hr
  have hseq : ∀ i o, ops[i]? = some o → astep E call k0 nt ops (e i) (s i) o = some (e (i + 1), s (i + 1), t i) := fun i o ho => hseq' i o (by simpa using ho)
  have hn : ops.toList.length = ops.size := by simp
  rw [hn] at hQ hlen hts
  have hE : ∀ m, m ≤ ops.size → ∀ x, getE (e m) x = part (Wv ops e) (getE (e 0)) (fun _ => true) m x := by
    intro m
    induction m with
    | zero => intro _ x; rfl
    | succ m ih =>
      intro hm x
      rw [part_succ, if_pos rfl]
      have ho := Array.getElem?_eq_getElem (xs := ops) (i := m) (by omega)
      simp only [Wv, ho]
      by_cases hd : (ops[m]'(by omega)).dst = some x
      · rw [if_pos hd]
      · rw [if_neg hd]
        simp only
        rw [← ih (by omega)]
        rcases astep_cases (hseq m _ ho) with ⟨_, h1, _, _⟩ | ⟨_, eff, _, _, h1, _⟩
        · rw [(setD_spec h1).2, if_neg hd]
        · rw [(setD_spec h1).2, if_neg hd]
  have hS : ∀ m, m ≤ ops.size → ∀ x, (s m)[x]? = part (Wst s t) ((s 0)[·]?) (fun _ => true) m x := by
    intro m
    induction m with
    | zero => intro _ x; rfl
    | succ m ih =>
      intro hm x
      rw [part_succ, if_pos rfl]
      have ho := Array.getElem?_eq_getElem (xs := ops) (i := m) (by omega)
      simp only [Wst]
      cases hmm : memN (t m).2 x with
      | true => rw [if_pos rfl]
      | false =>
        rw [if_neg (by simp)]
        simp only
        rw [← ih (by omega)]
        rcases astep_cases (hseq m _ ho) with ⟨_, _, h2, _⟩ | ⟨_, eff, _, h2, _, h4⟩
        · rw [h2]
        · rw [applyW_spec _ _ _ h2, updW_ne]
          intro p hp hpx
          rw [h4] at hmm
          rw [memN_map.2 ⟨p, hp, hpx⟩] at hmm; cases hmm
  have full : ∀ {D : Nat → Bool} {a' : Act} {w' : World}, (∀ i, i < ops.size → D i = true) → St E w0 M0 k0 Y Z0 L0 nt (part (Wv ops e) (getE (e 0)) D ops.size) (part (Wst s t) ((s 0)[·]?) D ops.size) a' w' → Q .normal a' w' := by
    intro D a' w' hD h
    refine hQ a' w' ?_
    have h1 : part (Wv ops e) (getE (e 0)) D ops.size = getE (e ops.size) := by
      funext x; rw [hE _ (Nat.le_refl _)]; exact part_eq _ fun i hi _ => hD i hi
    have h2 : part (Wst s t) ((s 0)[·]?) D ops.size = ((s ops.size)[·]?) := by
      funext x; rw [hS _ (Nat.le_refl _)]; exact part_eq _ fun i hi _ => hD i hi
    rwa [h1, h2] at h
  have none_ : ∀ {D : Nat → Bool}, (∀ i, i < ops.size → D i = false) → part (Wv ops e) (getE (e 0)) D ops.size = getE (e 0) ∧ part (Wst s t) ((s 0)[·]?) D ops.size = ((s 0)[·]?) := by
    intro D hD
    constructor
    · funext x; exact part_tail (j := 0) _ (Nat.zero_le _) fun i _ hi _ => hD i hi
    · funext x; exact part_tail (W := Wst s t) (f := ((s 0)[·]?)) (j := 0) _ (Nat.zero_le _) fun i _ hi _ => hD i hi
  cases draw with
  | false =>
    refine wp_region ?_
    have go : ∀ (k j : Nat), j + k = ops.size → ∀ a w, St E w0 M0 k0 Y Z0 L0 nt (part (Wv ops e) (getE (e 0)) (fun i => decide (i < j)) ops.size) (part (Wst s t) ((s 0)[·]?) (fun i => decide (i < j)) ops.size) a w → wpOps E.P ops Q (List.range' j k) a w := by
      intro k
      induction k with
      | zero =>
        intro j hj a w h
        exact full (D := fun i => decide (i < j)) (fun i hi => by simp; omega) h
      | succ k ih =>
        intro j hj a w h
        rw [List.range'_succ, wpOps_cons]
        refine step_at hcall hent hseq hE hS (D := fun i => decide (i < j)) (D' := fun i => decide (i < j + 1)) (Array.getElem?_eq_getElem (by omega)) (by simp) (fun i hi => ?_) (by simp) (fun i oi _ hi hne => absurd rfl hne) h (ih (j + 1) (by omega))
        by_cases h1 : i < j
        · simp [h1, Nat.lt_succ_of_lt h1]
        · simp [h1]; omega
    rw [List.range_eq_range']
    exact go ops.size 0 (by omega) a w (by
      obtain ⟨h1, h2⟩ := none_ (D := fun i => decide (i < 0)) (fun i _ => by simp)
      rw [h1, h2]; exact hst)
  | true =>
    refine wp_region_any hmix ?_
    simp only [Bool.not_true, Bool.false_or] at hord
    unfold orderOk at hord
    simp only [Bool.and_eq_true] at hord
    obtain ⟨⟨_, hedge⟩, hpairs⟩ := hord
    have edge : ∀ j o, ops[j]? = some o → ∀ ed ∈ o.after, Region.binds .any ed = true → ed.on < j := fun j o ho ed h1 h2 => by
      have := edgesOk_spec _ 0 hedge j o (by simpa using ho) ed h1 h2
      omega
    have zipget : ∀ i oi, ops[i]? = some oi → (ops.toList.zip ts)[i]? = some (oi, t i) := fun i oi ho => by
      have hi : i < ops.size := (Array.getElem?_eq_some_iff.1 ho).1
      rw [List.getElem?_zip_eq_some]
      exact ⟨by simpa using ho, hts i hi⟩
    have pairs : ∀ i j oi oj, ops[i]? = some oi → ops[j]? = some oj → i < j → (slotClash ops oi oj || clash (t i) (t j)) = true → ((befs ops.toList []).getD j 0).testBit i = true := fun i j oi oj h1 h2 h3 h4 => by
      have := pairsOk_spec _ 0 0 _ hpairs i j oi (t i) oj (t j) (zipget i oi h1) (zipget j oj h2) (by omega) h4
      simpa using this
    have bef : ∀ j o i, ops[j]? = some o → ((befs ops.toList []).getD j 0).testBit i = true → ∃ ed ∈ o.after, Region.binds .any ed = true ∧ (i = ed.on ∨ (ed.on < j ∧ ((befs ops.toList []).getD ed.on 0).testBit i = true)) := by
      intro j o i ho hb
      obtain ⟨_, _, _, h3⟩ := befs_spec ops.toList []
      have := h3 j o i (by simpa using ho) (by simpa using hb)
      simpa using this
    have closed : ∀ (D : Nat → Bool), (∀ j o, ops[j]? = some o → D j = true → ∀ ed ∈ o.after, Region.binds .any ed = true → D ed.on = true) → ∀ j, j < ops.size → D j = true → ∀ i, ((befs ops.toList []).getD j 0).testBit i = true → D i = true := by
      intro D hD j
      induction j using Nat.strongRecOn with
      | _ j ih =>
        intro hj hd i hb
        have ho := Array.getElem?_eq_getElem (xs := ops) hj
        obtain ⟨ed, h1, h2, h3⟩ := bef j _ i ho hb
        have hon := hD j _ ho hd ed h1 h2
        rcases h3 with rfl | ⟨h3, h4⟩
        · exact hon
        · exact ih ed.on h3 (by omega) hon i h4
    have go : ∀ (fuel : Nat) (listed : Array Bool) (a : Act) (w : World), listed.size = ops.size → listed.toList.count false ≤ fuel →
        (∀ j o, ops[j]? = some o → listed.getD j false = true → ∀ ed ∈ o.after, Region.binds .any ed = true → listed.getD ed.on false = true) →
        St E w0 M0 k0 Y Z0 L0 nt (part (Wv ops e) (getE (e 0)) (fun i => listed.getD i false) ops.size) (part (Wst s t) ((s 0)[·]?) (fun i => listed.getD i false) ops.size) a w → wpAny E.P .any ops Q fuel listed a w := by
      have getT : ∀ {listed : Array Bool} {j : Nat}, listed.size = ops.size → j < ops.size → listed.getD j true = false → listed.getD j false = false ∧ listed.toList[j]? = some false := by
        intro listed j h1 h2 h3
        have := Array.getElem?_eq_getElem (xs := listed) (i := j) (by omega)
        rw [Array.getD_eq_getD_getElem?, this] at h3 ⊢
        simp at h3
        exact ⟨by simpa using h3, by rw [Array.getElem?_toList, this, h3]⟩
      have getF : ∀ {listed : Array Bool} {j : Nat}, listed.size = ops.size → j < ops.size → listed.getD j false = false → listed.getD j true = false := by
        intro listed j h1 h2 h3
        have := Array.getElem?_eq_getElem (xs := listed) (i := j) (by omega)
        rw [Array.getD_eq_getD_getElem?, this] at h3 ⊢
        exact h3
      have least : ∀ (listed : Array Bool), listed.size = ops.size → Region.ready .any ops listed = [] → ∀ i, i < ops.size → listed.getD i false = true := by
        intro listed hsz hr i
        induction i using Nat.strongRecOn with
        | _ i ih =>
          intro hi
          cases hl : listed.getD i false with
          | true => rfl
          | false =>
            exfalso
            have ho := Array.getElem?_eq_getElem (xs := ops) hi
            have hm : i ∈ Region.ready .any ops listed := mem_ready.2 ⟨getF hsz hi hl, _, ho, fun ed h1 h2 => by
              have := edge i _ ho ed h1 h2
              exact ih ed.on this (by omega)⟩
            rw [hr] at hm; cases hm
      intro fuel
      induction fuel with
      | zero =>
        intro listed a w hsz hc hcl h
        have hr : Region.ready .any ops listed = [] := by
          refine List.eq_nil_iff_forall_not_mem.2 fun i hi => ?_
          obtain ⟨h1, o, ho, _⟩ := mem_ready.1 hi
          have := (getT hsz (Array.getElem?_eq_some_iff.1 ho).1 h1).2
          have := List.count_pos_iff.2 (List.mem_of_getElem? this)
          omega
        exact ⟨hr, full (D := fun i => listed.getD i false) (least listed hsz hr) h⟩
      | succ fuel ih =>
        intro listed a w hsz hc hcl h
        refine ⟨fun hr => full (D := fun i => listed.getD i false) (least listed hsz hr) h, fun j hj => ?_⟩
        obtain ⟨h1, o, ho, hready⟩ := mem_ready.1 hj
        have hjn := (Array.getElem?_eq_some_iff.1 ho).1
        obtain ⟨h2, h3⟩ := getT hsz hjn h1
        have hset : (listed.setIfInBounds j true).getD j false = true := by
          rw [Array.getD_eq_getD_getElem?, Array.getElem?_setIfInBounds_self_of_lt (by omega)]; rfl
        refine step_at hcall hent hseq hE hS (D := fun i => listed.getD i false) (D' := fun i => (listed.setIfInBounds j true).getD i false) ho h2 (fun i hi => getD_set_ne false (Ne.symm hi)) hset (fun i oi hoi hi hne => ?_) h (fun a' w' h' => ih (listed.setIfInBounds j true) a' w' (by simp [hsz]) ?_ ?_ h')
        · have hin := (Array.getElem?_eq_some_iff.1 hoi).1
          rcases Nat.lt_or_ge i j with hlt | hge
          · have hdi : listed.getD i false = false := by simpa [hlt] using hne
            cases hcl2 : (slotClash ops oi o || clash (t i) (t j)) with
            | true =>
              exfalso
              obtain ⟨ed, b1, b2, b3⟩ := bef j o i ho (pairs i j oi o hoi ho hlt hcl2)
              have hon := hready ed b1 b2
              have : listed.getD i false = true := by
                rcases b3 with rfl | ⟨b3, b4⟩
                · exact hon
                · exact closed (fun i => listed.getD i false) hcl ed.on (by omega) hon i b4
              rw [hdi] at this; cases this
            | false =>
              rw [Bool.or_eq_false_iff] at hcl2
              obtain ⟨c1, c2⟩ := hcl2
              simp only [slotClash, Bool.not_eq_false'] at c1
              obtain ⟨a1, a2, a3⟩ := Oper.apart_spec c1
              unfold clash at c2
              simp only [Bool.or_eq_false_iff] at c2
              exact ⟨fun d hd => ⟨a1 d hd, a2 d hd⟩, fun x hx => ⟨meets_false c2.1.1 hx, meets_false c2.1.2 hx⟩⟩
          · have hgt : j < i := by omega
            have hdi : listed.getD i false = true := by
              have : decide (i < j) = false := by simp; omega
              simpa [this] using hne
            cases hcl2 : (slotClash ops o oi || clash (t j) (t i)) with
            | true =>
              exfalso
              have := closed (fun i => listed.getD i false) hcl i hin hdi j (pairs j i o oi ho hoi hgt hcl2)
              rw [h2] at this; cases this
            | false =>
              rw [Bool.or_eq_false_iff] at hcl2
              obtain ⟨c1, c2⟩ := hcl2
              simp only [slotClash, Bool.not_eq_false'] at c1
              obtain ⟨a1, a2, a3⟩ := Oper.apart_spec c1
              unfold clash at c2
              simp only [Bool.or_eq_false_iff] at c2
              exact ⟨fun d hd => ⟨a3 d hd, fun hh => a2 d hh hd⟩, fun x hx => ⟨meets_comm_false c2.2 hx, meets_comm_false c2.1.2 hx⟩⟩
        · have := count_set listed.toList j h3
          simp only [Array.toList_setIfInBounds]
          omega
        · intro j' o' ho' hd' ed h5 h6
          by_cases hjj : j' = j
          · subst hjj
            rw [ho] at ho'; injection ho' with ho'; subst ho'
            exact getD_set_true (hready ed h5 h6)
          · rw [getD_set_ne false (Ne.symm hjj)] at hd'
            exact getD_set_true (hcl j' o' ho' hd' ed h5 h6)
    refine go ops.size (Array.replicate ops.size false) a _ (by simp) (by simp) (fun j o ho hd => ?_) ?_
    · have hlt := (Array.getElem?_eq_some_iff.1 ho).1
      rw [Array.getD_eq_getD_getElem?] at hd
      simp [hlt] at hd
    · obtain ⟨h1, h2⟩ := none_ (D := fun i => (Array.replicate ops.size false).getD i false) (fun i hi => by rw [Array.getD_eq_getD_getElem?]; simp [hi])
      rw [h1, h2]; exact hst.draw
end
end Go.Bb

namespace Go.Bb

mutual
theorem ren_id : ∀ (x : PV), x.ren (fun o => o) = x
  | .agg xs => by simp only [PV.ren]; rw [rens_id xs]
  | .tup xs => by simp only [PV.ren]; rw [rens_id xs]
  | .clo _ xs => by simp only [PV.ren]; rw [rens_id xs]
  | .int .. | .bool .. | .str .. | .nilf | .nili | .nilp | .nils => rfl
  | .list .. | .ro .. | .rom .. => rfl
  | .refv .. | .refa .. | .own .. | .map .. | .iter .. | .dead => rfl
theorem rens_id : ∀ (xs : List PV), rens (fun o => o) xs = xs
  | [] => rfl
  | x :: r => by simp only [rens]; rw [ren_id x, rens_id r]
end
theorem oren_id (x : AObj) : x.ren (fun o => o) = x := by
  cases x <;> first | rfl | (simp only [AObj.ren]; rw [ren_id])

theorem getE_dropE (ks : List Nat) : ∀ (env : Slots) (x : Nat), getE (dropE ks env) x = if memN ks x = true then .dead else getE env x
  | [], x => by simp [dropE, getE]
  | (s, v) :: r, x => by
    have ih := getE_dropE ks r x
    unfold dropE
    by_cases h : Nat.beq s x = true
    · have := Nat.eq_of_beq_eq_true h; subst this
      cases hm : memN ks s with
      | true => simp only [cond_true]; rw [ih, hm]; simp
      | false => simp [getE, Nat.beq_refl]
    · have h : Nat.beq s x = false := Bool.eq_false_iff.2 h
      cases hm : memN ks s with
      | true => simp only [cond_true, getE, h, cond_false]; exact ih
      | false => simp only [cond_false, getE, h]; exact ih

theorem envOk_spec {m : Nat} : ∀ {env : Slots}, envOk m env = true → ∀ x, (getE env x).ids (Nat.blt · m) = true
  | [], _, x => rfl
  | (s, v) :: r, h, x => by
    simp only [envOk, Bool.and_eq_true] at h
    simp only [getE]
    cases Nat.beq s x with
    | true => exact h.1
    | false => exact envOk_spec h.2 x
theorem objsOk_spec {m : Nat} : ∀ {σ : List AObj}, objsOk m σ = true → ∀ x ∈ σ, objOk (Nat.blt · m) x = true
  | [], _, x, h => by simp at h
  | y :: r, hs, x, h => by
    rcases List.mem_cons.1 h with rfl | h
    · cases x <;> simp_all [objsOk, objOk]
    · refine objsOk_spec (σ := r) ?_ x h
      cases y <;> simp_all [objsOk]

section
variable {E : Envt} {call : Callf} {w0 : World} {M0 : Nat → Nat → Prop} {k0 : Nat} {Y Z0 : Nat → Prop} {L0 : Nat → Option Loc} {nt : Nat} {w : World}

theorem tidy_sound (hL0 : ∀ o loc, L0 o = some loc → o < k0) {ann : Option (List Nat × Option Nat)} {env env' : Slots} {σ σ' : List AObj} (ht : tidy k0 ann env σ = some (env', σ')) {a : Act}
    (h : St E w0 M0 k0 Y Z0 L0 nt (getE env) (σ[·]?) a w) : St E w0 M0 k0 Y Z0 L0 nt (getE env') (σ'[·]?) a w := by
  obtain ⟨Z, L, s, g, hz, hG, hev, hd⟩ := h
  unfold tidy at ht
  have dropped : ∀ ks, EnvR w Z Y L nt a (getE (dropE ks env)) := fun ks => ⟨hev.1, fun t => by
    rw [getE_dropE]
    split
    · exact .dead _
    · exact hev.2 t⟩
  split at ht
  · simp only [Option.some.injEq, Prod.mk.injEq] at ht
    obtain ⟨rfl, rfl⟩ := ht
    exact ⟨Z, L, s, g, hz, hG, hev, hd⟩
  · simp only [Option.some.injEq, Prod.mk.injEq] at ht
    obtain ⟨rfl, rfl⟩ := ht
    exact ⟨Z, L, s, g, hz, hG, dropped _, hd⟩
  · rename_i ks m
    cases hb : (Nat.ble k0 m && envOk m (dropE ks env) && objsOk m (σ.take m)) with
    | false => rw [hb] at ht; simp at ht
    | true =>
      rw [hb] at ht
      simp only [cond_true, Option.some.injEq, Prod.mk.injEq] at ht
      obtain ⟨rfl, rfl⟩ := ht
      simp only [Bool.and_eq_true] at hb
      obtain ⟨⟨b1, b2⟩, b3⟩ := hb
      have hk := Nat.le_of_ble_eq_true b1
      let L' : Nat → Option Loc := fun o => if o < m then L o else none
      have hcar : ∀ o loc, Nat.blt o m = true → L o = some loc → L' o = some loc := fun o loc h1 h2 => by
        have h1 : o < m := Nat.le_of_ble_eq_true h1
        simp only [L']; rw [if_pos h1]; exact h2
      have inL : ∀ o loc, L' o = some loc → o < m ∧ L o = some loc := fun o loc h1 => by
        simp only [L'] at h1; split at h1
        · exact ⟨by assumption, h1⟩
        · cases h1
      have inS : ∀ (o : Nat) (obj : AObj), (σ.take m)[o]? = some obj → o < m ∧ σ[o]? = some obj := fun o obj h1 => by
        rw [List.getElem?_take] at h1; split at h1
        · exact ⟨by assumption, h1⟩
        · cases h1
      refine ⟨Z, L', ⟨s.os, s.tape, s.output, s.size, s.kept, fun o => ?_, fun o loc obj h1 h2 => ?_, fun o loc obj h1 h2 => s.blk o loc obj (inL o loc h1).2 (inS o obj h2).2,
        fun o o' loc loc' obj obj' hne h1 h1' h2 h2' => s.sep o o' loc loc' obj obj' hne (inL o loc h1).2 (inL o' loc' h1').2 (inS o obj h2).2 (inS o' obj' h2').2, s.zl, s.yl⟩,
        ⟨g.heap, g.zz, fun o loc h1 => ?_⟩, hz, hG, ⟨hev.1, fun t => ?_⟩, hd⟩
      · simp only [L']
        rw [List.getElem?_take]
        split
        · exact s.dom o
        · rfl
      · have := (s.objs o loc obj (inL o loc h1).2 (inS o obj h2).2).carry (q := (Nat.blt · m)) (ρ := fun o => o) hcar (objsOk_spec b3 obj (List.mem_of_getElem? h2)) (.inl fun _ hy => hy)
        rwa [oren_id] at this
      · obtain ⟨l, h2, h3⟩ := g.ll o loc h1
        exact ⟨l, by simp only [L']; rw [if_pos (Nat.lt_of_lt_of_le (hL0 o loc h1) hk)]; exact h2, h3⟩
      · have := ((dropped ks).2 t).carry (q := (Nat.blt · m)) (ρ := fun o => o) (Y' := Y) (L2 := L') hcar (envOk_spec b2 t) (.inl fun _ hy => hy)
        rwa [ren_id] at this

def exOf : AExit → Exit
  | .normal => .normal
  | .exit id => .exit id
  | .ret => .ret

theorem acode_sound (hcall : CallOk E call) (hent : CallEnters E call) (hmix : E.P.follows .mixedOrders = true) (hL0 : ∀ o loc, L0 o = some loc → o < k0) {ann : Nat → Option (List Nat × Option Nat)} {n : Nat} :
    ∀ (c : Code) (env : Slots) (σ : List AObj) (r : AExit) (env' : Slots) (σ' : List AObj), acode E call ann k0 nt n c env σ = some (r, env', σ') → ∀ (a : Act) (w : World), St E w0 M0 k0 Y Z0 L0 nt (getE env) (σ[·]?) a w →
      c.wp E.P (fun e a' w' => e = exOf r ∧ St E w0 M0 k0 Y Z0 L0 nt (getE env') (σ'[·]?) a' w') a w := by
  intro c
  induction c with
  | skip =>
    intro env σ r env' σ' h a w hs
    simp only [acode, Option.some.injEq, Prod.mk.injEq] at h
    obtain ⟨rfl, rfl, rfl⟩ := h
    exact wp_skip ⟨rfl, hs⟩
  | region id ops draw =>
    intro env σ r env' σ' h a w hs
    simp only [acode] at h
    split at h
    · rename_i e1 s1 ts h1
      cases hb : (!draw || orderOk ops ts) with
      | false => rw [hb] at h; simp at h
      | true =>
        rw [hb] at h
        simp only [cond_true] at h
        split at h
        · rename_i e2 s2 h2
          simp only [Option.some.injEq, Prod.mk.injEq] at h
          obtain ⟨rfl, rfl, rfl⟩ := h
          exact region_sound hcall hent hmix h1 hb hs fun a' w' h' => ⟨rfl, tidy_sound hL0 h2 h'⟩
        · cases h
    · cases h
  | seq x y ihx ihy =>
    intro env σ r env' σ' h a w hs
    simp only [acode] at h
    split at h
    · rename_i e1 s1 h1
      refine wp_seq (wp_mono (ihx env σ .normal e1 s1 h1 a w hs) fun e a' w' hq => ?_)
      obtain ⟨rfl, hq⟩ := hq
      exact ihy e1 s1 r env' σ' h a' w' hq
    · rename_i h1
      refine wp_seq (wp_mono (ihx env σ r env' σ' h a w hs) fun e a' w' hq => ?_)
      obtain ⟨rfl, hq⟩ := hq
      cases r with
      | normal => exact absurd h (h1 env' σ')
      | exit id => exact ⟨rfl, hq⟩
      | ret => exact ⟨rfl, hq⟩
  | cond c x y ihx ihy =>
    intro env σ r env' σ' h a w hs
    simp only [acode] at h
    split at h
    · rename_i t ht
      have hc : a.eval c = .bool t := by
        obtain ⟨Z, L, s, g, hz, hG, hev, hd⟩ := hs
        have := opd_rep (env := env) hev hG (x := c) (fun _ _ => rfl)
        rw [ht] at this
        generalize hv : a.eval c = v at this
        cases this; rfl
      refine wp_cond hc ?_
      cases t with
      | true => exact ihx env σ r env' σ' h a w hs
      | false => exact ihy env σ r env' σ' h a w hs
    · cases h
  | block id c ih =>
    intro env σ r env' σ' h a w hs
    simp only [acode] at h
    split at h
    · rename_i i e1 s1 h1
      refine wp_block (wp_mono (ih env σ (.exit i) e1 s1 h1 a w hs) fun e a' w' hq => ?_)
      obtain ⟨rfl, hq⟩ := hq
      cases hb : Nat.beq i id with
      | true =>
        rw [hb] at h
        simp only [cond_true, Option.some.injEq, Prod.mk.injEq] at h
        obtain ⟨rfl, rfl, rfl⟩ := h
        have := Nat.eq_of_beq_eq_true hb
        subst this
        simp only [exOf, Exit.inBlock, if_true]
        exact ⟨trivial, hq⟩
      | false =>
        rw [hb] at h
        simp only [cond_false, Option.some.injEq, Prod.mk.injEq] at h
        obtain ⟨rfl, rfl, rfl⟩ := h
        have hne : i ≠ id := by rintro rfl; rw [Nat.beq_refl] at hb; cases hb
        simp only [exOf, Exit.inBlock, if_neg hne]
        exact ⟨trivial, hq⟩
    · rename_i h1
      refine wp_block (wp_mono (ih env σ r env' σ' h a w hs) fun e a' w' hq => ?_)
      obtain ⟨rfl, hq⟩ := hq
      cases r with
      | normal => exact ⟨rfl, hq⟩
      | exit id => exact absurd h (h1 id env' σ')
      | ret => exact ⟨rfl, hq⟩
  | loop c ih =>
    intro env σ r env' σ' h a w hs
    simp only [acode] at h
    refine wp_loop_rounds n ?_
    have go : ∀ (m : Nat) (env : Slots) (σ : List AObj), aloop (fun e s => acode E call ann k0 nt n c e s) m env σ = some (r, env', σ') → ∀ (a : Act) (w : World), St E w0 M0 k0 Y Z0 L0 nt (getE env) (σ[·]?) a w →
        Code.rounds E.P c (fun e a' w' => e = exOf r ∧ St E w0 M0 k0 Y Z0 L0 nt (getE env') (σ'[·]?) a' w') m a w := by
      intro m
      induction m with
      | zero => intro env σ h; simp [aloop] at h
      | succ m ihm =>
        intro env σ h a w hs
        unfold aloop at h
        rw [rounds_succ]
        split at h
        · rename_i e1 s1 h1
          refine wp_mono (ih env σ .normal e1 s1 h1 a w hs) fun e a' w' hq => ?_
          obtain ⟨rfl, hq⟩ := hq
          exact ihm e1 s1 h a' w' hq
        · rename_i h1
          refine wp_mono (ih env σ r env' σ' h a w hs) fun e a' w' hq => ?_
          obtain ⟨rfl, hq⟩ := hq
          cases r with
          | normal => exact absurd h (h1 env' σ')
          | exit id => exact ⟨rfl, hq⟩
          | ret => exact ⟨rfl, hq⟩
    exact go n env σ h a w hs
  | exit id =>
    intro env σ r env' σ' h a w hs
    simp only [acode, Option.some.injEq, Prod.mk.injEq] at h
    obtain ⟨rfl, rfl, rfl⟩ := h
    exact wp_exit ⟨rfl, hs⟩
  | scope c ih =>
    intro env σ r env' σ' h a w hs
    simp only [acode] at h
    refine wp_scope_straight (wp_mono (ih env σ r env' σ' h a w hs) fun e a' w' hq => ?_)
    obtain ⟨rfl, hq⟩ := hq
    cases r <;> exact ⟨rfl, hq⟩
  | ret =>
    intro env σ r env' σ' h a w hs
    simp only [acode, Option.some.injEq, Prod.mk.injEq] at h
    obtain ⟨rfl, rfl, rfl⟩ := h
    exact wp_ret ⟨rfl, hs⟩
  | _ => intro env σ r env' σ' h; simp [acode] at h
end
end Go.Bb

namespace Go.Bb
section
variable {E : Envt} {call : Callf} {w0 : World} {M0 : Nat → Nat → Prop} {k0 : Nat} {Y Z Z0 : Nat → Prop} {L L0 : Nat → Option Loc} {nt : Nat} {w : World} {S : Nat → Option AObj}

theorem finW_sound (h : Sim w0 M0 k0 Y Z w L S) (g : Gr Y w0 Z0 L0 w Z L) (hL0 : ∀ o loc, L0 o = some loc → o < k0) {σ : List AObj} (hk : k0 ≤ σ.length) {X F : List Nat} (hS : ∀ o, o ∉ F → S o = σ[o]?) (hF : ∀ o ∈ F, k0 ≤ o)
    (hX : X.Nodup) (hXk : ∀ o ∈ X, k0 ≤ o) {r1 res : PV} {σ' : List AObj} {v : Value} (hv : Rep w Z Y L v r1) (hr : finW k0 X F r1 σ = some (res, σ')) :
    ∃ L', Sim w0 M0 k0 Y Z w L' (σ'[·]?) ∧ Gr Y w0 Z0 L0 w Z L' ∧ Rep w Z Y L' v res := by
  unfold finW at hr
  cases hm : mapO (fun o => σ[o]?) X with
  | none => rw [hm] at hr; simp at hr
  | some objs =>
    rw [hm] at hr
    simp only at hr
    cases hb : (r1.ids (finQ k0 X) && (σ.take k0 ++ objs).all (objOk (finQ k0 X)) && X.all fun o => !memN F o) with
    | false => rw [hb] at hr; simp at hr
    | true =>
      rw [hb] at hr
      simp only [cond_true, Option.some.injEq, Prod.mk.injEq] at hr
      obtain ⟨rfl, rfl⟩ := hr
      simp only [Bool.and_eq_true] at hb
      obtain ⟨⟨b1, b2⟩, b3⟩ := hb
      obtain ⟨m1, m2⟩ := mapO_spec hm
      have hXF : ∀ o ∈ X, o ∉ F := fun o ho hf => by
        have := List.all_eq_true.1 b3 o ho
        rw [(memN_iff F o).2 hf] at this; cases this
      let inv : Nat → Option Nat := fun o => if o < k0 then some o else X[o - k0]?
      let L' : Nat → Option Loc := fun o => (inv o).bind L
      have invin : ∀ o i, inv o = some i → i ∉ F ∧ (o < k0 ∧ i = o ∨ k0 ≤ o ∧ X[o - k0]? = some i) := fun o i hi => by
        simp only [inv] at hi
        split at hi
        · rename_i hlt
          injection hi with hi; subst hi
          exact ⟨fun hf => by have := hF _ hf; omega, .inl ⟨hlt, rfl⟩⟩
        · exact ⟨hXF i (List.mem_of_getElem? hi), .inr ⟨by omega, hi⟩⟩
      have inj : ∀ o o' i, inv o = some i → inv o' = some i → o = o' := fun o o' i h1 h2 => by
        rcases (invin o i h1).2 with ⟨a1, a2⟩ | ⟨a1, a2⟩ <;> rcases (invin o' i h2).2 with ⟨c1, c2⟩ | ⟨c1, c2⟩
        · omega
        · have := hXk i (List.mem_of_getElem? c2); omega
        · have := hXk i (List.mem_of_getElem? a2); omega
        · have := pos_get hX a2; have := pos_get hX c2; omega
      have hcar : ∀ o loc, finQ k0 X o = true → L o = some loc → L' (finR k0 X o) = some loc := fun o loc hq hl => by
        unfold finQ at hq
        unfold finR
        cases hlt : Nat.blt o k0 with
        | true =>
          have : o < k0 := Nat.le_of_ble_eq_true hlt
          simp only [cond_true, L', inv]
          rw [if_pos this]; exact hl
        | false =>
          rw [hlt] at hq
          simp only [Bool.false_or] at hq
          obtain ⟨p1, p2⟩ := pos_lt ((memN_iff X o).1 hq)
          simp only [cond_false, L', inv]
          rw [if_neg (by omega), Nat.add_sub_cancel_left, p2]; exact hl
      have Sin : ∀ (o : Nat) (obj : AObj), ((σ.take k0 ++ objs).map (·.ren (finR k0 X)))[o]? = some obj → ∃ i x, inv o = some i ∧ S i = some x ∧ objOk (finQ k0 X) x = true ∧ obj = x.ren (finR k0 X) := fun o obj ho => by
        obtain ⟨x, h1, h2⟩ := map_getElem ho
        have hok := List.all_eq_true.1 b2 x (List.mem_of_getElem? h1)
        have hlt : (σ.take k0).length = k0 := by simp; omega
        rw [List.getElem?_append] at h1
        split at h1
        · rename_i hlo
          rw [hlt] at hlo
          rw [List.getElem?_take, if_pos hlo] at h1
          refine ⟨o, x, by simp only [inv]; rw [if_pos hlo], ?_, hok, h2⟩
          rw [hS o (fun hf => by have := hF _ hf; omega)]; exact h1
        · rename_i hlo
          rw [hlt] at h1 hlo
          have hlx : o - k0 < X.length := by have := (List.getElem?_eq_some_iff.1 h1).1; omega
          have hx := List.getElem?_eq_getElem hlx
          refine ⟨X[o - k0], x, by simp only [inv]; rw [if_neg (by omega), hx], ?_, hok, h2⟩
          rw [hS _ (hXF _ (List.getElem_mem hlx))]
          exact m2 _ _ x hx h1
      have Sdom : ∀ o, (((σ.take k0 ++ objs).map (·.ren (finR k0 X)))[o]?).isSome = ((inv o).bind S).isSome := fun o => by
        cases hs : ((σ.take k0 ++ objs).map (·.ren (finR k0 X)))[o]? with
        | some obj =>
          obtain ⟨i, x, h1, h2, _, _⟩ := Sin o obj hs
          simp [h1, h2]
        | none =>
          have hle := List.getElem?_eq_none_iff.1 hs
          simp at hle
          have : inv o = none := by
            simp only [inv]
            rw [if_neg (by omega), List.getElem?_eq_none (by omega)]
          rw [this]; rfl
      have inL : ∀ o loc, L' o = some loc → ∃ i, inv o = some i ∧ L i = some loc := fun o loc hl => by
        obtain ⟨i, h1, h2⟩ := Option.bind_eq_some_iff.1 hl
        exact ⟨i, h1, h2⟩
      have lv : ∀ {loc : Loc} {x : AObj}, live loc (x.ren (finR k0 X)) → live loc x := fun {loc x} hv => by cases x <;> exact hv
      refine ⟨L', ⟨h.os, h.tape, h.output, h.size, h.kept, fun o => ?_, fun o loc obj h1 h2 => ?_, fun o loc obj h1 h2 h3 => ?_, fun o o' loc loc' obj obj' hne h1 h1' h2 h2' h3 h3' => ?_, h.zl, h.yl⟩,
        ⟨g.heap, g.zz, fun o loc h1 => ?_⟩, hv.carry hcar b1 (.inl fun _ hy => hy)⟩
      · rw [Sdom]
        simp only [L']
        cases inv o with
        | none => rfl
        | some i => exact h.dom i
      · obtain ⟨i, h3, h4⟩ := inL o loc h1
        obtain ⟨i', x, h5, h6, h7, rfl⟩ := Sin o obj h2
        rw [h3] at h5; injection h5 with h5; subst h5
        exact (h.objs i loc x h4 h6).carry hcar h7 (.inl fun _ hy => hy)
      · obtain ⟨i, h4, h5⟩ := inL o loc h1
        obtain ⟨i', x, h6, h7, _, rfl⟩ := Sin o obj h2
        rw [h4] at h6; injection h6 with h6; subst h6
        obtain ⟨c1, c2, c3, c4⟩ := h.blk i loc x h5 h7 (lv h3)
        refine ⟨c1, c2, c3, c4.imp id fun c4 => ?_⟩
        rcases (invin o i h4).2 with ⟨a1, a2⟩ | ⟨a1, a2⟩
        · subst a2; exact c4
        · have := hXk i (List.mem_of_getElem? a2); omega
      · obtain ⟨i, h4, h5⟩ := inL o loc h1
        obtain ⟨i2, x, h6, h7, _, rfl⟩ := Sin o obj h2
        rw [h4] at h6; injection h6 with h6; subst h6
        obtain ⟨i', h4', h5'⟩ := inL o' loc' h1'
        obtain ⟨i2', x', h6', h7', _, rfl⟩ := Sin o' obj' h2'
        rw [h4'] at h6'; injection h6' with h6'; subst h6'
        exact h.sep i i' loc loc' x x' (fun he => hne (by subst he; exact inj o o' i h4 h4')) h5 h5' h7 h7' (lv h3) (lv h3')
      · obtain ⟨l, h2, h3⟩ := g.ll o loc h1
        refine ⟨l, ?_, h3⟩
        simp only [L', inv]
        rw [if_pos (hL0 o loc h1)]; exact h2

theorem mapO_bump {rd : Rd} : ∀ (F : List Nat), (∀ o ∈ F, isArr (rd o) = true) → ∃ ws, mapO (bump rd) F = some ws
  | [], _ => ⟨[], rfl⟩
  | o :: r, h => by
    obtain ⟨ws, hw⟩ := mapO_bump r fun o' ho => h o' (List.mem_cons_of_mem _ ho)
    have h0 := h o (by simp)
    unfold isArr at h0
    split at h0
    · rename_i v sz xs ho
      exact ⟨(o, .arr (v + 1) 0 []) :: ws, by
        have hb : bump rd o = some (o, .arr (v + 1) 0 []) := by unfold bump; rw [ho]
        unfold mapO; rw [hb, hw]⟩
    · cases h0

theorem fin_sound (g : Gr Y w0 Z0 L0 w Z L) (hz : ∀ b, Z b → Z0 b ∨ w0.heap.size ≤ b) (hL0 : ∀ o loc, L0 o = some loc → o < k0) {σ : List AObj} (h : Sim w0 M0 k0 Y Z w L (σ[·]?)) (hk : k0 ≤ σ.length)
    {keep : Bool} {res r' : PV} {σ' : List AObj} {v : Value} (hv : Rep w Z Y L v res) (hr : fin keep k0 res σ = some (r', σ')) :
    ∃ Z' L', Sim w0 M0 k0 Y Z' w L' (σ'[·]?) ∧ Gr Y w0 Z0 L0 w Z' L' ∧ (∀ b, Z' b → Z0 b ∨ w0.heap.size ≤ b) ∧ Rep w Z' Y L' v r' := by
  unfold fin at hr
  cases keep with
  | true =>
    simp only [cond_true] at hr
    obtain ⟨n1, n2⟩ := newIds_spec (k0 := k0) (idsOf res ++ (σ.take k0).flatMap objIds) [] (by simp) (by simp)
    obtain ⟨L', s1, g1, r1⟩ := finW_sound h g hL0 hk (F := []) (fun o _ => rfl) (by simp) n1 (fun o ho => by rcases (n2 o).1 ho with h | h; simp at h; exact h.2) hv hr
    exact ⟨Z, L', s1, g1, hz, r1⟩
  | false =>
    simp only [cond_false] at hr
    split at hr
    · cases hr
    · rename_i r1 hfd
      obtain ⟨f1, f2⟩ := newIds_spec (k0 := k0) (idsOf res) [] (by simp) (by simp)
      have hmemF : ∀ o, o ∈ freeIds k0 (σ[·]?) (idsOf res) ↔ (o ∈ idsOf res ∧ k0 ≤ o) ∧ isArr (σ[o]?) = true := fun o => by
        unfold freeIds
        rw [List.mem_filter, f2 o]
        simp
      obtain ⟨ws, hws⟩ := mapO_bump (rd := (σ[·]?)) (freeIds k0 (σ[·]?) (idsOf res)) (fun o ho => ((hmemF o).1 ho).2)
      obtain ⟨Z1, L1, s1, g1, z1, fz, fl, fw⟩ := free_sound (rd := (σ[·]?)) _ ws h (f1.filter _) (fun o ho => ((hmemF o).1 ho).1.2) (fun o _ obj hobj => hobj) hws
      have hrep := freeD_sound (k0 := k0) h (rd := (σ[·]?)) (fun _ _ hh => hh) g1 fz 4 res r1 v hv (fun o ho hko ha => (hmemF o).2 ⟨⟨ho, hko⟩, ha⟩) hfd
      obtain ⟨n1, n2⟩ := newIds_spec (k0 := k0) (idsOf r1 ++ (σ.take k0).flatMap objIds) [] (by simp) (by simp)
      obtain ⟨L', s2, g2, r2⟩ := finW_sound s1 (g.trans g1) hL0 hk (F := freeIds k0 (σ[·]?) (idsOf res)) (fun o ho => updW_ne _ _ _ fun p hp hpo => ho (hpo ▸ fw p hp)) (fun o ho => ((hmemF o).1 ho).1.2) n1
        (fun o ho => by rcases (n2 o).1 ho with h | h; simp at h; exact h.2) hrep hr
      exact ⟨Z1, L', s2, g2, fun b hb => (z1 b hb).elim (hz b) .inr, r2⟩

theorem ares_sound {a : Act} {env : Slots} {σ : List AObj} (h : Sim w0 M0 k0 Y Z w L (σ[·]?)) (hG : GOk E w Z) (hev : EnvR w Z Y L nt a (getE env)) {f : ResultVar → Sem Value} (hf1 : ∀ t, f (.tmp t) = pure (a.tmps.getD t undef))
    (hf2 : ∀ b t, f (.cell b t) = (do loadVar t (← asAddr (a.tmps.getD b undef)))) : ∀ (rs : List ResultVar) (xs : List PV), ares E env σ rs = some xs →
    ∃ vs, (rs.mapM f).run E.P w = .ok vs w ∧ Reps w Z Y L vs xs
  | [], xs, hr => by
    simp [ares] at hr; subst hr
    exact ⟨[], rfl, rfl, by simp⟩
  | .tmp t :: r, xs, hr => by
    simp only [ares] at hr
    obtain ⟨ys, h1, rfl⟩ := Option.map_eq_some_iff.1 hr
    obtain ⟨vs, h2, h3, h4⟩ := ares_sound h hG hev hf1 hf2 r ys h1
    refine ⟨a.tmps.getD t undef :: vs, ?_, by simp [h3], fun j c p e1 e2 => ?_⟩
    · rw [List.mapM_cons, hf1]; simp only [Sem.run_bind, Sem.run_pure, Result.andThen_ok, h2]
    · cases j with
      | zero => simp only [List.getElem?_cons_zero, Option.some.injEq] at e1 e2; subst e1; subst e2; exact hev.2 t
      | succ j => exact h4 j c p (by simpa using e1) (by simpa using e2)
  | .cell b t :: r, xs, hr => by
    simp only [ares] at hr
    split at hr
    · rename_i o off ho
      split at hr
      · rename_i x ys h1 h0
        simp only [Option.some.injEq] at hr
        subst hr
        obtain ⟨vs, h2, h3, h4⟩ := ares_sound h hG hev hf1 hf2 r ys h0
        have hb := hev.2 b
        rw [ho] at hb
        obtain ⟨u, l1, l2⟩ := load_sound (P := E.P) h (rd := (σ[·]?)) (fun _ _ hh => hh) hb h1
        have hl : (do loadVar t (← asAddr (a.tmps.getD b undef)) : Sem Value).run E.P w = .ok u w := by
          generalize hv : a.tmps.getD b undef = vb at *
          cases hb
          simpa [Instr.loadAt, Instr.sureAddr, asAddr] using l1
        refine ⟨u :: vs, ?_, by simp [h3], fun j c p e1 e2 => ?_⟩
        · rw [List.mapM_cons, hf2]; simp only [Sem.run_bind, Sem.run_pure] at hl ⊢; rw [hl]; simp only [Result.andThen_ok, h2]
        · cases j with
          | zero => simp only [List.getElem?_cons_zero, Option.some.injEq] at e1 e2; subst e1; subst e2; exact l2
          | succ j => exact h4 j c p (by simpa using e1) (by simpa using e2)
      · cases hr
    · cases hr
end
end Go.Bb

namespace Go.Bb

theorem getE_numE : ∀ (xs : List PV) (i t : Nat), getE (numE i xs) t = if i ≤ t then (xs[t - i]?).getD .dead else .dead
  | [], i, t => by simp [numE, getE]
  | x :: r, i, t => by
    simp only [numE, getE]
    by_cases h : i = t
    · subst h; rw [Nat.beq_refl]; simp
    · have hb : Nat.beq i t = false := Bool.eq_false_iff.2 fun hb => h (Nat.eq_of_beq_eq_true hb)
      rw [hb]
      simp only [cond_false]
      rw [getE_numE r (i + 1) t]
      by_cases h1 : i + 1 ≤ t
      · rw [if_pos h1, if_pos (by omega), show t - i = t - (i + 1) + 1 by omega]; rfl
      · rw [if_neg h1, if_neg (by omega)]

def rdRes (tmps : Array Value) : ResultVar → Sem Value
  | .tmp t => pure (tmps.getD t undef)
  | .cell a t => do loadVar t (← asAddr (tmps.getD a undef))
theorem results_run {P : Program} {fn : Func} {tmps : Array Value} {w : World} :
    (results fn tmps).run P w = ((fn.results.toList.mapM (rdRes tmps)).run P w).andThen fun us w => .ok (if h : us.toArray.size = 1 then us.toArray[0] else .tuple us.toArray) w := by
  have hf : rdRes tmps = (fun x : ResultVar => match x with | .tmp t => pure (tmps.getD t undef) | .cell a t => do loadVar t (← asAddr (tmps.getD a undef))) := by
    funext x
    cases x <;> rfl
  unfold results
  rw [Array.mapM_eq_mapM_toList, hf]
  simp only [Sem.run_bind, map_eq_pure_bind]
  generalize Sem.run P _ w = r
  cases r <;> rfl

/-- What a given function of a library answers. -/
def PrimOk (E : Envt) : Prop := ∀ (f : FuncId) (g : List PV → Option (PV × List AObj)), E.prim f = some g → ∀ (args : List PV) (res : PV) (σ' : List AObj), g args = some (res, σ') →
  Enters E.P f ∧ ∀ (w : World) (M0 : Nat → Nat → Prop) (Y Z : Nat → Prop) (L : Nat → Option Loc) (vs : Array Value), Sim w M0 0 Y Z w L (([] : List AObj)[·]?) → GOk E w Z →
    vs.size = args.length → (∀ (i : Nat) (c : Value) (x : PV), vs[i]? = some c → args[i]? = some x → Rep w Z Y L c x) → Calls E.P f vs w (CallPost w M0 0 Y Z L res σ')

section
variable {E : Envt}

theorem pcall_ok (hmix : E.P.follows .mixedOrders = true) (hp : PrimOk E) : ∀ n, CallOk E (pcall E n) ∧ CallEnters E (pcall E n)
  | 0 => ⟨fun f args σ res σ' h => by simp [pcall] at h, fun f args σ r h => by simp [pcall] at h⟩
  | n + 1 => by
    obtain ⟨ih1, ih2⟩ := pcall_ok hmix hp n
    constructor
    · intro f args σ res σ' h w M0 Y Z L vs sim hG hsz hargs
      unfold pcall at h
      split at h
      · rename_i g hg
        split at h
        · rename_i r hr
          injection h with h; subst h
          exact (hp f g hg args res σ' hr).2 w M0 Y Z L vs sim hG hsz hargs
        · cases h
      · split at h
        · cases h
        · rename_i fn hfn
          split at h
          · cases h
          · rename_i c hc
            cases hb : (fn.name == "runtime.NumGoroutine" || !(Nat.ble args.length fn.ntmps)) with
            | true => rw [hb] at h; simp at h
            | false =>
              rw [hb] at h
              simp only [cond_false] at h
              rw [Bool.or_eq_false_iff] at hb
              have hle : args.length ≤ fn.ntmps := Nat.le_of_ble_eq_true (by simpa using hb.2)
              have hL0 : ∀ o loc, L o = some loc → o < σ.length := fun o loc hl => by
                obtain ⟨obj, ho⟩ := sim.some_of_L hl
                exact (List.getElem?_eq_some_iff.1 ho).1
              have hst : St E w M0 σ.length Y Z L fn.ntmps (getE (numE 0 args)) (σ[·]?) { tmps := vs ++ Array.replicate (fn.ntmps - vs.size) undef, defers := [] } w := by
                refine ⟨Z, L, sim, Gr.refl .., fun _ hb => .inl hb, hG, ⟨by simp; omega, fun t => ?_⟩, rfl⟩
                rw [getE_numE]
                simp only [Nat.zero_le, if_true, Nat.sub_zero]
                cases hx : args[t]? with
                | none => exact .dead _
                | some x =>
                  have hlt : t < vs.size := by rw [hsz]; exact (List.getElem?_eq_some_iff.1 hx).1
                  rw [Array.getD_eq_getD_getElem?, Array.getElem?_append_left hlt, Array.getElem?_eq_getElem hlt]
                  exact hargs t _ x (Array.getElem?_eq_getElem hlt) hx
              have ending : ∀ (env' : Slots) (σ1 : List AObj), (match ares E env' σ1 fn.results.toList with | some xs => fin (E.keep f) σ.length (oneOrTup xs) σ1 | none => none) = some (res, σ') →
                  ∀ (a' : Act) (w' : World), St E w M0 σ.length Y Z L fn.ntmps (getE env') (σ1[·]?) a' w' → a'.defers = [] ∧ ∃ v, (results fn a'.tmps).run E.P w' = .ok v w' ∧ CallPost w M0 σ.length Y Z L res σ' (.returned v) w' := by
                intro env' σ1 h1 a' w' hs
                obtain ⟨Z1, L1, s1, g1, z1, G1, ev1, d1⟩ := hs
                refine ⟨d1, ?_⟩
                split at h1
                · rename_i xs hxs
                  obtain ⟨us, r1, r2⟩ := ares_sound s1 G1 ev1 (f := rdRes a'.tmps) (fun _ => rfl) (fun _ _ => rfl) _ _ hxs
                  have hk : σ.length ≤ σ1.length := by
                    rcases Nat.eq_zero_or_pos σ.length with h0 | h0
                    · omega
                    · have hd := sim.dom (σ.length - 1)
                      rw [List.getElem?_eq_getElem (by omega)] at hd
                      obtain ⟨loc, hl⟩ := Option.isSome_iff_exists.1 (hd.trans rfl)
                      obtain ⟨l, hl1, _⟩ := g1.ll _ _ hl
                      obtain ⟨obj, ho⟩ := s1.some_of_L hl1
                      have := (List.getElem?_eq_some_iff.1 ho).1
                      omega
                  have hv : ∃ v, (results fn a'.tmps).run E.P w' = .ok v w' ∧ Rep w' Z1 Y L1 v (oneOrTup xs) := by
                    rw [results_run, r1]
                    simp only [Result.andThen_ok]
                    refine ⟨_, rfl, ?_⟩
                    obtain ⟨q1, q2⟩ := r2
                    match us, xs, q1, q2 with
                    | [u], [x], _, q2 => exact q2 0 u x rfl rfl
                    | [], [], _, _ => exact .tup #[] [] rfl (by simp)
                    | u1 :: u2 :: us, x1 :: x2 :: xs, q1, q2 =>
                      simp only [List.size_toArray, List.length_cons]
                      rw [dif_neg (by omega)]
                      exact .tup _ _ (by simpa using q1) fun i c x e1 e2 => q2 i c x (by simpa using e1) e2
                  obtain ⟨v, hv1, hv2⟩ := hv
                  obtain ⟨Z2, L2, s2, g2, z2, r3⟩ := fin_sound g1 z1 hL0 s1 hk hv2 h1
                  exact ⟨v, hv1, v, Z2, L2, rfl, s2, g2, z2, r3⟩
                · cases h1
              refine calls_of_wp hfn hc ?_
              split at h
              · cases h
              · rename_i r env' σ1 hne hcode
                refine wp_mono (acode_sound ih1 ih2 hmix hL0 c _ _ _ _ _ hcode _ _ hst) fun e a' w' hq => ?_
                obtain ⟨rfl, hs⟩ := hq
                have he := ending env' σ1 h a' w' hs
                cases r with
                | exit id => exact absurd rfl (hne id)
                | normal => exact he
                | ret => exact he
              · cases h
    · intro f args σ r h
      unfold pcall at h
      split at h
      · rename_i g hg
        split at h
        · rename_i r' hr
          exact (hp f g hg args r'.1 r'.2 hr).1
        · cases h
      · split at h
        · cases h
        · rename_i fn hfn
          split at h
          · cases h
          · rename_i c hc
            cases hb : (fn.name == "runtime.NumGoroutine" || !(Nat.ble args.length fn.ntmps)) with
            | true => rw [hb] at h; simp at h
            | false =>
              rw [Bool.or_eq_false_iff] at hb
              exact ⟨fn, c, hfn, hb.1, hc⟩
end
end Go.Bb

namespace Go.Bb
section
variable {H : Type} {enc : TypeId × Value → H} {P : Program} {w : World} {Y : Nat → Prop} {L : Nat → Option Loc} {base : Nat} {spare : Nat → Bool} {held : Bool}

def wrapT (P : Program) (t : TypeId) (ys : List PV) : PV := cond (aggT P t) (.agg ys) (ys.headD .dead)

mutual
def dP (P : Program) (t : TypeId) : DataW H → List PV
  | .lit (.int k n) => [.int k n]
  | .lit (.bool b) => [.bool b]
  | .lit (.string bs) => [.str ⟨bs.toArray⟩]
  | .nil => [.list false []]
  | .slice es _ => match P.underlying t with
    | some (.slice e) => [.list false (dPs P e es)]
    | _ => [.dead]
  | .agg ps => match P.underlying t with
    | some (.struct fs) => dPf P (fs.toList.map (·.type)) ps
    | some (.array n e) => dPf P (List.replicate n e) ps
    | _ => [.dead]
  | _ => [.dead]
def dPs (P : Program) (e : TypeId) : List (DataW H) → List PV
  | [] => []
  | d :: r => wrapT P e (dP P e d) :: dPs P e r
def dPf (P : Program) : List TypeId → List (DataW H) → List PV
  | t :: ts, d :: r => dP P t d ++ dPf P ts r
  | _, _ => []
end

/-- The cells of a value of a plain type. -/
inductive Ty (P : Program) : TypeId → List PV → Prop
  | bool {t : TypeId} (hu : P.underlying t = some .bool) (b : Bool) : Ty P t [.bool b]
  | int {t : TypeId} {k : IntKind} (hu : P.underlying t = some (.int k)) (n : Int) (hw : (Lit.int k n).wf = true) : Ty P t [.int k n]
  | str {t : TypeId} (hu : P.underlying t = some .string) (s : ByteArray) (hs : s.size ≤ maxLen) : Ty P t [.str s]
  | list {t e : TypeId} (hu : P.underlying t = some (.slice e)) (xs : List PV) (hl : xs.length ≤ maxLen) (h : ∀ x ∈ xs, Ty P e (cellsOf x)) (hw : ∀ x ∈ xs, x = wrapT P e (cellsOf x)) : Ty P t [.list false xs]
  | struct {t : TypeId} {fs : Array Field} (hu : P.underlying t = some (.struct fs)) (yss : List (List PV)) (ys : List PV) (he : ys = yss.flatten) (hl : yss.length = fs.size)
      (h : ∀ (i : Nat) (f : Field) (zs : List PV), fs[i]? = some f → yss[i]? = some zs → Ty P f.type zs) : Ty P t ys
  | array {t e : TypeId} {n : Nat} (hu : P.underlying t = some (.array n e)) (yss : List (List PV)) (ys : List PV) (he : ys = yss.flatten) (hl : yss.length = n) (h : ∀ zs ∈ yss, Ty P e zs) : Ty P t ys

/-- A set of types closed under parts, all of them plain. -/
def plainSet (P : Program) (ts : List TypeId) : Bool := ts.all fun t => decide (t < P.types.size) && match P.underlying t with
  | some .bool | some (.int _) | some .string => true
  | some (.slice e) => memN ts e && Nat.blt 0 (P.cellsOf e)
  | some (.struct fs) => fs.toList.all fun f => memN ts f.type
  | some (.array _ e) => memN ts e
  | _ => false

theorem Reps.append {a b : List Value} {x y : List PV} {Z : Nat → Prop} (h1 : Reps w Z Y L a x) (h2 : Reps w Z Y L b y) : Reps w Z Y L (a ++ b) (x ++ y) := by
  refine ⟨by simp [h1.1, h2.1], fun j c p e1 e2 => ?_⟩
  rw [List.getElem?_append] at e1 e2
  rw [h1.1] at e1
  split at e1
  · rename_i hlt; rw [if_pos hlt] at e2; exact h1.2 j c p e1 e2
  · rename_i hlt; rw [if_neg hlt] at e2; exact h2.2 _ c p e1 e2

/-- What is known of a part's cells. -/
def Good (P : Program) (w : World) (Y : Nat → Prop) (L : Nat → Option Loc) (t : TypeId) (cs : List Value) (ys : List PV) : Prop :=
  Ty P t ys ∧ Reps w (fun b => b < w.heap.size) Y L cs ys ∧ okCells ys = true ∧ frzs false ys = true ∧ ys.length = P.cellsOf t

theorem okCells_append : ∀ {a b : List PV}, okCells a = true → okCells b = true → okCells (a ++ b) = true := fun h1 h2 => by
  rw [okCells_all] at *
  intro x hx
  exact (List.mem_append.1 hx).elim (h1 x) (h2 x)
theorem frzs_append {t : Bool} : ∀ {a b : List PV}, frzs t a = true → frzs t b = true → frzs t (a ++ b) = true := fun h1 h2 => by
  rw [frzs_all] at *
  intro x hx
  exact (List.mem_append.1 hx).elim (h1 x) (h2 x)

theorem good_parts (cs : List Value) : ∀ (ts : List TypeId) (ds : List (DataW H)) (o : Nat), ts.length = ds.length →
    (∀ (j : Nat) (t : TypeId) (d : DataW H), ts[j]? = some t → ds[j]? = some d → Good P w Y L t ((cs.drop (o + ((ts.take j).map P.cellsOf).sum)).take (P.cellsOf t)) (dP P t d)) →
    Reps w (fun b => b < w.heap.size) Y L ((cs.drop o).take (ts.map P.cellsOf).sum) (dPf P ts ds) ∧ okCells (dPf P ts ds) = true ∧ frzs false (dPf P ts ds) = true ∧ (dPf P ts ds).length = (ts.map P.cellsOf).sum ∧
      ∃ yss : List (List PV), dPf P ts ds = yss.flatten ∧ yss.length = ts.length ∧ ∀ (i : Nat) (t : TypeId) (zs : List PV), ts[i]? = some t → yss[i]? = some zs → Ty P t zs
  | [], [], o, _, _ => ⟨⟨by simp [dPf], by simp [dPf]⟩, rfl, rfl, rfl, [], rfl, rfl, by simp⟩
  | t :: ts, d :: ds, o, hl, h => by
    have h0 := h 0 t d rfl rfl
    simp only [List.take_zero, List.map_nil, List.sum_nil, Nat.add_zero] at h0
    obtain ⟨a1, a2, a3, a4, a5⟩ := h0
    obtain ⟨b1, b2, b3, b4, yss, b5, b6, b7⟩ := good_parts cs ts ds (o + P.cellsOf t) (by simpa using hl) fun j t' d' e1 e2 => by
      have := h (j + 1) t' d' (by simpa using e1) (by simpa using e2)
      simpa [List.take_succ_cons, Nat.add_assoc] using this
    simp only [dPf]
    refine ⟨?_, okCells_append a3 b2, frzs_append a4 b3, by simp [a5, b4], dP P t d :: yss, by simp [b5], by simp [b6], fun i t' zs e1 e2 => ?_⟩
    · rw [List.map_cons, List.sum_cons, List.take_add, List.drop_drop]
      exact a2.append b1
    · cases i with
      | zero => simp at e1 e2; subst e1; subst e2; exact a1
      | succ i => exact b7 i t' zs (by simpa using e1) (by simpa using e2)
  | [], _ :: _, _, hl, _ => by simp at hl
  | _ :: _, [], _, hl, _ => by simp at hl

theorem cellsOf_wrap {t : TypeId} {ys : List PV} (ho : okCells ys = true) (h1 : aggT P t = false → ∃ y, ys = [y]) : cellsOf (wrapT P t ys) = ys := by
  unfold wrapT
  cases h : aggT P t with
  | true => rfl
  | false =>
    obtain ⟨y, rfl⟩ := h1 h
    simp only [cond_false, List.headD_cons]
    simp only [okCells, Bool.and_true] at ho
    cases y <;> first | rfl | simp [okCell] at ho
theorem frz_wrap {t : TypeId} {ys : List PV} (hf : frzs false ys = true) (h1 : aggT P t = false → ∃ y, ys = [y]) : (wrapT P t ys).frz false = true := by
  unfold wrapT
  cases h : aggT P t with
  | true => exact hf
  | false =>
    obtain ⟨y, rfl⟩ := h1 h
    simpa [frzs] using hf

theorem Ty.single {t : TypeId} {ys : List PV} (h : Ty P t ys) (ha : aggT P t = false) : ∃ y, ys = [y] := by
  cases h with
  | bool hu b => exact ⟨_, rfl⟩
  | int hu n hw => exact ⟨_, rfl⟩
  | str hu s hs => exact ⟨_, rfl⟩
  | list hu xs hl h hw => exact ⟨_, rfl⟩
  | struct hu yss he hl h => simp [aggT, hu] at ha
  | array hu yss he hl h => simp [aggT, hu] at ha

theorem dPs_get : ∀ (ds : List (DataW H)) (e : TypeId), (dPs P e ds).length = ds.length ∧ ∀ (i : Nat), (dPs P e ds)[i]? = (ds[i]?).map fun d => wrapT P e (dP P e d)
  | [], e => ⟨rfl, fun i => by simp [dPs]⟩
  | d :: r, e => by
    obtain ⟨h1, h2⟩ := dPs_get r e
    refine ⟨by simp [dPs, h1], fun i => ?_⟩
    cases i with
    | zero => simp [dPs]
    | succ i => simpa [dPs] using h2 i

theorem cells?_get {b : Nat} {a : Addr} {n : Nat} {cs : List Value} (h : w.cells? b a n = some cs) : cs.length = n ∧ ∀ (i : Nat) (c : Value), cs[i]? = some c → w.cell? (a.add i) = some c := by
  unfold World.cells? at h
  split at h
  · refine ⟨by simpa using mapM_some_length h, fun i c hc => ?_⟩
    have hlt : i < n := by have := (List.getElem?_eq_some_iff.1 hc).1; have := mapM_some_length h; simp at this; omega
    have := mapM_some_get h i i (by simp [hlt])
    rw [this]; exact hc
  · cases h

theorem good_of_trod (hl : laidOutB P = true) {ts : List TypeId} (hT : plainSet P ts = true) : ∀ (fuel : Nat) (t : TypeId) (cs : List Value) (d : DataW H) (p : List MemPlace), memN ts t = true →
    DataW.trod enc P w base spare held fuel t cs = some (d, p) → Good P w Y L t cs (dP P t d)
  | 0, t, cs, d, p, _, h => by simp [DataW.trod] at h
  | fuel + 1, t, cs, d, p, ht, h => by
    have hTt := List.all_eq_true.1 hT t ((memN_iff _ _).1 ht)
    rw [Bool.and_eq_true] at hTt
    obtain ⟨hrow, hk⟩ := hTt
    have hrow : t < P.types.size := by simpa using hrow
    have ih := good_of_trod hl hT fuel
    have one : ∀ {c : Value} {y : PV}, Rep w (fun b => b < w.heap.size) Y L c y → Reps w (fun b => b < w.heap.size) Y L [c] [y] := fun hr => ⟨rfl, fun j c p e1 e2 => by
      cases j with
      | zero => simp at e1 e2; subst e1; subst e2; exact hr
      | succ j => simp at e1⟩
    have sz1 : ∀ {dsc : TypeDesc}, P.underlying t = some dsc → (dsc = .bool ∨ (∃ k, dsc = .int k) ∨ dsc = .string ∨ ∃ e, dsc = .slice e) → P.cellsOf t = 1 := by
      intro dsc hu hd
      have := Go.rowFine_of hl hrow
      rcases hd with rfl | ⟨k, rfl⟩ | rfl | ⟨e, rfl⟩ <;> simp [rowFine, isVar, hrow, hu, kindOk] at this <;> first | exact this | exact this.2
    cases hu : P.underlying t with
    | none => rw [hu] at hk; simp at hk
    | some dsc =>
      rw [hu] at hk
      cases dsc <;> simp only [Bool.false_eq_true] at hk
      case bool =>
        obtain ⟨b, rfl, hx⟩ := DataW.trod_bool hu h
        injection hx with hx _; subst hx
        exact ⟨.bool hu b, one (.bool b), rfl, rfl, (sz1 hu (.inl rfl)).symm⟩
      case int k =>
        obtain ⟨n, rfl, hx, hw⟩ := DataW.trod_int hu h
        injection hx with hx _; subst hx
        exact ⟨.int hu n hw, one (.int k n), rfl, rfl, (sz1 hu (.inr (.inl ⟨_, rfl⟩))).symm⟩
      case string =>
        obtain ⟨s, rfl, hx, hs⟩ := DataW.trod_string hu h
        injection hx with hx _; subst hx
        exact ⟨.str hu s hs, one (.str s), rfl, rfl, (sz1 hu (.inr (.inr (.inl rfl)))).symm⟩
      case slice e =>
        rw [Bool.and_eq_true] at hk
        have hpos : 0 < P.cellsOf e := Nat.le_of_ble_eq_true hk.2
        rcases DataW.trod_slice hu h with ⟨rfl, hx⟩ | ⟨a, len, cap, elems, rest, n, hn, rfl, hx, _, hle, hmax, hlen, hel, _⟩
        · injection hx with hx _; subst hx
          exact ⟨.list hu [] (Nat.zero_le _) (by simp) (by simp), one (.list false [] none 0 0 0 0 (fun _ _ => undef) (Nat.le_refl _) (by simp) (by simp) (by simp) (by simp)), rfl, rfl, (sz1 hu (.inr (.inr (.inr ⟨_, rfl⟩)))).symm⟩
        · injection hx with hx _; subst hx
          have hn : n = fuel := by omega
          subst hn
          have hdP : dP P t (DataW.slice (elems.map (·.1)) (rest.map (·.1))) = [.list false (dPs P e (elems.map (·.1)))] := by simp only [dP, hu]
          rw [hdP]
          obtain ⟨q1, q2⟩ := dPs_get (P := P) (elems.map (·.1)) e
          have each : ∀ (i : Nat) (x : PV), (dPs P e (elems.map (·.1)))[i]? = some x → ∃ cs' ys, w.cells? base (a.add (i * P.cellsOf e)) (P.cellsOf e) = some cs' ∧ Good P w Y L e cs' ys ∧ x = wrapT P e ys ∧ cellsOf x = ys := by
            intro i x hx
            rw [q2 i] at hx
            obtain ⟨d', hd', rfl⟩ := Option.map_eq_some_iff.1 hx
            rw [List.getElem?_map] at hd'
            obtain ⟨y, hy, rfl⟩ := Option.map_eq_some_iff.1 hd'
            have hlt : i < len := by rw [← hlen]; exact (List.getElem?_eq_some_iff.1 hy).1
            have := hel i hlt
            rw [hy] at this
            obtain ⟨cs', e1, e2⟩ := Option.bind_eq_some_iff.1 this
            have gd := ih e cs' y.1 y.2 hk.1 e2
            exact ⟨cs', _, e1, gd, rfl, cellsOf_wrap gd.2.2.1 (gd.1.single)⟩
          have hlx : (dPs P e (elems.map (·.1))).length = len := by rw [q1]; simpa using hlen
          refine ⟨.list hu _ (by omega) (fun x hx => ?_) (fun x hx => ?_), ?_, rfl, rfl, (sz1 hu (.inr (.inr (.inr ⟨_, rfl⟩)))).symm⟩
          · obtain ⟨i, hi⟩ := List.getElem?_of_mem hx
            obtain ⟨cs', ys, _, gd, hxw, hc⟩ := each i x hi
            rw [hc]; exact gd.1
          · obtain ⟨i, hi⟩ := List.getElem?_of_mem hx
            obtain ⟨cs', ys, _, gd, hxw, hc⟩ := each i x hi
            rw [hc]; exact hxw
          · have main : Rep w (fun b => b < w.heap.size) Y L (.slice (some a) (dPs P e (elems.map (·.1))).length cap) (.list false (dPs P e (elems.map (·.1)))) := by
              refine Rep.list_of (sz := P.cellsOf e) (by omega) (fun x hx => ?_) ⟨fun x hx => ?_, fun hne => ?_⟩ (fun hne b off hab => .inl ?_)
              · obtain ⟨i, hi⟩ := List.getElem?_of_mem hx
                obtain ⟨cs', ys, _, gd, hxw, hc⟩ := each i x hi
                refine ⟨?_, by rw [hc]; exact gd.2.2.2.2, by rw [hc]; exact gd.2.2.1⟩
                rw [hxw]; exact frz_wrap gd.2.2.2.1 gd.1.single
              · obtain ⟨i, hi⟩ := List.getElem?_of_mem hx
                obtain ⟨cs', ys, _, gd, hxw, hc⟩ := each i x hi
                rw [hc]; exact gd.2.2.2.2
              · have h0 : 0 < (dPs P e (elems.map (·.1))).length := List.length_pos_iff.2 hne
                have first := each 0 _ (List.getElem?_eq_getElem h0)
                have spot : a.spot = none := by
                  obtain ⟨cs', ys, e1, gd, _, _⟩ := first
                  obtain ⟨l1, l2⟩ := cells?_get e1
                  have hc0 : 0 < cs'.length := by omega
                  have := l2 0 _ (List.getElem?_eq_getElem hc0)
                  simp only [Nat.zero_mul, Addr.add, if_true] at this
                  unfold World.cell? at this
                  split at this
                  · cases hs : a.spot with
                    | none => rfl
                    | some _ => rw [hs] at this; simp at this
                  · cases this
                obtain ⟨b, off, sp⟩ := a
                simp only at spot; subst spot
                refine ⟨b, off, rfl, fun i x j p e1 e2 => ?_⟩
                obtain ⟨cs', ys, c1, gd, _, hc⟩ := each i x e1
                rw [hc] at e2
                obtain ⟨l1, l2⟩ := cells?_get c1
                have hj : j < cs'.length := by rw [gd.2.1.1]; exact (List.getElem?_eq_some_iff.1 e2).1
                have := l2 j _ (List.getElem?_eq_getElem hj)
                rw [add_none, add_none, cell?_cellAt] at this
                exact ⟨_, this, gd.2.1.2 j _ p (List.getElem?_eq_getElem hj) e2⟩
              · have h0 : 0 < (dPs P e (elems.map (·.1))).length := List.length_pos_iff.2 hne
                obtain ⟨cs', ys, e1, gd, _, _⟩ := each 0 _ (List.getElem?_eq_getElem h0)
                obtain ⟨l1, l2⟩ := cells?_get e1
                have := l2 0 _ (List.getElem?_eq_getElem (by omega))
                simp only [Option.some.injEq] at hab
                subst hab
                rw [add_none, add_none, cell?_cellAt] at this
                unfold cellAt at this
                split at this
                · rename_i hh; exact (Array.getElem?_eq_some_iff.1 hh).1
                · cases this
            rw [hlx] at main
            exact one main
      case struct fs =>
        obtain ⟨xs, n, hn, hx, hcl, hxl, hf⟩ := DataW.trod_struct hu h
        injection hx with hx _; subst hx
        have hn : n = fuel := by omega
        subst hn
        obtain ⟨k1, k2, k3⟩ := Go.kid_struct hl hrow hu
        have hdP : dP P t (DataW.agg (xs.map (·.1))) = dPf P (fs.toList.map (·.type)) (xs.map (·.1)) := by simp only [dP, hu]
        rw [hdP]
        have := good_parts (P := P) (w := w) (Y := Y) (L := L) cs (fs.toList.map (·.type)) (xs.map (·.1)) 0 (by simp [hxl]) fun j t' d' e1 e2 => by
          rw [List.getElem?_map] at e1 e2
          obtain ⟨f, f1, rfl⟩ := Option.map_eq_some_iff.1 e1
          obtain ⟨y, y1, rfl⟩ := Option.map_eq_some_iff.1 e2
          have hof := k3 j f f1
          have hseg := hf j f (by simpa using f1)
          rw [y1] at hseg
          rw [Nat.zero_add, ← List.map_take, List.map_map]
          have e3 : ((fs.toList.take j).map (P.cellsOf ∘ fun x => x.type)).sum = f.offset := hof.symm
          rw [e3]
          exact ih f.type _ y.1 y.2 (List.all_eq_true.1 hk f (List.mem_of_getElem? f1)) hseg
        obtain ⟨b1, b2, b3, b4, yss, b5, b6, b7⟩ := this
        have hsum : ((fs.toList.map (·.type)).map P.cellsOf).sum = P.cellsOf t := by rw [List.map_map]; exact k2.symm
        refine ⟨.struct hu yss _ b5 (by simpa using b6) fun i f zs e1 e2 => b7 i f.type zs (by rw [List.getElem?_map]; simp [e1]) e2, ?_, b2, b3, by rw [b4, hsum]⟩
        rw [hsum, List.drop_zero, ← hcl, List.take_length] at b1
        exact b1
      case array n e =>
        obtain ⟨xs, m, hn, hx, hcl, hxl, hf⟩ := DataW.trod_array hu h
        injection hx with hx _; subst hx
        have hn : m = fuel := by omega
        subst hn
        obtain ⟨k1, k2⟩ := Go.kid_array hl hrow hu
        have hdP : dP P t (DataW.agg (xs.map (·.1))) = dPf P (List.replicate n e) (xs.map (·.1)) := by simp only [dP, hu]
        rw [hdP]
        have hrep : ∀ (j : Nat) (t' : TypeId), (List.replicate n e)[j]? = some t' → j < n ∧ t' = e := fun j t' h1 => by
          rw [List.getElem?_replicate] at h1
          split at h1
          · rename_i hh; injection h1 with h1; exact ⟨hh, h1.symm⟩
          · cases h1
        have hsums : ∀ j, j ≤ n → (((List.replicate n e).take j).map P.cellsOf).sum = j * P.cellsOf e := fun j hj => by
          rw [List.take_replicate, List.map_replicate, List.sum_replicate_nat, Nat.min_eq_left hj]
        have := good_parts (P := P) (w := w) (Y := Y) (L := L) cs (List.replicate n e) (xs.map (·.1)) 0 (by simp [hxl]) fun j t' d' e1 e2 => by
          obtain ⟨hj, rfl⟩ := hrep j t' e1
          rw [List.getElem?_map] at e2
          obtain ⟨y, y1, rfl⟩ := Option.map_eq_some_iff.1 e2
          have hseg := hf j hj
          rw [y1] at hseg
          rw [Nat.zero_add, hsums j (by omega)]
          exact ih t' _ y.1 y.2 hk hseg
        obtain ⟨b1, b2, b3, b4, yss, b5, b6, b7⟩ := this
        have hsum : ((List.replicate n e).map P.cellsOf).sum = P.cellsOf t := by
          have := hsums n (Nat.le_refl _)
          rw [List.take_of_length_le (by simp)] at this
          rw [this, k2]
        refine ⟨.array hu yss _ b5 (by simpa using b6) fun zs hz => ?_, ?_, b2, b3, by rw [b4, hsum]⟩
        · obtain ⟨i, hi⟩ := List.getElem?_of_mem hz
          have hlt : i < n := by have := (List.getElem?_eq_some_iff.1 hi).1; simp at b6; omega
          exact b7 i e zs (by simp [hlt]) hi
        · rw [hsum, List.drop_zero, ← hcl, List.take_length] at b1
          exact b1
end
end Go.Bb

namespace Go.Bb
open Go.RowKit Go.ChangeShapes
section
variable {H : Type} {enc : TypeId × Value → H} {P : Program} {w : World} {Y : Nat → Prop} {L : Nat → Option Loc}

theorem val_rep {t : TypeId} {v : Value} {ys : List PV} {r : Reach} {base : Nat} (hg : Good P w Y L t v.cells.toList ys) (ho : Value.okWide P w r base t v) : Rep w (fun b => b < w.heap.size) Y L v (wrapT P t ys) := by
  obtain ⟨hty, hrep, hok, hfz, hlen⟩ := hg
  cases ha : aggT P t with
  | true =>
    have : ∃ cs, v = .agg cs := by
      unfold aggT at ha
      unfold Value.okWide at ho
      cases hu : P.underlying t with
      | none => rw [hu] at ha; simp at ha
      | some d =>
        rw [hu] at ha ho
        cases d <;> simp at ha
        · exact ⟨_, ho.choose_spec.1⟩
        · exact ⟨_, ho.choose_spec.1⟩
    obtain ⟨cs, rfl⟩ := this
    simp only [wrapT, ha, cond_true]
    exact .agg cs ys (by simpa [Value.cells] using hrep.1) fun i c x h1 h2 => hrep.2 i c x (by simpa [Value.cells] using h1) h2
  | false =>
    obtain ⟨y, rfl⟩ := hty.single ha
    have nagg : ∀ cs, v ≠ .agg cs := by
      rintro cs rfl
      cases hty with
      | bool hu b => simp [Value.okWide, Cell.okWide, Cell.ok, hu] at ho
      | int hu n hw => simp [Value.okWide, Cell.okWide, Cell.ok, hu] at ho
      | str hu s hs => simp [Value.okWide, Cell.okWide, Cell.ok, hu] at ho
      | list hu xs hl h hw => simp [Value.okWide, Cell.okWide, Cell.ok, hu] at ho
      | struct hu yss he hl h => simp [aggT, hu] at ha
      | array hu yss he hl h => simp [aggT, hu] at ha
    have hc : v.cells = #[v] := by cases v <;> first | rfl | exact absurd rfl (nagg _)
    rw [hc] at hrep
    simp only [wrapT, ha, cond_false, List.headD_cons]
    exact hrep.2 0 v y rfl rfl

/-- Arguments of their types. -/
def ArgsTy (P : Program) (ps : List TypeId) (xs : List PV) : Prop := xs.length = ps.length ∧ ∀ (i : Nat) (t : TypeId) (x : PV), ps[i]? = some t → xs[i]? = some x → Ty P t (cellsOf x) ∧ x = wrapT P t (cellsOf x)

theorem args_rep (hl : laidOutB P = true) {ts : List TypeId} (hT : plainSet P ts = true) : ∀ (ps : List TypeId) (vs : List Value) (ds : List (DataW H)) (p : List MemPlace), (∀ t ∈ ps, memN ts t = true) → DataW.TrodAll enc P w 0 (fun _ => true) true ps vs ds p →
    (∀ (j : Nat) t v, ps[j]? = some t → vs[j]? = some v → ∃ (r : Reach) (base : Nat), Value.okWide P w r base t v) →
    ds.length = ps.length ∧ ∃ xs : List PV, ArgsTy P ps xs ∧ vs.length = xs.length ∧ ∀ (i : Nat) (c : Value) (x : PV), vs[i]? = some c → xs[i]? = some x → Rep w (fun b => b < w.heap.size) Y L c x
  | [], [], [], p, _, _, _ => ⟨rfl, [], ⟨rfl, by simp⟩, rfl, by simp⟩
  | t :: ps, v :: vs, d :: ds, p, hm, h, hv => by
    obtain ⟨p1, q, ⟨fuel, h1⟩, h2, _⟩ := h
    obtain ⟨e1, xs, ⟨a1, a2⟩, a3, a4⟩ := args_rep hl hT ps vs ds q (fun t ht => hm t (List.mem_cons_of_mem _ ht)) h2 fun j t v e1 e2 => hv (j + 1) t v (by simpa using e1) (by simpa using e2)
    have gd : Good P w Y L t v.cells.toList (dP P t d) := good_of_trod hl hT fuel t _ d p1 (hm t (by simp)) h1
    obtain ⟨r, base, ho⟩ := hv 0 t v rfl rfl
    have hc := cellsOf_wrap (t := t) gd.2.2.1 gd.1.single
    refine ⟨by simp [e1], wrapT P t (dP P t d) :: xs, ⟨by simp [a1], fun i t' x e1 e2 => ?_⟩, by simp [a3], fun i c x e1 e2 => ?_⟩
    · cases i with
      | zero => simp at e1 e2; subst e1; subst e2; rw [hc]; exact ⟨gd.1, rfl⟩
      | succ i => exact a2 i t' x (by simpa using e1) (by simpa using e2)
    · cases i with
      | zero => simp at e1 e2; subst e1; subst e2; exact val_rep gd ho
      | succ i => exact a4 i c x (by simpa using e1) (by simpa using e2)
  | [], [], _ :: _, _, _, h, _ => h.elim
  | [], _ :: _, [], _, _, h, _ => h.elim
  | [], _ :: _, _ :: _, _, _, h, _ => h.elim
  | _ :: _, [], [], _, _, h, _ => h.elim
  | _ :: _, [], _ :: _, _, _, h, _ => h.elim
  | _ :: _, _ :: _, [], _, _, h, _ => h.elim

theorem args_stay (hl : laidOutB P = true) {w' : World} (hb : Below w.heap.size w w') : ∀ (ps : List TypeId) (vs : List Value) (ds : List (DataW H)) (p : List MemPlace), (∀ t ∈ ps, P.readableRec t = true ∧ t < P.types.size) →
    DataW.TrodAll enc P w 0 (fun _ => true) true ps vs ds p → (∀ x ∈ p, x.block < w.heap.size) → DataW.TrodAll enc P w' 0 (fun b => decide (b < w.heap.size)) true ps vs ds p
  | [], [], [], p, _, h, _ => h
  | t :: ps, v :: vs, d :: ds, p, hm, h, hlt => by
    obtain ⟨p1, q, h1, h2, rfl⟩ := h
    obtain ⟨m1, m2⟩ := hm t (by simp)
    exact ⟨p1, q, Below.trod hl m1 m2 h1 hb (fun x hx => hlt x (List.mem_append_left _ hx)), args_stay hl hb ps vs ds q (fun t ht => hm t (List.mem_cons_of_mem _ ht)) h2 (fun x hx => hlt x (List.mem_append_right _ hx)), rfl⟩
  | [], [], _ :: _, _, _, h, _ => h.elim
  | [], _ :: _, [], _, _, h, _ => h.elim
  | [], _ :: _, _ :: _, _, _, h, _ => h.elim
  | _ :: _, [], [], _, _, h, _ => h.elim
  | _ :: _, [], _ :: _, _, _, h, _ => h.elim
  | _ :: _, _ :: _, [], _, _, h, _ => h.elim

/-- THE ROW's CONTRACT, out of the evaluator's answer. -/
theorem law_calls {E : Envt} (hmix : E.P.follows .mixedOrders = true) (hp : PrimOk E) (hl : laidOutB E.P = true) {ts : List TypeId} (hT : plainSet E.P ts = true) {f : FuncId} {fn : Func}
    (hps : (fn.params.toList.all fun t => memN ts t && E.P.readableRec t) = true) {tb : TypeId} (hres : fn.resultTypes = #[tb]) (hb : E.P.underlying tb = some .bool) {s : ChangeSpec} (hv : s.vars = []) {fresh handsOn : Bool}
    (hs : ∀ (ds : List (DataW H)), ds.length = fn.params.size → s.fn H ds = { results := [.lit (.bool true)], args := ds })
    (pure : ∀ xs : List PV, ArgsTy E.P fn.params.toList xs → ∃ n, pcall E n f xs [] = some (.bool true, []))
    {W : World} {base : Nat} {args : Array Value} {ds gs : List (DataW H)} {before : List MemPlace} (hval : ∀ (j : Nat) t v, fn.params[j]? = some t → args[j]? = some v → Value.okWide E.P W .any base t v)
    (hW : DataW.Whole enc E.P fn.params.toList s.vars false W args.toList ds gs before) (hG : GOk E W (fun b => b < W.heap.size)) :
    Calls E.P f args W fun e W' => ∃ v, e = .returned v ∧ s.post enc E.P fn false fresh handsOn false W args v W' := by
  have hW' := hW
  obtain ⟨p, q, hA, hV, hpq, hfz, hnd⟩ := hW
  have hps' : ∀ t ∈ fn.params.toList, memN ts t = true ∧ E.P.readableRec t = true := fun t ht => by
    have := List.all_eq_true.1 hps t ht
    rwa [Bool.and_eq_true] at this
  have hrow : ∀ t, memN ts t = true → t < E.P.types.size := fun t ht => by
    have := List.all_eq_true.1 hT t ((memN_iff _ _).1 ht)
    rw [Bool.and_eq_true] at this
    simpa using this.1
  obtain ⟨hdl, xs, hty, hlen, hrep⟩ := args_rep (Y := fun _ => False) (L := fun _ => none) hl hT _ _ _ _ (fun t ht => (hps' t ht).1) hA fun j t v e1 e2 => ⟨.any, base, hval j t v (by simpa using e1) (by simpa using e2)⟩
  obtain ⟨n, hn⟩ := pure xs hty
  have sim : Sim W (fun _ _ => False) 0 (fun _ => False) (fun b => b < W.heap.size) W (fun _ => none) (([] : List AObj)[·]?) :=
    ⟨rfl, rfl, rfl, Nat.le_refl _, fun _ _ _ => rfl, fun i => by simp, by simp, by simp, by simp, fun b hb => ⟨hb, by simp⟩, by simp⟩
  refine ((pcall_ok hmix hp n).1 f xs [] _ _ hn W (fun _ _ => False) (fun _ => False) (fun b => b < W.heap.size) (fun _ => none) args sim hG (by simpa using hlen) (fun i c x e1 e2 => hrep i c x (by simpa using e1) e2)).mono fun e W' hq => ?_
  obtain ⟨v, Z', L', rfl, s1, g1, z1, r1⟩ := hq
  have hvb : v = .bool true := by cases r1; rfl
  subst hvb
  have below : Below W.heap.size W W' := ⟨s1.os, s1.tape, s1.output, s1.size, fun k hk => s1.kept k hk (by simp)⟩
  have hgs : gs = [] ∧ q = [] := by
    rw [hv] at hV
    cases gs with
    | nil => exact ⟨rfl, hV⟩
    | cons g gs => exact hV.elim
  obtain ⟨rfl, rfl⟩ := hgs
  have hfn : s.fn H (ds ++ []) = { results := [.lit (.bool true)], args := ds } := by rw [List.append_nil]; exact hs ds (by simpa using hdl)
  refine ⟨_, rfl, ds, [], before, [], p, [], hW', ?_, ?_, ?_, below.frame _, fun h => by cases h⟩
  · rw [hfn, hres]
    refine trodAll_mk1 ⟨1, ?_⟩
    simp [Value.cells, DataW.trod, hb]
  · rw [hfn]
    exact args_stay hl below _ _ _ _ (fun t ht => ⟨(hps' t ht).2, hrow t (hps' t ht).1⟩) hA fun x hx => hW'.lt x (by rw [hpq]; exact List.mem_append_left _ hx)
  · rw [hfn, hv]
    rfl
end
end Go.Bb

