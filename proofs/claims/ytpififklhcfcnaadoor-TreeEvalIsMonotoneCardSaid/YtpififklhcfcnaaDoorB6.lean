/- A path through a function, with answers for what hangs on the data: what remains to be shown is gathered. A path through a function: sound. Tables for the evaluator; what holds from some fuel on. Lemmas for what a path leaves to be shown. Loops by an invariant; lemmas for what a path leaves to be shown. More fuel answers the same; a listed variable read. strings.Join, as the evaluator takes it: by the library's contract. -/
import Derived.Test.YtpififklhcfcnaaDoorB5
import Derived.LaidLaws
import Derived.LaidHandle
import Derived.LaidSub
import Derived.MakeChecks
import Derived.Shelf.Strings.OnBuilder
namespace Go.Bb

inductive An where
  | a
  | b (v : Bool)
  | e (x : Eff)
  | l (r : AExit) (env : Slots) (σ : List AObj)
  | f (res : PV) (σ : List AObj)
  | c (res : PV) (σ : List AObj)
  | s (args : List PV) (res : PV) (σ : List AObj)

def isRefa : PV → Bool
  | .refa .. => true
  | _ => false
def isStr : PV → Bool
  | .str _ => true
  | _ => false
def maybe (ρ : Operand → PV) : Op → Bool
  | .call _ | .indexAddr .. | .index .. | .lookup .. | .mapUpdate .. | .insert .. | .slice .. | .buildSlice .. | .next .. | .store .. | .makeSlice .. => true
  | .load _ a => isRefa (ρ a)
  | .binOp .quo _ _ _ _ | .binOp .rem _ _ _ _ | .binOp .shl _ _ _ _ | .binOp .shr _ _ _ _ => true
  | .binOp .add _ x _ _ => isStr (ρ x)
  | _ => false

def codeAt : Code → List Nat → Option Code
  | c, [] => some c
  | .seq a _, 0 :: p => codeAt a p
  | .seq _ b, 1 :: p => codeAt b p
  | .cond _ a _, 0 :: p => codeAt a p
  | .cond _ _ b, 1 :: p => codeAt b p
  | .block _ c, 0 :: p => codeAt c p
  | .scope c, 0 :: p => codeAt c p
  | .loop c, 0 :: p => codeAt c p
  | _, _ => none
def bodyOf (P : Program) (f : FuncId) : Option Code := match P.funcs[f]? with
  | some fn => fn.body
  | none => none
def ntOf (P : Program) (f : FuncId) : Nat := match P.funcs[f]? with
  | some fn => fn.ntmps
  | none => 0
def codeOf (P : Program) (f : FuncId) (p : List Nat) : Option Code := match bodyOf P f with
  | some c => codeAt c p
  | none => none

/-- What an operation may look at. -/
def rdF (F : List Nat) (σ : List AObj) : Rd := fun i => cond (memN F i) σ[i]? none

/-- 'm' rounds at most of the loop at 'p' in 'f'. -/
def LoopM (E : Envt) (call : Callf) (n m k0 : Nat) (f : FuncId) (p : List Nat) (env : Slots) (σ : List AObj) (out : AExit × Slots × List AObj) : Prop :=
  ∃ c, codeOf E.P f p = some (.loop c) ∧ aloop (fun e s => acode E call (E.ann f) k0 (ntOf E.P f) n c e s) m env σ = some out
/-- One round of it. -/
def BodyO (E : Envt) (call : Callf) (n k0 : Nat) (f : FuncId) (p : List Nat) (env : Slots) (σ : List AObj) (out : AExit × Slots × List AObj) : Prop :=
  ∃ c, codeOf E.P f p = some (.loop c) ∧ acode E call (E.ann f) k0 (ntOf E.P f) n c env σ = some out

theorem LoopM.next {E : Envt} {call : Callf} {n m k0 : Nat} {f : FuncId} {p : List Nat} {env env1 : Slots} {σ σ1 : List AObj} {out : AExit × Slots × List AObj} (h : BodyO E call n k0 f p env σ (.normal, env1, σ1)) (g : LoopM E call n m k0 f p env1 σ1 out) :
    LoopM E call n (m + 1) k0 f p env σ out := by
  obtain ⟨c, h1, h2⟩ := h
  obtain ⟨c', g1, g2⟩ := g
  rw [h1] at g1; injection g1 with g1; injection g1 with g1; subst g1
  refine ⟨c, h1, ?_⟩
  unfold aloop
  rw [h2]; exact g2
theorem LoopM.last {E : Envt} {call : Callf} {n m k0 : Nat} {f : FuncId} {p : List Nat} {env : Slots} {σ : List AObj} {r : AExit} {env1 : Slots} {σ1 : List AObj} (h : BodyO E call n k0 f p env σ (r, env1, σ1)) (hr : r ≠ .normal) :
    LoopM E call n (m + 1) k0 f p env σ (r, env1, σ1) := by
  obtain ⟨c, h1, h2⟩ := h
  refine ⟨c, h1, ?_⟩
  unfold aloop
  rw [h2]
  cases r <;> first | exact absurd rfl hr | rfl

def subE : Slots → Nat → PV → Slots
  | [], _, _ => []
  | (s, u) :: r, d, v => cond (Nat.beq s d) ((s, v) :: r) ((s, u) :: subE r d v)

/-- Is the operation wanted? A guard is asked for once; its slot then says what was answered. -/
def twants (ops : Array Oper) (env : Slots) (kn : List Nat) (o : Oper) (az : List An) (ob : Prop) : Option (Bool × Slots × List Nat × List An × Prop) := match o.guard with
  | none => some (true, env, kn, az, ob)
  | some (j, want) => match (ops.toList[j]?).bind (·.dst) with
    | some d => match getE env d with
      | .bool b => cond (memN kn j) (some (b == want, env, kn, az, ob)) (match az with
        | .b v :: r => some (v, subE env d (.bool (cond v want (!want))), j :: kn, r, ob ∧ (b == want) = v)
        | .a :: r => some (b == want, env, j :: kn, r, ob)
        | _ => none)
      | .tup [] => some (false, env, kn, az, ob)
      | _ => none
    | none => none

/-- The call that an operation makes. -/
def req (E : Envt) (rd : Rd) (f : FuncId) (args : List PV) : Option (FuncId × List PV × List AObj) :=
  cond (E.wr f)
    (match mapO rd (closeN rd 64 (idssOf args) []) with
     | some objs => some (f, args.map (·.ren (pos (closeN rd 64 (idssOf args) []))), objs.map (·.ren (pos (closeN rd 64 (idssOf args) []))))
     | none => none)
    (match mapO (snapN rd 20) args with
     | some args => some (f, args, [])
     | none => none)
def reqO (E : Envt) (rd : Rd) (ρ : Operand → PV) (o : Oper) : Option (FuncId × List PV × List AObj) := match o.op with
  | .call c => match c.callee with
    | .value f => match ρ f with
      | .clo g caps => req E rd g (c.args.toList.map ρ ++ caps)
      | _ => none
    | _ => none
  | _ => none

def callOf (ρ : Operand → PV) (o : Oper) : Option (FuncId × List PV) := match o.op with
  | .call c => match c.callee with
    | .value f => match ρ f with
      | .clo g caps => some (g, c.args.toList.map ρ ++ caps)
      | _ => none
    | _ => none
  | _ => none
/-- What a call is handed of the store: az it stands. -/
def snapA (rd : Rd) (args : List PV) : Option (List PV) := mapO (snapN rd 20) args

def aMake (P : Program) (k : Nat) (t : TypeId) (l c : PV) : Option Eff := match elemT P t, l, c with
  | some e, .int .i64 l, .int .i64 c => cond (decide (0 ≤ l) && decide (l ≤ c) && decide (c * bytesOf P e ≤ 140737488355328) && decide (c ≤ 140737488355328) && Nat.blt 0 (szOf P e) && elemsOk (szOf P e) [rest (zeroP P e)])
        (some ⟨.own k 0 0 l.toNat, [(k, .arr 0 (szOf P e) (List.replicate l.toNat (rest (zeroP P e))))]⟩) none
  | _, _, _ => none
def aopD (E : Envt) (call : Callf) (k0 : Nat) (rd : Rd) (k : Nat) (ρ : Operand → PV) (o : Oper) : Option Eff := match o.op with
  | .makeSlice t l c => aMake E.P k t (ρ l) (ρ c)
  | _ => aop E call k0 rd k ρ o
theorem aopD_eq (E : Envt) (call : Callf) (k0 : Nat) (rd : Rd) (k : Nat) (ρ : Operand → PV) (o : Oper) : aopD E call k0 rd k ρ o = aop E call k0 rd k ρ o := by
  unfold aopD
  split
  · rename_i h
    unfold aop
    rw [h]
    rfl
  · rfl

def teff (E : Envt) (call : Callf) (k0 : Nat) (rd : Rd) (k : Nat) (ρ : Operand → PV) (o : Oper) (az : List An) (ob : Prop) : Option (Eff × List An × Prop) := cond (maybe ρ o.op)
  (match az with
   | .a :: r => match aop E call k0 rd k ρ o with
     | some eff => some (eff, r, ob)
     | none => none
   | .e eff :: r => some (eff, r, ob ∧ aopD E call k0 rd k ρ o = some eff)
   | .c res σ :: r => match reqO E rd ρ o with
     | some (g, args, σ0) => match aop E (fun _ _ _ => some (res, σ)) k0 rd k ρ o with
       | some eff => some (eff, r, ob ∧ call g args σ0 = some (res, σ))
       | none => none
     | none => none
   | .s args' res σ :: r => match callOf ρ o with
     | some (g, args) => cond (!E.wr g && (res.unt && σ.all objUnt)) (some (⟨res.ren (k + ·), numW (k + ·) 0 σ⟩, r, (ob ∧ snapA rd args = some args') ∧ call g args' [] = some (res, σ))) none
     | none => none
   | _ => none)
  (match aop E call k0 rd k ρ o with
   | some eff => some (eff, az, ob)
   | none => none)

def tsteps (E : Envt) (call : Callf) (k0 nt : Nat) (ops : Array Oper) : List Oper → Slots → List AObj → List Nat → List An → Prop → Option (Slots × List AObj × Trace × List An × Prop)
  | [], env, σ, _, az, ob => some (env, σ, [], az, ob)
  | o :: r, env0, σ, kn0, az, ob => match twants ops env0 kn0 o az ob with
    | some (true, env, kn, as1, ob1) => match teff E call k0 (fun i => cond (memN (foot (σ[·]?) (opd E env) o) i) σ[i]? none) σ.length (opd E env) o as1 ob1 with
      | some (eff, as2, ob2) => match applyW σ eff.ws, setD nt env o.dst eff.val with
        | some σ', some env' => match tsteps E call k0 nt ops r env' σ' kn as2 ob2 with
          | some (env'', σ'', ts, as3, ob3) => some (env'', σ'', (foot (σ[·]?) (opd E env) o, eff.ws.map (·.1)) :: ts, as3, ob3)
          | none => none
        | _, _ => none
      | none => none
    | some (false, env, kn, as1, ob1) => match setD nt env o.dst (.tup []) with
      | some env' => match tsteps E call k0 nt ops r env' σ kn as1 ob1 with
        | some (env'', σ'', ts, as3, ob3) => some (env'', σ'', ([], []) :: ts, as3, ob3)
        | none => none
      | none => none
    | none => none

def tcode (E : Envt) (call : Callf) (ann : Nat → Option (List Nat × Option Nat)) (k0 nt n : Nat) (f : FuncId) : List Nat → Code → Slots → List AObj → List An → Prop → Option (AExit × Slots × List AObj × List An × Prop)
  | _, .skip, env, σ, az, ob => some (.normal, env, σ, az, ob)
  | _, .region id ops draw, env, σ, az, ob => match tsteps E call k0 nt ops ops.toList env σ [] az ob with
    | some (env', σ', ts, as', ob') => cond (!draw || orderOk ops ts) (match tidy k0 (ann id) env' σ' with
      | some (env'', σ'') => some (.normal, env'', σ'', as', ob')
      | none => none) none
    | none => none
  | p, .seq a b, env, σ, az, ob => match tcode E call ann k0 nt n f (p ++ [0]) a env σ az ob with
    | some (.normal, env', σ', as', ob') => tcode E call ann k0 nt n f (p ++ [1]) b env' σ' as' ob'
    | r => r
  | p, .cond c a b, env, σ, az, ob => match opd E env c with
    | .bool t => match az with
      | .b v :: r => cond v (tcode E call ann k0 nt n f (p ++ [0]) a env σ r (ob ∧ t = v)) (tcode E call ann k0 nt n f (p ++ [1]) b env σ r (ob ∧ t = v))
      | .a :: r => cond t (tcode E call ann k0 nt n f (p ++ [0]) a env σ r ob) (tcode E call ann k0 nt n f (p ++ [1]) b env σ r ob)
      | _ => none
    | _ => none
  | p, .block id c, env, σ, az, ob => match tcode E call ann k0 nt n f (p ++ [0]) c env σ az ob with
    | some (.exit i, env', σ', as', ob') => cond (Nat.beq i id) (some (.normal, env', σ', as', ob')) (some (.exit i, env', σ', as', ob'))
    | r => r
  | p, .loop _, env, σ, az, ob => match az with
    | .l r env' σ' :: as' => some (r, env', σ', as', ob ∧ LoopM E call n n k0 f p env σ (r, env', σ'))
    | _ => none
  | _, .exit id, env, σ, az, ob => some (.exit id, env, σ, az, ob)
  | p, .scope c, env, σ, az, ob => tcode E call ann k0 nt n f (p ++ [0]) c env σ az ob
  | _, .ret, env, σ, az, ob => some (.ret, env, σ, az, ob)
  | _, _, _, _, _, _ => none

/-- A round of the loop at 'p' in 'f', by the answers. -/
def tbody (E : Envt) (call : Callf) (n k0 : Nat) (f : FuncId) (p : List Nat) (env : Slots) (σ : List AObj) (az : List An) : Option ((AExit × Slots × List AObj) × Prop) := match codeOf E.P f p with
  | some (.loop c) => match tcode E call (E.ann f) k0 (ntOf E.P f) n f (p ++ [0]) c env σ az True with
    | some (r, env', σ', [], ob) => some ((r, env', σ'), ob)
    | _ => none
  | _ => none

def tfun (E : Envt) (call : Callf) (n : Nat) (f : FuncId) (args : List PV) (σ : List AObj) (az : List An) : Option ((PV × List AObj) × Prop) := match E.prim f with
  | some _ => none
  | none => match E.P.funcs[f]? with
    | none => none
    | some fn => match fn.body with
      | none => none
      | some c => cond (fn.name == "runtime.NumGoroutine" || !(Nat.ble args.length fn.ntmps)) none
        (match tcode E call (E.ann f) σ.length fn.ntmps n f [] c (numE 0 args) σ az True with
        | some (.exit _, _, _, _, _) => none
        | some (_, env, σ', as', ob) => match ares E env σ' fn.results.toList with
          | some xs => match as' with
            | [] => match fin (E.keep f) σ.length (oneOrTup xs) σ' with
              | some r => some (r, ob)
              | none => none
            | [.f res σ''] => some ((res, σ''), ob ∧ fin (E.keep f) σ.length (oneOrTup xs) σ' = some (res, σ''))
            | _ => none
          | none => none
        | none => none)
end Go.Bb

namespace Go.Bb
section
variable {E : Envt} {call : Callf} {k0 nt n : Nat}

theorem subE_self : ∀ (env : Slots) (d : Nat) (v : PV), getE env d = v → subE env d v = env
  | [], _, _, _ => rfl
  | (s, u) :: r, d, v, h => by
    simp only [getE] at h
    unfold subE
    cases hb : Nat.beq s d with
    | true => rw [hb] at h; simp only [cond_true] at h ⊢; rw [h]
    | false => rw [hb] at h; simp only [cond_false] at h ⊢; rw [subE_self r d v h]

theorem twants_sound {ops : Array Oper} {env env' : Slots} {kn kn' : List Nat} {o : Oper} {az as' : List An} {ob ob' : Prop} {b : Bool} (h : twants ops env kn o az ob = some (b, env', kn', as', ob')) (hob : ob') : ob ∧ wants ops env o = some b ∧ env' = env := by
  unfold twants at h
  unfold wants
  split at h
  · rename_i hg
    simp only [Option.some.injEq, Prod.mk.injEq] at h
    obtain ⟨rfl, rfl, rfl, rfl, rfl⟩ := h
    rw [hg]; exact ⟨hob, rfl, rfl⟩
  · rename_i j want hg
    rw [hg]
    simp only
    split at h
    · rename_i d hd
      rw [hd]
      simp only
      split at h
      · rename_i b0 hb
        rw [hb]
        cases hm : memN kn j with
        | true =>
          rw [hm] at h
          simp only [cond_true, Option.some.injEq, Prod.mk.injEq] at h
          obtain ⟨rfl, rfl, rfl, rfl, rfl⟩ := h
          exact ⟨hob, rfl, rfl⟩
        | false =>
          rw [hm] at h
          simp only [cond_false] at h
          split at h
          · rename_i v r
            simp only [Option.some.injEq, Prod.mk.injEq] at h
            obtain ⟨rfl, rfl, rfl, rfl, rfl⟩ := h
            refine ⟨hob.1, congrArg some hob.2, subE_self _ _ _ ?_⟩
            rw [hb]
            have := hob.2
            cases b0 <;> cases want <;> cases v <;> first | rfl | cases this
          · simp only [Option.some.injEq, Prod.mk.injEq] at h
            obtain ⟨rfl, rfl, rfl, rfl, rfl⟩ := h
            exact ⟨hob, rfl, rfl⟩
          · cases h
      · rename_i hb
        rw [hb]
        simp only [Option.some.injEq, Prod.mk.injEq] at h
        obtain ⟨rfl, rfl, rfl, rfl, rfl⟩ := h
        exact ⟨hob, rfl, rfl⟩
      · cases h
    · cases h

theorem req_spec {rd : Rd} {k : Nat} {f g : FuncId} {args args' : List PV} {σ0 : List AObj} {r : PV × List AObj} (h : req E rd f args = some (g, args', σ0)) (hc : call g args' σ0 = some r) : acall E call rd k f args = acall E (fun _ _ _ => some r) rd k f args := by
  unfold req at h
  unfold acall
  cases hw : E.wr f with
  | true =>
    rw [hw] at h
    simp only [cond_true] at h ⊢
    unfold acallT
    split at h
    · rename_i objs ho
      simp only [Option.some.injEq, Prod.mk.injEq] at h
      obtain ⟨rfl, rfl, rfl⟩ := h
      rw [ho]
      simp only [hc]
    · cases h
  | false =>
    rw [hw] at h
    simp only [cond_false] at h ⊢
    unfold acallS
    split at h
    · rename_i az ho
      simp only [Option.some.injEq, Prod.mk.injEq] at h
      obtain ⟨rfl, rfl, rfl⟩ := h
      rw [ho]
      simp only [hc]
    · cases h

theorem reqO_spec {rd : Rd} {k : Nat} {ρ : Operand → PV} {o : Oper} {g : FuncId} {args' : List PV} {σ0 : List AObj} {r : PV × List AObj} (h : reqO E rd ρ o = some (g, args', σ0)) (hc : call g args' σ0 = some r) :
    aop E call k0 rd k ρ o = aop E (fun _ _ _ => some r) k0 rd k ρ o := by
  unfold reqO at h
  split at h
  · rename_i c ho
    split at h
    · rename_i f hf
      split at h
      · rename_i fn caps hρ
        unfold aop
        rw [ho]
        simp only [hf, hρ]
        exact req_spec h hc
      · cases h
    · cases h
  · cases h

theorem callOf_spec {rd : Rd} {k : Nat} {ρ : Operand → PV} {o : Oper} {g : FuncId} {args args' : List PV} {res : PV} {σ : List AObj} (h : callOf ρ o = some (g, args)) (hw : E.wr g = false) (hu : (res.unt && σ.all objUnt) = true)
    (hs : snapA rd args = some args') (hc : call g args' [] = some (res, σ)) : aop E call k0 rd k ρ o = some ⟨res.ren (k + ·), numW (k + ·) 0 σ⟩ := by
  unfold callOf at h
  split at h
  · rename_i c ho
    split at h
    · rename_i f hf
      split at h
      · rename_i fn caps hρ
        simp only [Option.some.injEq, Prod.mk.injEq] at h
        obtain ⟨rfl, rfl⟩ := h
        unfold aop
        rw [ho]
        simp only [hf, hρ]
        unfold acall
        rw [hw]
        unfold snapA at hs
        simp only [cond_false, acallS, hs, hc, hu, cond_true]
      · cases h
    · cases h
  · cases h

theorem teff_sound {rd : Rd} {k : Nat} {ρ : Operand → PV} {o : Oper} {az as' : List An} {ob ob' : Prop} {eff : Eff} (h : teff E call k0 rd k ρ o az ob = some (eff, as', ob')) (hob : ob') : ob ∧ aop E call k0 rd k ρ o = some eff := by
  unfold teff at h
  cases hm : maybe ρ o.op with
  | true =>
    rw [hm] at h
    simp only [cond_true] at h
    split at h
    · split at h
      · rename_i hx
        simp only [Option.some.injEq, Prod.mk.injEq] at h
        obtain ⟨rfl, rfl, rfl⟩ := h
        exact ⟨hob, hx⟩
      · cases h
    · simp only [Option.some.injEq, Prod.mk.injEq] at h
      obtain ⟨rfl, rfl, rfl⟩ := h
      exact ⟨hob.1, (aopD_eq ..).symm.trans hob.2⟩
    · split at h
      · rename_i hq
        split at h
        · rename_i hx
          simp only [Option.some.injEq, Prod.mk.injEq] at h
          obtain ⟨rfl, rfl, rfl⟩ := h
          exact ⟨hob.1, (reqO_spec hq hob.2).trans hx⟩
        · cases h
      · cases h
    · rename_i args' res σ r
      split at h
      · rename_i g args hq
        cases hb : (!E.wr g && (res.unt && σ.all objUnt)) with
        | false => rw [hb] at h; simp at h
        | true =>
          rw [hb] at h
          simp only [cond_true, Option.some.injEq, Prod.mk.injEq] at h
          obtain ⟨rfl, rfl, rfl⟩ := h
          rw [Bool.and_eq_true] at hb
          exact ⟨hob.1.1, callOf_spec hq (by simpa using hb.1) hb.2 hob.1.2 hob.2⟩
      · cases h
    · cases h
  | false =>
    rw [hm] at h
    simp only [cond_false] at h
    split at h
    · rename_i hx
      simp only [Option.some.injEq, Prod.mk.injEq] at h
      obtain ⟨rfl, rfl, rfl⟩ := h
      exact ⟨hob, hx⟩
    · cases h

theorem tsteps_sound {ops : Array Oper} : ∀ (l : List Oper) (env : Slots) (σ : List AObj) (kn : List Nat) (az : List An) (ob : Prop) (env' : Slots) (σ' : List AObj) (ts : Trace) (as' : List An) (ob' : Prop),
    tsteps E call k0 nt ops l env σ kn az ob = some (env', σ', ts, as', ob') → ob' → ob ∧ asteps E call k0 nt ops l env σ = some (env', σ', ts)
  | [], env, σ, kn, az, ob, env', σ', ts, as', ob', h, hob => by
    simp only [tsteps, Option.some.injEq, Prod.mk.injEq] at h
    obtain ⟨rfl, rfl, rfl, rfl, rfl⟩ := h
    exact ⟨hob, rfl⟩
  | o :: r, env, σ, kn, az, ob, env', σ', ts, as', ob', h, hob => by
    unfold tsteps at h
    unfold asteps astep
    split at h
    · rename_i envw knw as1 ob1 hw
      split at h
      · rename_i eff as2 ob2 he
        split at h
        · rename_i σ1 env1 h1 h2
          split at h
          · rename_i env2 σ2 ts2 as3 ob3 h3
            simp only [Option.some.injEq, Prod.mk.injEq] at h
            obtain ⟨rfl, rfl, rfl, rfl, rfl⟩ := h
            obtain ⟨hob2, h4⟩ := tsteps_sound r env1 σ1 _ as2 ob2 _ _ _ _ _ h3 hob
            obtain ⟨hob1, h5⟩ := teff_sound he hob2
            obtain ⟨hob0, h6, h7⟩ := twants_sound hw hob1
            subst h7
            refine ⟨hob0, ?_⟩
            rw [h6]; simp only [h5, h1, h2, h4]
          · cases h
        · cases h
      · cases h
    · rename_i envw knw as1 ob1 hw
      split at h
      · rename_i env1 h2
        split at h
        · rename_i env2 σ2 ts2 as3 ob3 h3
          simp only [Option.some.injEq, Prod.mk.injEq] at h
          obtain ⟨rfl, rfl, rfl, rfl, rfl⟩ := h
          obtain ⟨hob2, h4⟩ := tsteps_sound r env1 σ _ as1 ob1 _ _ _ _ _ h3 hob
          obtain ⟨hob0, h6, h7⟩ := twants_sound hw hob2
          subst h7
          refine ⟨hob0, ?_⟩
          rw [h6]; simp only [h2, h4]
        · cases h
      · cases h
    · cases h

theorem codeAt_append : ∀ (p q : List Nat) (c : Code), codeAt c (p ++ q) = (codeAt c p).bind fun c => codeAt c q
  | [], q, c => by cases c <;> rfl
  | i :: p, q, c => by
    have ih := codeAt_append p q
    cases c <;> first
      | rfl
      | (rcases i with _ | _ | i <;> first | rfl | exact ih _)

theorem codeOf_next {P : Program} {f : FuncId} {p : List Nat} {c : Code} (h : codeOf P f p = some c) (q : List Nat) : codeOf P f (p ++ q) = codeAt c q := by
  unfold codeOf at *
  cases hb : bodyOf P f with
  | none => rw [hb] at h; cases h
  | some b => rw [hb] at h; simp only at h ⊢; rw [codeAt_append, h]; rfl

theorem tcode_sound {f : FuncId} : ∀ (c : Code) (p : List Nat) (env : Slots) (σ : List AObj) (az : List An) (ob : Prop) (r : AExit) (env' : Slots) (σ' : List AObj) (as' : List An) (ob' : Prop), codeOf E.P f p = some c →
    tcode E call (E.ann f) k0 (ntOf E.P f) n f p c env σ az ob = some (r, env', σ', as', ob') → ob' → ob ∧ acode E call (E.ann f) k0 (ntOf E.P f) n c env σ = some (r, env', σ') := by
  intro c
  induction c with
  | skip =>
    intro p env σ az ob r env' σ' as' ob' hp h hob
    simp only [tcode, Option.some.injEq, Prod.mk.injEq] at h
    obtain ⟨rfl, rfl, rfl, rfl, rfl⟩ := h
    exact ⟨hob, rfl⟩
  | region id ops draw =>
    intro p env σ az ob r env' σ' as' ob' hp h hob
    simp only [tcode] at h
    simp only [acode]
    split at h
    · rename_i e1 s1 ts as1 ob1 h1
      cases hb : (!draw || orderOk ops ts) with
      | false => rw [hb] at h; simp at h
      | true =>
        rw [hb] at h
        simp only [cond_true] at h
        split at h
        · rename_i e2 s2 h2
          simp only [Option.some.injEq, Prod.mk.injEq] at h
          obtain ⟨rfl, rfl, rfl, rfl, rfl⟩ := h
          obtain ⟨g1, g2⟩ := tsteps_sound _ _ _ _ _ _ _ _ _ _ _ h1 hob
          refine ⟨g1, ?_⟩
          rw [g2]; simp only [hb, cond_true, h2]
        · cases h
    · cases h
  | seq x y ihx ihy =>
    intro p env σ az ob r env' σ' as' ob' hp h hob
    simp only [tcode] at h
    simp only [acode]
    have px := codeOf_next hp [0]
    have py := codeOf_next hp [1]
    split at h
    · rename_i e1 s1 as1 ob1 h1
      obtain ⟨g1, g2⟩ := ihy _ _ _ _ _ _ _ _ _ _ (py.trans (by cases y <;> rfl)) h hob
      obtain ⟨g3, g4⟩ := ihx _ _ _ _ _ _ _ _ _ _ (px.trans (by cases x <;> rfl)) h1 g1
      refine ⟨g3, ?_⟩
      rw [g4]; exact g2
    · rename_i h1
      obtain ⟨g3, g4⟩ := ihx _ _ _ _ _ _ _ _ _ _ (px.trans (by cases x <;> rfl)) h hob
      refine ⟨g3, ?_⟩
      rw [g4]
      cases r with
      | normal => exact absurd h (h1 _ _ _ _)
      | exit id => rfl
      | ret => rfl
  | cond c x y ihx ihy =>
    intro p env σ az ob r env' σ' as' ob' hp h hob
    simp only [tcode] at h
    simp only [acode]
    have px := (codeOf_next hp [0]).trans (show codeAt (.cond c x y) [0] = some x by cases x <;> rfl)
    have py := (codeOf_next hp [1]).trans (show codeAt (.cond c x y) [1] = some y by cases y <;> rfl)
    split at h
    · rename_i t ht
      rw [ht]
      simp only
      split at h
      · rename_i v r'
        cases v with
        | true =>
          simp only [cond_true] at h
          obtain ⟨⟨g0, g1⟩, g2⟩ := ihx _ _ _ _ _ _ _ _ _ _ px h hob
          rw [g1]; exact ⟨g0, g2⟩
        | false =>
          simp only [cond_false] at h
          obtain ⟨⟨g0, g1⟩, g2⟩ := ihy _ _ _ _ _ _ _ _ _ _ py h hob
          rw [g1]; exact ⟨g0, g2⟩
      · cases t with
        | true => exact ihx _ _ _ _ _ _ _ _ _ _ px h hob
        | false => exact ihy _ _ _ _ _ _ _ _ _ _ py h hob
      · cases h
    · cases h
  | block id c ih =>
    intro p env σ az ob r env' σ' as' ob' hp h hob
    simp only [tcode] at h
    simp only [acode]
    have px := (codeOf_next hp [0]).trans (show codeAt (.block id c) [0] = some c by cases c <;> rfl)
    split at h
    · rename_i i e1 s1 as1 ob1 h1
      cases hb : Nat.beq i id with
      | true =>
        rw [hb] at h
        simp only [cond_true, Option.some.injEq, Prod.mk.injEq] at h
        obtain ⟨rfl, rfl, rfl, rfl, rfl⟩ := h
        obtain ⟨g1, g2⟩ := ih _ _ _ _ _ _ _ _ _ _ px h1 hob
        refine ⟨g1, ?_⟩
        rw [g2]; simp only [hb, cond_true]
      | false =>
        rw [hb] at h
        simp only [cond_false, Option.some.injEq, Prod.mk.injEq] at h
        obtain ⟨rfl, rfl, rfl, rfl, rfl⟩ := h
        obtain ⟨g1, g2⟩ := ih _ _ _ _ _ _ _ _ _ _ px h1 hob
        refine ⟨g1, ?_⟩
        rw [g2]; simp only [hb, cond_false]
    · rename_i h1
      obtain ⟨g1, g2⟩ := ih _ _ _ _ _ _ _ _ _ _ px h hob
      refine ⟨g1, ?_⟩
      rw [g2]
      cases r with
      | normal => rfl
      | exit id => exact absurd h (h1 _ _ _ _ _)
      | ret => rfl
  | loop c ih =>
    intro p env σ az ob r env' σ' as' ob' hp h hob
    simp only [tcode] at h
    simp only [acode]
    split at h
    · simp only [Option.some.injEq, Prod.mk.injEq] at h
      obtain ⟨rfl, rfl, rfl, rfl, rfl⟩ := h
      obtain ⟨g1, c', g2, g3⟩ := hob
      rw [hp] at g2; injection g2 with g2; injection g2 with g2; subst g2
      exact ⟨g1, g3⟩
    · cases h
  | exit id =>
    intro p env σ az ob r env' σ' as' ob' hp h hob
    simp only [tcode, Option.some.injEq, Prod.mk.injEq] at h
    obtain ⟨rfl, rfl, rfl, rfl, rfl⟩ := h
    exact ⟨hob, rfl⟩
  | scope c ih =>
    intro p env σ az ob r env' σ' as' ob' hp h hob
    simp only [tcode] at h
    exact ih _ _ _ _ _ _ _ _ _ _ ((codeOf_next hp [0]).trans (show codeAt (.scope c) [0] = some c by cases c <;> rfl)) h hob
  | ret =>
    intro p env σ az ob r env' σ' as' ob' hp h hob
    simp only [tcode, Option.some.injEq, Prod.mk.injEq] at h
    obtain ⟨rfl, rfl, rfl, rfl, rfl⟩ := h
    exact ⟨hob, rfl⟩
  | _ => intro p env σ az ob r env' σ' as' ob' hp h; simp [tcode] at h

theorem tbody_sound {f : FuncId} {p : List Nat} {env : Slots} {σ : List AObj} {az : List An} {out : AExit × Slots × List AObj} {ob : Prop} (h : tbody E call n k0 f p env σ az = some (out, ob)) (hob : ob) : BodyO E call n k0 f p env σ out := by
  unfold tbody at h
  split at h
  · rename_i c hc
    split at h
    · rename_i r env' σ' ob' h1
      simp only [Option.some.injEq, Prod.mk.injEq] at h
      obtain ⟨rfl, rfl⟩ := h
      exact ⟨c, hc, (tcode_sound c _ _ _ _ _ _ _ _ _ _ ((codeOf_next hc [0]).trans (show codeAt (.loop c) [0] = some c by cases c <;> rfl)) h1 hob).2⟩
    · cases h
  · cases h

theorem tfun_sound {f : FuncId} {args : List PV} {σ : List AObj} {az : List An} {out : PV × List AObj} {ob : Prop} (h : tfun E (pcall E n) n f args σ az = some (out, ob)) (hob : ob) : pcall E (n + 1) f args σ = some out := by
  unfold tfun at h
  unfold pcall
  split at h
  · cases h
  · rename_i hpr
    rw [hpr]
    simp only
    split at h
    · cases h
    · rename_i fn hfn
      rw [hfn]
      simp only
      split at h
      · cases h
      · rename_i c hc
        rw [hc]
        simp only
        have hnt : ntOf E.P f = fn.ntmps := by unfold ntOf; rw [hfn]
        have hco : codeOf E.P f [] = some c := by unfold codeOf bodyOf; rw [hfn]; simp only; rw [hc]; cases c <;> rfl
        cases hb : (fn.name == "runtime.NumGoroutine" || !(Nat.ble args.length fn.ntmps)) with
        | true => rw [hb] at h; simp at h
        | false =>
          rw [hb] at h
          simp only [cond_false] at h ⊢
          rw [← hnt] at h ⊢
          split at h
          · cases h
          · rename_i r env' σ' as' ob' hne h1
            split at h
            · rename_i xs hx
              split at h
              · split at h
                · rename_i q hq
                  simp only [Option.some.injEq, Prod.mk.injEq] at h
                  obtain ⟨rfl, rfl⟩ := h
                  have := (tcode_sound c _ _ _ _ _ _ _ _ _ _ hco h1 hob).2
                  rw [this]
                  cases r with
                  | exit id => exact (hne _ rfl).elim
                  | normal => simp only [hx, hq]
                  | ret => simp only [hx, hq]
                · cases h
              · simp only [Option.some.injEq, Prod.mk.injEq] at h
                obtain ⟨rfl, rfl⟩ := h
                have := (tcode_sound c _ _ _ _ _ _ _ _ _ _ hco h1 hob.1).2
                rw [this]
                cases r with
                | exit id => exact (hne _ rfl).elim
                | normal => simp only [hx, hob.2]
                | ret => simp only [hx, hob.2]
              · cases h
            · cases h
          · cases h
end
end Go.Bb

namespace Go.Bb

def lookN {α : Type} : List (Nat × α) → Nat → Option α
  | [], _ => none
  | (k, v) :: r, n => cond (Nat.beq k n) (some v) (lookN r n)
abbrev Anns := List (Nat × List (Nat × (List Nat × Option Nat)))
def annOf (t : Anns) (f : FuncId) (id : Nat) : Option (List Nat × Option Nat) := match lookN t f with
  | some r => lookN r id
  | none => none

/-- From some fuel on. -/
def Ev (p : Nat → Prop) : Prop := ∃ N, ∀ n, N ≤ n → p n
theorem Ev.and {p q : Nat → Prop} (h : Ev p) (g : Ev q) : Ev fun n => p n ∧ q n := by
  obtain ⟨a, h⟩ := h
  obtain ⟨b, g⟩ := g
  exact ⟨max a b, fun n hn => ⟨h n (by omega), g n (by omega)⟩⟩
theorem Ev.mono {p q : Nat → Prop} (h : Ev p) (g : ∀ n, p n → q n) : Ev q := by
  obtain ⟨a, h⟩ := h
  exact ⟨a, fun n hn => g n (h n hn)⟩
theorem Ev.of {p : Nat → Prop} (h : ∀ n, p n) : Ev p := ⟨0, fun n _ => h n⟩
theorem Ev.succ {p : Nat → Prop} (h : Ev fun n => p (n + 1)) : Ev p := by
  obtain ⟨a, h⟩ := h
  refine ⟨a + 1, fun n hn => ?_⟩
  obtain ⟨m, rfl⟩ : ∃ m, n = m + 1 := ⟨n - 1, by omega⟩
  exact h m (by omega)
theorem Ev.all {α : Type} {p : α → Nat → Prop} : ∀ (l : List α), (∀ x ∈ l, Ev (p x)) → Ev fun n => ∀ x ∈ l, p x n
  | [], _ => Ev.of fun _ _ h => by cases h
  | a :: r, h => by
    have h1 := h a (by simp)
    have h2 := Ev.all r fun x hx => h x (List.mem_cons_of_mem _ hx)
    refine (h1.and h2).mono fun n hn x hx => ?_
    rcases List.mem_cons.1 hx with rfl | hx
    · exact hn.1
    · exact hn.2 x hx
/-- The call answers so from some fuel on. -/
def Has (E : Envt) (f : FuncId) (args : List PV) (σ : List AObj) (out : PV × List AObj) : Prop := Ev fun n => pcall E n f args σ = some out
theorem Has.run {E : Envt} {f : FuncId} {args : List PV} {σ : List AObj} {out : PV × List AObj} (h : Has E f args σ out) : ∃ n, pcall E n f args σ = some out := by
  obtain ⟨N, h⟩ := h
  exact ⟨N, h N (Nat.le_refl _)⟩
/-- A path: what remains holds from some fuel on. -/
theorem Has.path {E : Envt} {f : FuncId} {args : List PV} {σ : List AObj} {az : Nat → List An} {out : PV × List AObj} {ob : Callf → Nat → Prop} (h : ∀ call n, tfun E call n f args σ (az n) = some (out, ob call n)) (hob : Ev fun n => ob (pcall E n) n) : Has E f args σ out :=
  Ev.succ (hob.mono fun n hn => tfun_sound (h _ n) hn)
end Go.Bb

namespace Go.Bb

/-- An append to a slice of the call's own, at its end. -/
theorem app_own {P : Program} {rd : Rd} {k o v sz : Nat} {t xt e : TypeId} {xs ys : List PV} {x : PV} (he : elemT P t = some e) (hs : srcOf rd (szOf P e) x = some ys) (h1 : sizeOk (szOf P e) ys = true) (h2 : growOk P e = true) (h3 : notInt P xt = true)
    (ho : rd o = some (.arr v sz xs)) (hsz : (Nat.beq sz 0 || Nat.beq sz (szOf P e)) = true) (hn : 0 < ys.length) (hb : (xs.length + ys.length) * bytesOf P e ≤ 140737488355328) :
    aAppend P rd k t xt (.own o v 0 xs.length) x = some ⟨.own o (v + 1) 0 (xs.length + ys.length), [(o, .arr (v + 1) (szOf P e) (xs ++ ys))]⟩ := by
  have c1 : Nat.ble (0 + xs.length) xs.length = true := Nat.ble_eq_true_of_le (by omega)
  have c2 : Nat.ble (0 + xs.length + ys.length) xs.length = false := by
    cases h : Nat.ble (0 + xs.length + ys.length) xs.length with
    | false => rfl
    | true => have := Nat.le_of_ble_eq_true h; omega
  have c3 : Nat.beq (0 + xs.length) xs.length = true := by rw [Nat.zero_add]; exact Nat.beq_refl _
  have c4 : Nat.ble ((xs.length + ys.length) * bytesOf P e) 140737488355328 = true := Nat.ble_eq_true_of_le hb
  unfold aAppend
  simp only [he, hs, h1, h2, h3, ho, Nat.beq_refl, c1, hsz, c2, c3, c4, Bool.and_self, cond_true, cond_false, List.drop_zero]
end Go.Bb

namespace Go.Bb
section
variable {E : Envt} {call : Callf} {n k0 : Nat} {f : FuncId} {p : List Nat}

theorem snapL_ex (xs : List PV) : ∃ y, snapL xs = .list y xs := by cases xs <;> exact ⟨_, rfl⟩
/-- A loop, by an invariant with a measure: each round goes on with less, or comes out az asked. -/
theorem LoopM.inv {β : Type} (μ : β → Nat) (Inv : β → Slots → List AObj → Prop) (Q : AExit × Slots × List AObj → Prop)
    (h : ∀ (b : β) (env : Slots) (σ : List AObj), Inv b env σ →
      (∃ b' env' σ', μ b' < μ b ∧ BodyO E call n k0 f p env σ (.normal, env', σ') ∧ Inv b' env' σ') ∨ (∃ out, BodyO E call n k0 f p env σ out ∧ out.1 ≠ .normal ∧ Q out)) :
    ∀ (m : Nat) (b : β) (env : Slots) (σ : List AObj), Inv b env σ → μ b < m → ∃ out, LoopM E call n m k0 f p env σ out ∧ Q out
  | 0, _, _, _, _, hm => absurd hm (Nat.not_lt_zero _)
  | m + 1, b, env, σ, hi, hm => by
    rcases h b env σ hi with ⟨b', env', σ', g1, g2, g3⟩ | ⟨⟨r, env', σ'⟩, g1, g2, g3⟩
    · obtain ⟨out, g4, g5⟩ := LoopM.inv μ Inv Q h m b' env' σ' g3 (by omega)
      exact ⟨out, LoopM.next g2 g4, g5⟩
    · exact ⟨_, LoopM.last g1 g2, g3⟩

/-- A loop over a list, by an invariant on what lies behind. -/
theorem LoopM.list {α : Type} (xs : List α) (Inv : List α → Slots → List AObj → Prop) (Q : AExit × Slots × List AObj → Prop)
    (h0 : ∀ env σ, Inv xs env σ → ∃ out, BodyO E call n k0 f p env σ out ∧ out.1 ≠ .normal ∧ Q out)
    (h1 : ∀ (pre : List α) (x : α) (post : List α) env σ, xs = pre ++ x :: post → Inv pre env σ →
      (∃ env' σ', BodyO E call n k0 f p env σ (.normal, env', σ') ∧ Inv (pre ++ [x]) env' σ') ∨ (∃ out, BodyO E call n k0 f p env σ out ∧ out.1 ≠ .normal ∧ Q out))
    {env : Slots} {σ : List AObj} (hi : Inv [] env σ) {m : Nat} (hm : xs.length < m) : ∃ out, LoopM E call n m k0 f p env σ out ∧ Q out := by
  refine LoopM.inv (fun b : List α × List α => b.2.length) (fun b env σ => xs = b.1 ++ b.2 ∧ Inv b.1 env σ) Q ?_ m ([], xs) env σ ⟨rfl, hi⟩ hm
  rintro ⟨pre, post⟩ env σ ⟨he, hv⟩
  cases post with
  | nil =>
    have : pre = xs := by rw [he]; simp
    subst this
    exact .inr (h0 env σ hv)
  | cons x r =>
    rcases h1 pre x r env σ he hv with ⟨env', σ', g1, g2⟩ | g
    · exact .inl ⟨(pre ++ [x], r), env', σ', by simp, g1, by rw [he]; simp, g2⟩
    · exact .inr g

/-- A loop over a list whose state is told by what lies behind, outright. -/
theorem LoopM.walk {α : Type} (xs : List α) (ev : List α → Slots) (sg : List α → List AObj) {out : AExit × Slots × List AObj} (ho : out.1 ≠ .normal)
    (h0 : BodyO E call n k0 f p (ev xs) (sg xs) out)
    (h1 : ∀ (pre : List α) (x : α) (post : List α), xs = pre ++ x :: post → BodyO E call n k0 f p (ev pre) (sg pre) (.normal, ev (pre ++ [x]), sg (pre ++ [x])))
    {m : Nat} (hm : xs.length < m) : LoopM E call n m k0 f p (ev []) (sg []) out := by
  obtain ⟨o, g1, rfl⟩ := LoopM.list (E := E) (call := call) (n := n) (k0 := k0) (f := f) (p := p) xs (fun pre env σ => env = ev pre ∧ σ = sg pre) (fun o => o = out)
    (fun env σ he => ⟨out, by rw [he.1, he.2]; exact h0, ho, rfl⟩)
    (fun pre x post env σ he hi => .inl ⟨_, _, by rw [hi.1, hi.2]; exact h1 pre x post he, rfl, rfl⟩) (env := ev []) (σ := sg []) ⟨rfl, rfl⟩ hm
  exact g1

theorem BodyO.to {env : Slots} {σ : List AObj} {o o' : AExit × Slots × List AObj} (h : BodyO E call n k0 f p env σ o) (e : o = o') : BodyO E call n k0 f p env σ o' := e ▸ h

theorem i64w {n : Int} (h0 : -9223372036854775808 ≤ n) (h1 : n ≤ 9223372036854775807) : IntKind.i64.wrap n = n := wrap_small h0 h1
/-- The loop's number one further. -/
theorem wnext {α : Type} (pre : List α) (x : α) (h : pre.length < 9223372036854775807) : IntKind.i64.wrap ((pre.length : Int) + 1) = ((pre ++ [x]).length : Int) := by
  rw [i64w (by omega) (by omega)]; simp
theorem wnextn (i : Nat) (h : i < 9223372036854775807) : IntKind.i64.wrap ((i : Int) + 1) = ((i + 1 : Nat) : Int) := by
  rw [i64w (by omega) (by omega)]; simp

/-- An element of a list. -/
theorem idx_list {P : Program} {rd : Rd} {t e : TypeId} {y : Bool} {xs : List PV} {v : PV} {i : Nat} {k : IntKind} (hu : P.underlying t = some (.slice e)) (he : hasT P e = true) (hs : Nat.beq (cellsOf v).length (szOf P e) = true) (hx : xs[i]? = some v) :
    justO (aIndexAddr P rd t (.list y xs) (.int k i)) = some ⟨.ro y v, []⟩ := by
  simp [aIndexAddr, asIdx, hu, hx, he, hs, justO]
theorem idx_listI {P : Program} {rd : Rd} {t e : TypeId} {y : Bool} {xs : List PV} {v : PV} {i : Int} {k : IntKind} (h0 : 0 ≤ i) (hu : P.underlying t = some (.slice e)) (he : hasT P e = true) (hs : Nat.beq (cellsOf v).length (szOf P e) = true) (hx : xs[i.toNat]? = some v) :
    justO (aIndexAddr P rd t (.list y xs) (.int k i)) = some ⟨.ro y v, []⟩ := by
  have := idx_list (P := P) (rd := rd) (t := t) (y := y) (k := k) hu he hs hx
  rwa [show ((i.toNat : Nat) : Int) = i by omega] at this
/-- An element of an array of the call's own. -/
theorem idx_own {P : Program} {rd : Rd} {t e : TypeId} {o ver n : Nat} {xs : List PV} {i : Int} {k : IntKind} (hu : P.underlying t = some (.slice e)) (he : hasT P e = true) (ho : rd o = some (.arr ver (szOf P e) xs)) (hl : n ≤ xs.length) (h0 : 0 ≤ i) (hi : i < n) :
    justO (aIndexAddr P rd t (.own o ver 0 n) (.int k i)) = some ⟨.refa o ver i.toNat 0, []⟩ := by
  have c1 : Nat.ble n xs.length = true := Nat.ble_eq_true_of_le (by omega)
  have c2 : inB i n = true := by simp [inB]; omega
  simp [aIndexAddr, asIdx, hu, he, ho, c1, c2, justO]

/-- The size of the elements of an array of the call's own: told with the first one. -/
def zOk (z s : Nat) (xs : List PV) : Prop := z = s ∨ (z = 0 ∧ xs = [])
theorem zOk.of {z s : Nat} {x : PV} {xs : List PV} (h : zOk z s xs) (hx : x ∈ xs) : z = s := by
  rcases h with h | ⟨_, h⟩
  · exact h
  · rw [h] at hx; simp at hx

/-- An append to a slice of the call's own, at its end. -/
theorem app_ex {P : Program} {rd : Rd} {k o v sz m : Nat} {t xt e : TypeId} {xs ys : List PV} {x : PV} (hm : m = xs.length) (he : elemT P t = some e) (hs : srcOf rd (szOf P e) x = some ys) (h1 : sizeOk (szOf P e) ys = true) (h2 : growOk P e = true) (h3 : notInt P xt = true)
    (ho : rd o = some (.arr v sz xs)) (hsz : zOk sz (szOf P e) xs) (hb : (xs.length + ys.length) * bytesOf P e ≤ 140737488355328) :
    ∃ v' sz', zOk sz' (szOf P e) (xs ++ ys) ∧ aAppend P rd k t xt (.own o v 0 m) x = some ⟨.own o v' 0 (xs ++ ys).length, [(o, .arr v' sz' (xs ++ ys))]⟩ := by
  subst hm
  have hsz' : (Nat.beq sz 0 || Nat.beq sz (szOf P e)) = true := by
    rcases hsz with rfl | ⟨rfl, _⟩
    · simp
    · rfl
  cases ys with
  | nil =>
    refine ⟨v, sz, by simpa using hsz, ?_⟩
    have c1 : Nat.ble (0 + xs.length) xs.length = true := Nat.ble_eq_true_of_le (by omega)
    have c2 : Nat.ble (0 + xs.length + 0) xs.length = true := Nat.ble_eq_true_of_le (by omega)
    unfold aAppend
    simp only [he, hs, h1, h2, h3, ho, Nat.beq_refl, c1, hsz', c2, Bool.and_self, cond_true, List.length_nil, Nat.add_zero, List.append_nil]
    simp
  | cons y r =>
    refine ⟨v + 1, szOf P e, .inl rfl, ?_⟩
    rw [List.length_append]
    exact app_own he hs h1 h2 h3 ho hsz' (by simp) hb

/-- An element of an array of the call's own, read. -/
theorem load_own {P : Program} {rd : Rd} {t o v z i : Nat} {xs : List PV} {x : PV} (ho : rd o = some (.arr v z xs)) (hx : xs[i]? = some x) (hs : sub P t (cellsOf x) 0 = some x) :
    justO (aLoad P rd t (.refa o v i 0)) = some ⟨x, []⟩ := by
  simp [aLoad, ho, hx, hs, justO]

/-- What a call hands back, where nothing was handed in and nothing lives on. -/
theorem fin0 {res r1 : PV} {σ : List AObj} (h1 : freeD 0 (σ[·]?) 4 res = some r1) (h2 : idsOf r1 = []) (h3 : r1.ids (finQ 0 []) = true) (h4 : r1.ren (finR 0 []) = r1) : fin false 0 res σ = some (r1, []) := by
  unfold fin
  simp only [cond_false, h1, h2, List.take_zero, List.flatMap_nil, List.append_nil, newIds]
  unfold finW
  simp [mapO, h3, h4]
theorem free_own {rd : Rd} {k o v sz n : Nat} {xs : List PV} (ho : rd o = some (.arr v sz xs)) (hn : n = xs.length) : freeD 0 rd (k + 1) (.own o v 0 n) = some (.list false xs) := by
  subst hn
  have c1 : Nat.ble 0 o = true := Nat.ble_eq_true_of_le (by omega)
  have c2 : Nat.ble xs.length xs.length = true := Nat.ble_eq_true_of_le (by omega)
  simp [freeD, rdSl, ho, c1, c2]
theorem fin_own {o v sz n : Nat} {xs : List PV} {σ : List AObj} (ho : σ[o]? = some (.arr v sz xs)) (hn : n = xs.length) : fin false 0 (.own o v 0 n) σ = some (.list false xs, []) :=
  fin0 (free_own ho hn) rfl rfl rfl
end
end Go.Bb

namespace Go.Bb
section
variable {E : Envt}

def Cle (c c' : Callf) : Prop := ∀ f args σ r, c f args σ = some r → c' f args σ = some r

theorem acall_mono {c c' : Callf} (hc : Cle c c') {rd : Rd} {k : Nat} {f : FuncId} {args : List PV} {r : Eff} (h : acall E c rd k f args = some r) : acall E c' rd k f args = some r := by
  unfold acall at *
  cases hw : E.wr f with
  | true =>
    rw [hw] at h
    simp only [cond_true] at h ⊢
    unfold acallT at *
    split at h
    · rename_i objs ho
      cases hb : (idss (memN (closeN rd 64 (idssOf args) [])) args && objs.all (objOk (memN (closeN rd 64 (idssOf args) [])))) with
      | false => rw [hb] at h; simp at h
      | true =>
        rw [hb] at h
        simp only [cond_true] at h ⊢
        split at h
        · rename_i hx
          rw [hc _ _ _ _ hx]; exact h
        · cases h
    · cases h
  | false =>
    rw [hw] at h
    simp only [cond_false] at h ⊢
    unfold acallS at *
    split at h
    · split at h
      · rename_i hx
        simp only [hc _ _ _ _ hx]; exact h
      · cases h
    · cases h

theorem aop_mono {c c' : Callf} (hc : Cle c c') {k0 : Nat} {rd : Rd} {k : Nat} {ρ : Operand → PV} {o : Oper} {r : Eff} (h : aop E c k0 rd k ρ o = some r) : aop E c' k0 rd k ρ o = some r := by
  unfold aop at *
  cases ho : o.op with
  | call cc =>
    rw [ho] at h
    simp only at h ⊢
    cases hcc : cc.callee with
    | value f =>
      rw [hcc] at h
      simp only at h ⊢
      split at h
      · exact acall_mono hc h
      · cases h
    | builtin b => rw [hcc] at h; cases b <;> exact h
    | _ => rw [hcc] at h; exact h
  | makeFunc fn first caps => rw [ho] at h; cases fn <;> exact h
  | makeMap t n => rw [ho] at h; cases n <;> exact h
  | next it b => rw [ho] at h; cases b <;> exact h
  | _ => rw [ho] at h; exact h

theorem astep_mono {c c' : Callf} (hc : Cle c c') {k0 nt : Nat} {ops : Array Oper} {env : Slots} {σ : List AObj} {o : Oper} {r : Slots × List AObj × (List Nat × List Nat)} (h : astep E c k0 nt ops env σ o = some r) : astep E c' k0 nt ops env σ o = some r := by
  unfold astep at *
  split at h
  · split at h
    · rename_i hx
      simp only [aop_mono hc hx]; exact h
    · cases h
  · exact h
  · cases h
theorem asteps_mono {c c' : Callf} (hc : Cle c c') {k0 nt : Nat} {ops : Array Oper} : ∀ (l : List Oper) (env : Slots) (σ : List AObj) (r : Slots × List AObj × Trace), asteps E c k0 nt ops l env σ = some r → asteps E c' k0 nt ops l env σ = some r
  | [], env, σ, r, h => h
  | o :: l, env, σ, r, h => by
    unfold asteps at *
    split at h
    · rename_i hx
      rw [astep_mono hc hx]
      simp only
      split at h
      · rename_i hy
        rw [asteps_mono hc l _ _ _ hy]; exact h
      · cases h
    · cases h

theorem aloop_mono {s s' : Slots → List AObj → Out} (hs : ∀ env σ r, s env σ = some r → s' env σ = some r) : ∀ (n n' : Nat) (env : Slots) (σ : List AObj) (r : AExit × Slots × List AObj), n ≤ n' → aloop s n env σ = some r → aloop s' n' env σ = some r
  | 0, _, _, _, _, _, h => by simp [aloop] at h
  | n + 1, 0, _, _, _, hn, _ => by omega
  | n + 1, n' + 1, env, σ, r, hn, h => by
    unfold aloop at *
    cases hx : s env σ with
    | none => rw [hx] at h; cases h
    | some q =>
      obtain ⟨e, env1, σ1⟩ := q
      rw [hs _ _ _ hx]
      rw [hx] at h
      cases e with
      | normal => exact aloop_mono hs n n' env1 σ1 r (by omega) h
      | _ => exact h

theorem acode_mono {c c' : Callf} (hc : Cle c c') {ann : Nat → Option (List Nat × Option Nat)} {k0 nt n n' : Nat} (hn : n ≤ n') : ∀ (x : Code) (env : Slots) (σ : List AObj) (r : AExit × Slots × List AObj),
    acode E c ann k0 nt n x env σ = some r → acode E c' ann k0 nt n' x env σ = some r := by
  intro x
  induction x with
  | region id ops draw =>
    intro env σ r h
    simp only [acode] at h ⊢
    split at h
    · rename_i hx
      rw [asteps_mono hc _ _ _ _ hx]; exact h
    · cases h
  | seq a b iha ihb =>
    intro env σ r h
    simp only [acode] at h ⊢
    cases ha : acode E c ann k0 nt n a env σ with
    | none => rw [ha] at h; cases h
    | some q =>
      obtain ⟨e, env1, σ1⟩ := q
      rw [iha _ _ _ ha]
      rw [ha] at h
      cases e with
      | normal => exact ihb _ _ _ h
      | _ => exact h
  | cond p a b iha ihb =>
    intro env σ r h
    simp only [acode] at h ⊢
    split at h
    · rename_i t ht
      cases t with
      | true => exact iha _ _ _ h
      | false => exact ihb _ _ _ h
    · cases h
  | block id a iha =>
    intro env σ r h
    simp only [acode] at h ⊢
    cases ha : acode E c ann k0 nt n a env σ with
    | none => rw [ha] at h; cases h
    | some q =>
      obtain ⟨e, env1, σ1⟩ := q
      rw [iha _ _ _ ha]
      rw [ha] at h
      cases e with
      | exit i => exact h
      | _ => exact h
  | loop a iha =>
    intro env σ r h
    simp only [acode] at h ⊢
    exact aloop_mono (fun e s r => iha e s r) n n' env σ r hn h
  | scope a iha =>
    intro env σ r h
    simp only [acode] at h ⊢
    exact iha _ _ _ h
  | _ => intro env σ r h; first | exact h | (simp [acode] at h)

theorem pcall_mono : ∀ (n n' : Nat), n ≤ n' → Cle (pcall E n) (pcall E n')
  | 0, _, _, f, args, σ, r, h => by simp [pcall] at h
  | n + 1, 0, hn, _, _, _, _, _ => by omega
  | n + 1, n' + 1, hn, f, args, σ, r, h => by
    unfold pcall at *
    split at h
    · rename_i hpr
      exact h
    · split at h
      · cases h
      · rename_i fn hfn
        split at h
        · cases h
        · rename_i cc hcc
          cases hb : (fn.name == "runtime.NumGoroutine" || !(Nat.ble args.length fn.ntmps)) with
          | true => rw [hb] at h; simp at h
          | false =>
            rw [hb] at h
            simp only [cond_false] at h
            simp only [hb, cond_false]
            cases ha : acode E (pcall E n) (E.ann f) σ.length fn.ntmps n cc (numE 0 args) σ with
            | none => rw [ha] at h; cases h
            | some q =>
              obtain ⟨e, env1, σ1⟩ := q
              rw [acode_mono (pcall_mono n n' (by omega)) (by omega) _ _ _ _ ha]
              rw [ha] at h
              exact h

/-- A closed call, run once. -/
theorem Has.of_run {f : FuncId} {args : List PV} {σ : List AObj} {out : PV × List AObj} (n : Nat) (h : pcall E n f args σ = some out) : Has E f args σ out :=
  ⟨n, fun m hm => pcall_mono n m hm f args σ out h⟩
end

/-- A listed variable, read. -/
theorem laid_rep {P : Program} {W : World} (hl : laidOutB P = true) {ts : List TypeId} (hT : plainSet P ts = true) {n : String} {g : Nat} {t : TypeId} {cs : Array Value} {fuel : Nat} {d : DataW Unit} {p : List MemPlace} {held : Bool}
    (hg : P.globalNamed n = some g) (hm : memN ts t = true) (hv : W.var? P n = some cs) (hd : DataW.trod (fun _ => ()) P W 0 (fun _ => true) held fuel t cs.toList = some (d, p)) (hcl : 0 < P.cellsOf t) :
    Rep W (fun b => b < W.heap.size) (fun _ => False) (fun _ => none) (.pointer (some ⟨g, 0, none⟩)) (.ro false (wrapT P t (dP P t d))) := by
  have gd : Good P W (fun _ => False) (fun _ => none) t cs.toList (dP P t d) := good_of_trod hl hT fuel t _ d p hm hd
  obtain ⟨hty, hrep, hok, hfz, hlen⟩ := gd
  have hc := cellsOf_wrap (P := P) (t := t) hok hty.single
  have hne : 0 < cs.size := by have := hrep.1; rw [hlen] at this; simp at this; omega
  have hcell : ∀ i : Nat, cellAt W g i = cs[i]? := fun i => by
    rw [← cell?_cellAt]; exact World.var?_cell hg hv i
  refine .ro false _ g 0 (fun j => (cs[j]?).getD undef) (.inl ?_) ⟨frz_wrap hfz hty.single, by rw [hc]; exact hok⟩ ?_ ?_
  · have h0 := hcell 0
    unfold cellAt at h0
    rw [Array.getElem?_eq_getElem hne] at h0
    split at h0
    · rename_i hh; exact (Array.getElem?_eq_some_iff.1 hh).1
    · cases h0
  · intro j q hj
    rw [hc] at hj
    have hlt : j < cs.size := by have := (List.getElem?_eq_some_iff.1 hj).1; have := hrep.1; simp at this; omega
    rw [Nat.zero_add, hcell, Array.getElem?_eq_getElem hlt]; rfl
  · intro j q hj
    rw [hc] at hj
    have hlt : j < cs.size := by have := (List.getElem?_eq_some_iff.1 hj).1; have := hrep.1; simp at this; omega
    rw [Array.getElem?_eq_getElem hlt]
    exact hrep.2 j _ q (by simp [hlt]) hj
end Go.Bb

namespace Go.Bb
open Go.Proofs Go.Shelf Go.RowKit

def strsP : List PV → Option (List ByteArray)
  | [] => some []
  | .str s :: r => match strsP r with
    | some l => some (s :: l)
    | none => none
  | _ => none
/-- What strings.Join answers. -/
def joinP : List PV → Option (PV × List AObj)
  | [.list _ xs, .str sep] => match strsP xs with
    | some l => cond (Nat.ble l.length 1000 && Nat.ble (Go.Lib.join (l.map (·.data.toList)) sep.data.toList).length 1000000) (some (.str ⟨(Go.Lib.join (l.map (·.data.toList)) sep.data.toList).toArray⟩, [])) none
    | none => none
  | _ => none

theorem strsP_spec : ∀ (xs : List PV) (l : List ByteArray), strsP xs = some l → xs = l.map .str
  | [], l, h => by simp [strsP] at h; subst h; rfl
  | x :: r, l, h => by
    unfold strsP at h
    split at h
    · rename_i heq; cases heq
    · rename_i s r' heq
      cases heq
      split at h
      · rename_i l' hl
        simp at h; subst h
        rw [strsP_spec r l' hl]; rfl
      · cases h
    · cases h

theorem str_of {w : World} {Z Y : Nat → Prop} {L : Nat → Option Loc} {v : Value} {s : ByteArray} (h : Rep w Z Y L v (.str s)) : v = .string s := by cases h; rfl
theorem joinP_calls {P : Program} {ρ : Ren} (L : Lays.n156 P ρ) (X : Builder.Extra P ρ) {args : List PV} {res : PV} {σ' : List AObj} (h : joinP args = some (res, σ'))
    {w : World} {M0 : Nat → Nat → Prop} {Y Z : Nat → Prop} {Lo : Nat → Option Loc} {vs : Array Value} (sim : Sim w M0 0 Y Z w Lo (([] : List AObj)[·]?)) (hsz : vs.size = args.length)
    (hr : ∀ (i : Nat) (c : Value) (x : PV), vs[i]? = some c → args[i]? = some x → Rep w Z Y Lo c x) : Calls P (ρ.f 156) vs w (CallPost w M0 0 Y Z Lo res σ') := by
  unfold joinP at h
  split at h
  · rename_i y xs sep
    split at h
    · rename_i l hl
      cases hb : (Nat.ble l.length 1000 && Nat.ble (Go.Lib.join (l.map (·.data.toList)) sep.data.toList).length 1000000) with
      | false => rw [hb] at h; simp at h
      | true =>
        rw [hb] at h
        simp only [cond_true, Option.some.injEq, Prod.mk.injEq] at h
        obtain ⟨rfl, rfl⟩ := h
        rw [Bool.and_eq_true] at hb
        have hb1 := Nat.le_of_ble_eq_true hb.1
        have hb2 := Nat.le_of_ble_eq_true hb.2
        have hxs := strsP_spec xs l hl
        simp only [List.length_cons, List.length_nil] at hsz
        obtain ⟨v0, v1, rfl⟩ : ∃ v0 v1, vs = #[v0, v1] := by
          obtain ⟨l⟩ := vs
          match l, hsz with
          | [a, b], _ => exact ⟨a, b, rfl⟩
        have r0 := hr 0 v0 _ rfl rfl
        have r1 := hr 1 v1 _ rfl rfl
        have e1 : v1 = .string sep := by cases r1; rfl
        subst e1
        have hlen : xs.length = l.length := by rw [hxs]; simp
        have fin : ∀ (e : Ending) (w' : World), e = .returned (.string ⟨(Go.Lib.join (l.map (·.data.toList)) sep.data.toList).toArray⟩) → Below w.heap.size w w' →
            CallPost w M0 0 Y Z Lo (.str ⟨(Go.Lib.join (l.map (·.data.toList)) sep.data.toList).toArray⟩) [] e w' := by
          intro e w' he hw
          have heap : ∀ b, b < w.heap.size → w'.heap[b]? = w.heap[b]? := hw.block
          have hLn : ∀ o, Lo o = none := fun o => by
            cases ho : Lo o with
            | none => rfl
            | some lo => obtain ⟨obj, h2⟩ := sim.some_of_L ho; simp at h2
          have g : Gr Y w Z Lo w' Z Lo := ⟨fun b hz => heap b (hz.elim (fun hz => (sim.zl b hz).1) (fun hy => (sim.yl b hy).1)), fun _ h => h, fun o lo ho => ⟨lo, ho, .inl rfl⟩⟩
          refine ⟨_, Z, Lo, he, ⟨hw.os, hw.tape, hw.output, hw.size, fun b hb _ => heap b hb, sim.dom, fun o lo obj ho => (by rw [hLn o] at ho; cases ho), fun o lo obj ho => (by rw [hLn o] at ho; cases ho),
            fun o o' lo lo' obj obj' _ ho => (by rw [hLn o] at ho; cases ho), fun b hz => ⟨Nat.lt_of_lt_of_le (sim.zl b hz).1 hw.size, (sim.zl b hz).2⟩, sim.yl⟩, g, fun _ h => .inl h, .str _⟩
        cases r0 with
        | list _ _ A b off c sz cv hc hA hx hv hcv =>
          rw [hlen]
          cases l with
          | nil =>
            refine (Any.strings_Join_none L X A c sep w).mono fun e w' ⟨he, hw⟩ => ?_
            exact fin e w' he (hw ▸ Below.refl _ _)
          | cons s0 sr =>
            have hne : xs ≠ [] := by rw [hxs]; simp
            obtain ⟨rfl, hz⟩ := hA hne
            have hsz1 : sz = 1 := by
              have := (hx (.str s0) (by rw [hxs]; simp)).2.1
              simpa [cellsOf] using this.symm
            subst hsz1
            have hblt : b < w.heap.size := hz.elim (fun hz => (sim.zl b hz).1) (fun hy => (sim.yl b hy.2).1)
            refine (Any.strings_Join L X b off c (s0 :: sr) sep w (fun j x hj => ?_) hblt (by omega) (by rw [← hlen]; exact hc) (by omega)).mono fun e w' ⟨he, hw⟩ => fin e w' he hw
            have hj2 : xs[j]? = some (.str x) := by rw [hxs, List.getElem?_map, hj]; rfl
            have h1 := hv j (.str x) 0 (.str x) hj2 rfl
            have h2 := hcv j (.str x) 0 (.str x) hj2 rfl
            have h3 : cv j 0 = .string x := str_of h2
            rw [h3] at h1
            rw [← cell?_cellAt] at h1
            simpa using h1
    · cases h
  · cases h
end Go.Bb

