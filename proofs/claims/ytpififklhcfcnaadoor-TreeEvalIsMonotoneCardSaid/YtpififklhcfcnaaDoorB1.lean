/- Tree-shaped abstract values, and when a value of the machine represents one. The abstract store against the heap: what holds between them, and the few ways in which both go on together. The evaluator: the loaded program's code over abstract values. Small laws: types, cells, loads. The operations that read. -/
import Derived.LoopN
import Derived.Scope
import Derived.Orders
import Derived.Laws.Append
import Derived.Laws.Cells
import Derived.Laws.World
import Derived.Laws.CopyRow
import Derived.Laws.Entries
import Derived.Laws.Slices
namespace Go.Bb


inductive PV where
  | int (k : IntKind) (n : Int)
  | bool (b : Bool)
  | str (s : ByteArray)
  | nilf
  | nili
  | nilp
  | nils
  | agg (xs : List PV)
  | tup (xs : List PV)
  | list (y : Bool) (xs : List PV)
  | ro (y : Bool) (x : PV)
  | rom (y : Bool) (ks vs : List PV)
  | refv (o off : Nat)
  | refa (o ver i off : Nat)
  | own (o ver i n : Nat)
  | map (o : Nat)
  | iter (o : Nat)
  | clo (f : FuncId) (caps : List PV)
  | dead
  deriving Inhabited

/-- The cells of a value: a struct's or an array's own, flat. -/
def cellsOf : PV → List PV
  | .agg xs => xs
  | x => [x]

def okCell : PV → Bool
  | .agg _ => false
  | .tup _ => false
  | .dead => false
  | _ => true
def okCells : List PV → Bool
  | [] => true
  | x :: r => okCell x && okCells r

mutual
/-- Nothing in it hangs on the abstract store; with 't' snapshots of what others own are let in. -/
def PV.frz (t : Bool) : PV → Bool
  | .int .. | .bool .. | .str .. | .nilf | .nili | .nilp | .nils => true
  | .agg xs | .tup xs => frzs t xs
  | .list y _ | .ro y _ | .rom y _ _ => t || !y
  | .clo _ caps => frzs t caps
  | _ => false
def frzs (t : Bool) : List PV → Bool
  | [] => true
  | x :: r => x.frz t && frzs t r
end

mutual
/-- Every handle in it passes the test. -/
def PV.ids (q : Nat → Bool) : PV → Bool
  | .agg xs | .tup xs => idss q xs
  | .clo _ caps => idss q caps
  | .refv o _ | .refa o _ _ _ | .own o _ _ _ | .map o | .iter o => q o
  | _ => true
def idss (q : Nat → Bool) : List PV → Bool
  | [] => true
  | x :: r => x.ids q && idss q r
end

mutual
/-- No snapshot of what others own on its face. -/
def PV.unt : PV → Bool
  | .agg xs | .tup xs => unts xs
  | .clo _ caps => unts caps
  | .list y _ | .ro y _ | .rom y _ _ => !y
  | _ => true
def unts : List PV → Bool
  | [] => true
  | x :: r => x.unt && unts r
end

mutual
def PV.ren (f : Nat → Nat) : PV → PV
  | .agg xs => .agg (rens f xs)
  | .tup xs => .tup (rens f xs)
  | .clo g caps => .clo g (rens f caps)
  | .refv o off => .refv (f o) off
  | .refa o ver i off => .refa (f o) ver i off
  | .own o ver i n => .own (f o) ver i n
  | .map o => .map (f o)
  | .iter o => .iter (f o)
  | x => x
def rens (f : Nat → Nat) : List PV → List PV
  | [] => []
  | x :: r => x.ren f :: rens f r
end

structure Loc where
  block : Nat
  base : Nat
  sz : Nat
  cap : Nat
  ver : Nat
  fix : Bool
  deriving Inhabited

def zone (Z Y : Nat → Prop) (y : Bool) (b : Nat) : Prop := Z b ∨ (y = true ∧ Y b)

def cellAt (w : World) (b off : Nat) : Option Value :=
  match w.heap[b]? with
  | some (.cells C _ _) => C[off]?
  | _ => none

theorem cell?_cellAt (w : World) (b off : Nat) : w.cell? ⟨b, off, none⟩ = cellAt w b off := by
  unfold World.cell? cellAt
  cases w.heap[b]? with
  | none => rfl
  | some x => cases x <;> simp

inductive Rep (w : World) (Z Y : Nat → Prop) (L : Nat → Option Loc) : Value → PV → Prop
  | int (k : IntKind) (n : Int) : Rep w Z Y L (.int k n) (.int k n)
  | bool (b : Bool) : Rep w Z Y L (.bool b) (.bool b)
  | str (s : ByteArray) : Rep w Z Y L (.string s) (.str s)
  | nilf : Rep w Z Y L .nilFunc .nilf
  | nili : Rep w Z Y L .nilIface .nili
  | nilp : Rep w Z Y L (.pointer none) .nilp
  | nils (A : Option Addr) : Rep w Z Y L (.slice A 0 0) .nils
  | agg (cs : Array Value) (xs : List PV) (hs : cs.size = xs.length)
      (hc : ∀ (i : Nat) (c : Value) (x : PV), cs[i]? = some c → xs[i]? = some x → Rep w Z Y L c x) : Rep w Z Y L (.agg cs) (.agg xs)
  | tup (cs : Array Value) (xs : List PV) (hs : cs.size = xs.length)
      (hc : ∀ (i : Nat) (c : Value) (x : PV), cs[i]? = some c → xs[i]? = some x → Rep w Z Y L c x) : Rep w Z Y L (.tuple cs) (.tup xs)
  | list (y : Bool) (xs : List PV) (A : Option Addr) (b off c sz : Nat) (cv : Nat → Nat → Value) (hl : xs.length ≤ c)
      (hA : xs ≠ [] → A = some ⟨b, off, none⟩ ∧ zone Z Y y b)
      (hx : ∀ x ∈ xs, x.frz y = true ∧ (cellsOf x).length = sz ∧ okCells (cellsOf x) = true)
      (hv : ∀ (i : Nat) (x : PV) (j : Nat) (p : PV), xs[i]? = some x → (cellsOf x)[j]? = some p → cellAt w b (off + i * sz + j) = some (cv i j))
      (hc : ∀ (i : Nat) (x : PV) (j : Nat) (p : PV), xs[i]? = some x → (cellsOf x)[j]? = some p → Rep w Z Y L (cv i j) p) :
      Rep w Z Y L (.slice A xs.length c) (.list y xs)
  | ro (y : Bool) (x : PV) (b off : Nat) (cv : Nat → Value) (hz : zone Z Y y b) (hx : x.frz y = true ∧ okCells (cellsOf x) = true)
      (hv : ∀ (j : Nat) (p : PV), (cellsOf x)[j]? = some p → cellAt w b (off + j) = some (cv j))
      (hc : ∀ (j : Nat) (p : PV), (cellsOf x)[j]? = some p → Rep w Z Y L (cv j) p) : Rep w Z Y L (.pointer (some ⟨b, off, none⟩)) (.ro y x)
  | rom (y : Bool) (ks vs : List PV) (r : Nat) (es : Array MapEntry) (clock : Nat) (hz : zone Z Y y r) (hr : w.heap[r]? = some (.map es clock))
      (hk : es.size = ks.length) (hn : es.size = vs.length) (hf : ∀ x ∈ vs, x.frz y = true) (hkf : ∀ x ∈ ks, x.frz y = true)
      (h1 : ∀ (i : Nat) (e : MapEntry) (k : PV), es[i]? = some e → ks[i]? = some k → Rep w Z Y L e.key k)
      (h2 : ∀ (i : Nat) (e : MapEntry) (x : PV), es[i]? = some e → vs[i]? = some x → Rep w Z Y L e.val x) : Rep w Z Y L (.map (some r)) (.rom y ks vs)
  | refv (o off : Nat) (loc : Loc) (hl : L o = some loc) (hf : loc.fix = true) : Rep w Z Y L (.pointer (some ⟨loc.block, loc.base + off, none⟩)) (.refv o off)
  | refa (o ver i off : Nat) (loc : Loc) (b a : Nat) (hl : L o = some loc) (hf : loc.fix = false) (hv : ver ≤ loc.ver)
      (hA : loc.ver = ver → b = loc.block ∧ a = loc.base + i * loc.sz + off) : Rep w Z Y L (.pointer (some ⟨b, a, none⟩)) (.refa o ver i off)
  | own (o ver i n : Nat) (loc : Loc) (A : Option Addr) (m c : Nat) (hl : L o = some loc) (hf : loc.fix = false) (hv : ver ≤ loc.ver)
      (hA : loc.ver = ver → m = n ∧ i + n ≤ loc.cap ∧ c = loc.cap - i ∧ (i < loc.cap → A = some ⟨loc.block, loc.base + i * loc.sz, none⟩)) :
      Rep w Z Y L (.slice A m c) (.own o ver i n)
  | map (o : Nat) (loc : Loc) (hl : L o = some loc) (hf : loc.fix = true) : Rep w Z Y L (.map (some loc.block)) (.map o)
  | iter (o : Nat) (loc : Loc) (hl : L o = some loc) (hf : loc.fix = true) : Rep w Z Y L (.pointer (some ⟨loc.block, 0, none⟩)) (.iter o)
  | clo (f : FuncId) (cs : Array Value) (caps : List PV) (hs : cs.size = caps.length)
      (hc : ∀ (i : Nat) (c : Value) (x : PV), cs[i]? = some c → caps[i]? = some x → Rep w Z Y L c x) : Rep w Z Y L (.func (.func f) #[] cs) (.clo f caps)
  | dead (v : Value) : Rep w Z Y L v .dead

/-- From one state to a later one: what is at rest stays, locations stay or are left behind for good. -/
structure Gr (Y : Nat → Prop) (w : World) (Z : Nat → Prop) (L : Nat → Option Loc) (w' : World) (Z' : Nat → Prop) (L' : Nat → Option Loc) : Prop where
  heap : ∀ b, (Z b ∨ Y b) → w'.heap[b]? = w.heap[b]?
  zz : ∀ b, Z b → Z' b
  ll : ∀ o loc, L o = some loc → ∃ loc', L' o = some loc' ∧ (loc' = loc ∨ (loc.fix = false ∧ loc'.fix = false ∧ loc.ver < loc'.ver))

theorem Gr.refl (Y : Nat → Prop) (w : World) (Z : Nat → Prop) (L : Nat → Option Loc) : Gr Y w Z L w Z L := ⟨fun _ _ => rfl, fun _ h => h, fun _ loc h => ⟨loc, h, .inl rfl⟩⟩

theorem Gr.trans {Y : Nat → Prop} {w w' w'' : World} {Z Z' Z'' : Nat → Prop} {L L' L'' : Nat → Option Loc} (h : Gr Y w Z L w' Z' L') (g : Gr Y w' Z' L' w'' Z'' L'') : Gr Y w Z L w'' Z'' L'' := by
  refine ⟨fun b hb => (g.heap b (hb.imp_left (h.zz b))).trans (h.heap b hb), fun b hb => g.zz b (h.zz b hb), fun o loc hl => ?_⟩
  obtain ⟨l1, h1, e1⟩ := h.ll o loc hl
  obtain ⟨l2, h2, e2⟩ := g.ll o l1 h1
  refine ⟨l2, h2, ?_⟩
  rcases e1 with rfl | ⟨a1, a2, a3⟩
  · exact e2
  · rcases e2 with rfl | ⟨b1, b2, b3⟩
    · exact .inr ⟨a1, a2, a3⟩
    · exact .inr ⟨a1, b2, by omega⟩

theorem Gr.cell {Y : Nat → Prop} {w w' : World} {Z Z' : Nat → Prop} {L L' : Nat → Option Loc} (h : Gr Y w Z L w' Z' L') {y : Bool} {b off : Nat} {v : Value}
    (hz : zone Z Y y b) (hv : cellAt w b off = some v) : cellAt w' b off = some v := by
  have : w'.heap[b]? = w.heap[b]? := h.heap b (hz.imp_right (·.2))
  unfold cellAt at *
  rw [this]; exact hv

theorem zone.mono {Z Z' Y : Nat → Prop} {y : Bool} {b : Nat} (h : ∀ b, Z b → Z' b) (hz : zone Z Y y b) : zone Z' Y y b := hz.imp_left (h b)

theorem Rep.mono {Y : Nat → Prop} {w w' : World} {Z Z' : Nat → Prop} {L L' : Nat → Option Loc} (g : Gr Y w Z L w' Z' L') {v : Value} {p : PV} (h : Rep w Z Y L v p) : Rep w' Z' Y L' v p := by
  induction h with
  | int k n => exact .int k n
  | bool b => exact .bool b
  | str s => exact .str s
  | nilf => exact .nilf
  | nili => exact .nili
  | nilp => exact .nilp
  | nils A => exact .nils A
  | agg cs xs hs hc ih => exact .agg cs xs hs ih
  | tup cs xs hs hc ih => exact .tup cs xs hs ih
  | list y xs A b off c sz cv hl hA hx hv hc ih =>
    refine .list y xs A b off c sz cv hl (fun hn => ⟨(hA hn).1, (hA hn).2.mono g.zz⟩) hx (fun i x j p h1 h2 => ?_) ih
    exact g.cell (hA (by intro h0; subst h0; simp at h1)).2 (hv i x j p h1 h2)
  | ro y x b off cv hz hx hv hc ih => exact .ro y x b off cv (hz.mono g.zz) hx (fun j p h => g.cell hz (hv j p h)) ih
  | rom y ks vs r es clock hz hr hk hn hf hkf h1 h2 ih1 ih2 =>
    exact .rom y ks vs r es clock (hz.mono g.zz) ((g.heap r (hz.imp_right (·.2))).trans hr) hk hn hf hkf ih1 ih2
  | refv o off loc hl hf =>
    obtain ⟨l, h1, h2⟩ := g.ll o loc hl
    rcases h2 with rfl | ⟨a, _, _⟩
    · exact .refv o off l h1 hf
    · rw [hf] at a; cases a
  | refa o ver i off loc b a hl hf hv hA =>
    obtain ⟨l, h1, h2⟩ := g.ll o loc hl
    rcases h2 with rfl | ⟨_, h3, h4⟩
    · exact .refa o ver i off l b a h1 hf hv hA
    · exact .refa o ver i off l b a h1 h3 (by omega) (fun h => by omega)
  | own o ver i n loc A m c hl hf hv hA =>
    obtain ⟨l, h1, h2⟩ := g.ll o loc hl
    rcases h2 with rfl | ⟨a, b, d⟩
    · exact .own o ver i n l A m c h1 hf hv hA
    · exact .own o ver i n l A m c h1 b (by omega) (fun h => by omega)
  | map o loc hl hf =>
    obtain ⟨l, h1, h2⟩ := g.ll o loc hl
    rcases h2 with rfl | ⟨a, _, _⟩
    · exact .map o l h1 hf
    · rw [hf] at a; cases a
  | iter o loc hl hf =>
    obtain ⟨l, h1, h2⟩ := g.ll o loc hl
    rcases h2 with rfl | ⟨a, _, _⟩
    · exact .iter o l h1 hf
    · rw [hf] at a; cases a
  | clo f cs caps hs hc ih => exact .clo f cs caps hs ih
  | dead v => exact .dead v

theorem frzs_get {t : Bool} : ∀ {xs : List PV} {i : Nat} {x : PV}, frzs t xs = true → xs[i]? = some x → x.frz t = true
  | [], i, x, _, h => by simp at h
  | y :: r, 0, x, hf, h => by simp [frzs] at hf; simp at h; subst h; exact hf.1
  | y :: r, i + 1, x, hf, h => by simp [frzs] at hf; simp at h; exact frzs_get hf.2 h

theorem frzs_all {t : Bool} : ∀ {xs : List PV}, frzs t xs = true ↔ ∀ x ∈ xs, x.frz t = true
  | [] => by simp [frzs]
  | y :: r => by simp [frzs, frzs_all (xs := r)]

theorem frz_cells {t : Bool} {x : PV} (h : x.frz t = true) : ∀ p ∈ cellsOf x, p.frz t = true := by
  cases x <;> simp_all [cellsOf, PV.frz, frzs_all]

mutual
theorem frz_up : ∀ (x : PV), x.frz false = true → x.frz true = true
  | .agg xs, h => by simp only [PV.frz] at h ⊢; exact frzs_up xs h
  | .tup xs, h => by simp only [PV.frz] at h ⊢; exact frzs_up xs h
  | .clo _ xs, h => by simp only [PV.frz] at h ⊢; exact frzs_up xs h
  | .int .., _ | .bool .., _ | .str .., _ | .nilf, _ | .nili, _ | .nilp, _ | .nils, _ => rfl
  | .list .., _ | .ro .., _ | .rom .., _ => rfl
  | .refv .., h | .refa .., h | .own .., h | .map .., h | .iter .., h | .dead, h => by simp [PV.frz] at h
theorem frzs_up : ∀ (xs : List PV), frzs false xs = true → frzs true xs = true
  | [], _ => rfl
  | x :: r, h => by
    simp only [frzs, Bool.and_eq_true] at h ⊢
    exact ⟨frz_up x h.1, frzs_up r h.2⟩
end

/-- What hangs on no store is so in any: with 't', the snapshots' zone must be there. -/
theorem Rep.frozen {w : World} {Z Y Y' : Nat → Prop} {L L' : Nat → Option Loc} {t : Bool} (hY : t = true → ∀ b, Y b → Y' b) {v : Value} {p : PV} (h : Rep w Z Y L v p) :
    p.frz t = true → Rep w Z Y' L' v p := by
  have zn : ∀ {y : Bool} {b : Nat}, (t || !y) = true → zone Z Y y b → zone Z Y' y b := by
    intro y b hy hz
    rcases hz with hz | ⟨h1, h2⟩
    · exact .inl hz
    · exact .inr ⟨h1, hY (by simp [h1] at hy; exact hy) b h2⟩
  have up : ∀ {y : Bool} {x : PV}, (t || !y) = true → x.frz y = true → x.frz t = true := by
    intro y x hy hx
    cases y with
    | true => simp at hy; rw [hy]; exact hx
    | false =>
      cases t with
      | false => exact hx
      | true => exact frz_up x hx
  induction h with
  | int k n => intro _; exact .int k n
  | bool b => intro _; exact .bool b
  | str s => intro _; exact .str s
  | nilf => intro _; exact .nilf
  | nili => intro _; exact .nili
  | nilp => intro _; exact .nilp
  | nils A => intro _; exact .nils A
  | agg cs xs hs hc ih => intro hf; exact .agg cs xs hs fun i c x h1 h2 => ih i c x h1 h2 (frzs_get hf h2)
  | tup cs xs hs hc ih => intro hf; exact .tup cs xs hs fun i c x h1 h2 => ih i c x h1 h2 (frzs_get hf h2)
  | list y xs A b off c sz cv hl hA hx hv hc ih =>
    intro hf
    refine .list y xs A b off c sz cv hl (fun hn => ⟨(hA hn).1, zn hf (hA hn).2⟩) hx hv fun i x j p h1 h2 => ih i x j p h1 h2 ?_
    exact up hf (frz_cells (hx x (List.mem_of_getElem? h1)).1 p (List.mem_of_getElem? h2))
  | ro y x b off cv hz hx hv hc ih =>
    intro hf
    exact .ro y x b off cv (zn hf hz) hx hv fun j p h => ih j p h (up hf (frz_cells hx.1 p (List.mem_of_getElem? h)))
  | rom y ks vs r es clock hz hr hk hn hf' hkf h1 h2 ih1 ih2 =>
    intro hf
    exact .rom y ks vs r es clock (zn hf hz) hr hk hn hf' hkf (fun i e k a b => ih1 i e k a b (up hf (hkf k (List.mem_of_getElem? b)))) (fun i e x a b => ih2 i e x a b (up hf (hf' x (List.mem_of_getElem? b))))
  | refv o off loc hl hf => intro hf; simp [PV.frz] at hf
  | refa o ver i off loc b a hl hf hv hA => intro hf; simp [PV.frz] at hf
  | own o ver i n loc A m c hl hf hv hA => intro hf; simp [PV.frz] at hf
  | map o loc hl hf => intro hf; simp [PV.frz] at hf
  | iter o loc hl hf => intro hf; simp [PV.frz] at hf
  | clo f cs caps hs hc ih => intro hf; exact .clo f cs caps hs fun i c x h1 h2 => ih i c x h1 h2 (frzs_get hf h2)
  | dead v => intro hf; simp [PV.frz] at hf
end Go.Bb

namespace Go.Bb


inductive AObj where
  | var (x : PV)
  | arr (ver sz : Nat) (xs : List PV)
  | map (ks vs : List PV)
  | iter (s : ByteArray) (pos : Nat)
  deriving Inhabited

def ObjRep (w : World) (Z Y : Nat → Prop) (L : Nat → Option Loc) (loc : Loc) : AObj → Prop
  | .var x => loc.fix = true ∧ okCells (cellsOf x) = true ∧ ∃ C T, w.heap[loc.block]? = some (.cells C T (0, 0)) ∧
      ∀ (j : Nat) (p : PV), (cellsOf x)[j]? = some p → ∃ c, C[loc.base + j]? = some c ∧ Rep w Z Y L c p
  | .arr ver sz xs => loc.fix = false ∧ loc.ver = ver ∧ (0 < loc.cap → loc.sz = sz ∧ 0 < sz) ∧ xs.length ≤ loc.cap ∧ (∀ x ∈ xs, x.frz false = true ∧ (cellsOf x).length = loc.sz ∧ okCells (cellsOf x) = true) ∧
      (0 < loc.cap → ∃ C T, w.heap[loc.block]? = some (.cells C T (0, 0)) ∧ loc.base + loc.cap * loc.sz ≤ C.size ∧
        ∀ (i : Nat) (x : PV) (j : Nat) (p : PV), xs[i]? = some x → (cellsOf x)[j]? = some p → ∃ c, C[loc.base + i * loc.sz + j]? = some c ∧ Rep w Z Y L c p)
  | .map ks vs => loc.fix = true ∧ ∃ es clock, w.heap[loc.block]? = some (.map es clock) ∧ es.size = ks.length ∧ es.size = vs.length ∧
      (∀ x ∈ vs, x.frz false = true) ∧ (∀ x ∈ ks, x.frz false = true) ∧
      (∀ (i : Nat) (e : MapEntry) (k : PV), es[i]? = some e → ks[i]? = some k → Rep w Z Y L e.key k) ∧
      (∀ (i : Nat) (e : MapEntry) (x : PV), es[i]? = some e → vs[i]? = some x → Rep w Z Y L e.val x)
  | .iter s pos => loc.fix = true ∧ w.heap[loc.block]? = some (.stringIter s pos)

def live (loc : Loc) : AObj → Prop
  | .arr _ _ _ => 0 < loc.cap
  | _ => True

theorem ObjRep.mono {Y : Nat → Prop} {w w' : World} {Z Z' : Nat → Prop} {L L' : Nat → Option Loc} (g : Gr Y w Z L w' Z' L') {loc : Loc} {obj : AObj}
    (hb : live loc obj → w'.heap[loc.block]? = w.heap[loc.block]?) (h : ObjRep w Z Y L loc obj) : ObjRep w' Z' Y L' loc obj := by
  cases obj with
  | var x =>
    obtain ⟨h0, h0', C, T, h1, h2⟩ := h
    exact ⟨h0, h0', C, T, (hb trivial).trans h1, fun j p hj => let ⟨c, a, b⟩ := h2 j p hj; ⟨c, a, b.mono g⟩⟩
  | arr ver sz xs =>
    obtain ⟨h0, h1, hsz, h2, h3, h4⟩ := h
    refine ⟨h0, h1, hsz, h2, h3, fun hc => ?_⟩
    obtain ⟨C, T, a, b, d⟩ := h4 hc
    exact ⟨C, T, (hb hc).trans a, b, fun i x j p hi hj => let ⟨c, u, v⟩ := d i x j p hi hj; ⟨c, u, v.mono g⟩⟩
  | map ks vs =>
    obtain ⟨h0, es, clock, h1, h2, h3, h4, h5, h6, h7⟩ := h
    exact ⟨h0, es, clock, (hb trivial).trans h1, h2, h3, h4, h5, fun i e k a b => (h6 i e k a b).mono g, fun i e k a b => (h7 i e k a b).mono g⟩
  | iter s pos => exact ⟨h.1, (hb trivial).trans h.2⟩

structure Sim (w0 : World) (M0 : Nat → Nat → Prop) (k0 : Nat) (Y Z : Nat → Prop) (w : World) (L : Nat → Option Loc) (S : Nat → Option AObj) : Prop where
  os : w.os = w0.os
  tape : w.tape = w0.tape
  output : w.output = w0.output
  size : w0.heap.size ≤ w.heap.size
  kept : ∀ b, b < w0.heap.size → (∀ o, ¬ M0 o b) → w.heap[b]? = w0.heap[b]?
  dom : ∀ o, (L o).isSome = (S o).isSome
  objs : ∀ o loc obj, L o = some loc → S o = some obj → ObjRep w Z Y L loc obj
  blk : ∀ o loc obj, L o = some loc → S o = some obj → live loc obj →
    loc.block < w.heap.size ∧ ¬ Z loc.block ∧ ¬ Y loc.block ∧ (w0.heap.size ≤ loc.block ∨ (o < k0 ∧ M0 o loc.block))
  sep : ∀ o o' loc loc' obj obj', o ≠ o' → L o = some loc → L o' = some loc' → S o = some obj → S o' = some obj' → live loc obj → live loc' obj' → loc.block ≠ loc'.block
  zl : ∀ b, Z b → b < w.heap.size ∧ (b < w0.heap.size → ∀ o, ¬ M0 o b)
  yl : ∀ b, Y b → b < w0.heap.size ∧ ∀ o, ¬ M0 o b

def upd {α : Type} (f : Nat → Option α) (o : Nat) (x : α) : Nat → Option α := fun i => if i = o then some x else f i
theorem upd_same {α : Type} (f : Nat → Option α) (o : Nat) (x : α) : upd f o x o = some x := if_pos rfl
theorem upd_ne {α : Type} (f : Nat → Option α) {o i : Nat} (x : α) (h : i ≠ o) : upd f o x i = f i := if_neg h
theorem upd_self {α : Type} {f : Nat → Option α} {o : Nat} {x : α} (h : f o = some x) : upd f o x = f := by
  funext i
  by_cases hi : i = o
  · subst hi; rw [upd_same, h]
  · rw [upd_ne _ _ hi]
theorem upd_cases {α : Type} {f : Nat → Option α} {o i : Nat} {x y : α} (h : upd f o x i = some y) : (i = o ∧ y = x) ∨ (i ≠ o ∧ f i = some y) := by
  by_cases hi : i = o
  · subst hi; rw [upd_same] at h; exact .inl ⟨rfl, (Option.some.inj h).symm⟩
  · rw [upd_ne _ _ hi] at h; exact .inr ⟨hi, h⟩

section
variable {w0 : World} {M0 : Nat → Nat → Prop} {k0 : Nat} {Y Z : Nat → Prop} {w w' : World} {L : Nat → Option Loc} {S : Nat → Option AObj}

theorem Sim.some_of_L (h : Sim w0 M0 k0 Y Z w L S) {o : Nat} {loc : Loc} (hl : L o = some loc) : ∃ obj, S o = some obj := by
  have := h.dom o; rw [hl] at this; exact Option.isSome_iff_exists.1 this.symm
theorem Sim.some_of_S (h : Sim w0 M0 k0 Y Z w L S) {o : Nat} {obj : AObj} (hs : S o = some obj) : ∃ loc, L o = some loc := by
  have := h.dom o; rw [hs] at this; exact Option.isSome_iff_exists.1 this

/-- A new world of the same blocks (a draw). -/
theorem Sim.same (h : Sim w0 M0 k0 Y Z w L S) (h1 : w'.heap = w.heap) (h2 : w'.os = w.os) (h3 : w'.tape = w.tape) (h4 : w'.output = w.output) :
    Sim w0 M0 k0 Y Z w' L S ∧ Gr Y w Z L w' Z L := by
  have g : Gr Y w Z L w' Z L := ⟨fun b _ => by rw [h1], fun _ h => h, fun _ loc h => ⟨loc, h, .inl rfl⟩⟩
  refine ⟨⟨h2.trans h.os, h3.trans h.tape, h4.trans h.output, by rw [h1]; exact h.size, fun b hb hm => by rw [h1]; exact h.kept b hb hm, h.dom, ?_, ?_, h.sep, ?_, h.yl⟩, g⟩
  · exact fun o loc obj a b => (h.objs o loc obj a b).mono g (fun _ => by rw [h1])
  · rw [h1]; exact h.blk
  · rw [h1]; exact h.zl

/-- One object is written in place. -/
theorem Sim.put (h : Sim w0 M0 k0 Y Z w L S) {o : Nat} {loc : Loc} {obj obj' : AObj} (hl : L o = some loc) (hs : S o = some obj) (hv : live loc obj)
    (h1 : w'.heap.size = w.heap.size) (hb : ∀ b, b ≠ loc.block → w'.heap[b]? = w.heap[b]?) (h2 : w'.os = w.os) (h3 : w'.tape = w.tape) (h4 : w'.output = w.output)
    (hn : Gr Y w Z L w' Z L → ObjRep w' Z Y L loc obj') : Sim w0 M0 k0 Y Z w' L (upd S o obj') ∧ Gr Y w Z L w' Z L := by
  obtain ⟨b1, b2, b3, b4⟩ := h.blk o loc obj hl hs hv
  have g : Gr Y w Z L w' Z L := ⟨fun b hz => hb b (by rintro rfl; rcases hz with hz | hz <;> contradiction), fun _ h => h, fun _ loc h => ⟨loc, h, .inl rfl⟩⟩
  refine ⟨⟨h2.trans h.os, h3.trans h.tape, h4.trans h.output, by rw [h1]; exact h.size, fun b hb0 hm => ?_, ?_, ?_, ?_, ?_, by rw [h1]; exact h.zl, h.yl⟩, g⟩
  · rw [hb b (by rintro rfl; exact b4.elim (fun b4 => by omega) (fun b4 => hm _ b4.2))]
    exact h.kept b hb0 hm
  · intro i
    by_cases hi : i = o
    · subst hi; rw [upd_same, hl]; rfl
    · rw [upd_ne _ _ hi]; exact h.dom i
  · intro i li oi a b
    rcases upd_cases b with ⟨rfl, rfl⟩ | ⟨hi, b⟩
    · rw [hl] at a; injection a with a; subst a; exact hn g
    · refine (h.objs i li oi a b).mono g fun hv' => hb _ ?_
      exact h.sep i o li loc oi obj hi a hl b hs hv' hv
  · intro i li oi a b c
    rcases upd_cases b with ⟨rfl, rfl⟩ | ⟨hi, b⟩
    · rw [hl] at a; injection a with a; subst a; rw [h1]; exact ⟨b1, b2, b3, b4⟩
    · rw [h1]; exact h.blk i li oi a b c
  · intro i j li lj oi oj hij a b c d e f
    rcases upd_cases c with ⟨rfl, rfl⟩ | ⟨hi, c⟩
    · rw [hl] at a; injection a with a; subst a
      rcases upd_cases d with ⟨rfl, rfl⟩ | ⟨hj, d⟩
      · exact absurd rfl hij
      · exact h.sep i j loc lj obj oj hij hl b hs d hv f
    · rcases upd_cases d with ⟨rfl, rfl⟩ | ⟨hj, d⟩
      · rw [hl] at b; injection b with b; subst b
        exact h.sep i j li loc oi obj hij a hl (by first | exact c | (rw [upd_ne _ _ hi] at c; exact c)) hs e hv
      · exact h.sep i j li lj oi oj hij a b c d e f

/-- One array is written in its block, and is told anew from there. -/
theorem Sim.move (h : Sim w0 M0 k0 Y Z w L S) {o : Nat} {loc loc' : Loc} {obj obj' : AObj} (hl : L o = some loc) (hs : S o = some obj) (hv : live loc obj)
    (hf : loc.fix = false) (hf' : loc'.fix = false) (hver : loc.ver < loc'.ver) (hbl : loc'.block = loc.block)
    (h1 : w'.heap.size = w.heap.size) (hb : ∀ b, b ≠ loc.block → w'.heap[b]? = w.heap[b]?) (h2 : w'.os = w.os) (h3 : w'.tape = w.tape) (h4 : w'.output = w.output)
    (hn : Gr Y w Z L w' Z (upd L o loc') → ObjRep w' Z Y (upd L o loc') loc' obj') : Sim w0 M0 k0 Y Z w' (upd L o loc') (upd S o obj') ∧ Gr Y w Z L w' Z (upd L o loc') := by
  obtain ⟨b1, b2, b3, b4⟩ := h.blk o loc obj hl hs hv
  have g : Gr Y w Z L w' Z (upd L o loc') := by
    refine ⟨fun b hz => hb b (by rintro rfl; rcases hz with hz | hz <;> contradiction), fun _ h => h, fun i l hi => ?_⟩
    by_cases hio : i = o
    · subst hio; rw [hl] at hi; injection hi with hi; subst hi
      exact ⟨loc', upd_same .., .inr ⟨hf, hf', hver⟩⟩
    · exact ⟨l, by rw [upd_ne _ _ hio]; exact hi, .inl rfl⟩
  refine ⟨⟨h2.trans h.os, h3.trans h.tape, h4.trans h.output, by rw [h1]; exact h.size, fun b hb0 hm => ?_, ?_, ?_, ?_, ?_, by rw [h1]; exact h.zl, h.yl⟩, g⟩
  · rw [hb b (by rintro rfl; exact b4.elim (fun b4 => by omega) (fun b4 => hm _ b4.2))]
    exact h.kept b hb0 hm
  · intro i
    by_cases hi : i = o
    · subst hi; rw [upd_same, upd_same]; rfl
    · rw [upd_ne _ _ hi, upd_ne _ _ hi]; exact h.dom i
  · intro i li oi a b
    rcases upd_cases a with ⟨rfl, rfl⟩ | ⟨hi, a⟩
    · rw [upd_same] at b; injection b with b; subst b; exact hn g
    · rw [upd_ne _ _ hi] at b
      refine (h.objs i li oi a b).mono g fun hv' => hb _ ?_
      exact h.sep i o li loc oi obj hi a hl b hs hv' hv
  · intro i li oi a b c
    rcases upd_cases a with ⟨rfl, rfl⟩ | ⟨hi, a⟩
    · rw [h1, hbl]; exact ⟨b1, b2, b3, b4⟩
    · rw [upd_ne _ _ hi] at b
      rw [h1]; exact h.blk i li oi a b c
  · intro i j li lj oi oj hij a b c d e f
    rcases upd_cases a with ⟨rfl, rfl⟩ | ⟨hi, a2⟩
    · rcases upd_cases b with ⟨rfl, rfl⟩ | ⟨hj, b2⟩
      · exact absurd rfl hij
      · rw [upd_ne _ _ hj] at d
        rw [hbl]; exact h.sep i j loc lj obj oj hij hl b2 hs d hv f
    · rw [upd_ne _ _ hi] at c
      rcases upd_cases b with ⟨rfl, rfl⟩ | ⟨hj, b2⟩
      · rw [hbl]; exact h.sep i j li loc oi obj hij a2 hl c hs e hv
      · rw [upd_ne _ _ hj] at d
        exact h.sep i j li lj oi oj hij a2 b2 c d e f

/-- A new block, an object of its own or one that moves there. -/
theorem Sim.new (h : Sim w0 M0 k0 Y Z w L S) {o : Nat} {loc : Loc} {obj' : AObj} {ob : Obj}
    (ho : L o = none ∨ ∃ l, L o = some l ∧ l.fix = false ∧ loc.fix = false ∧ l.ver < loc.ver)
    (hlb : loc.block = w.heap.size) (hn : Gr Y w Z L (w.alloc ob) Z (upd L o loc) → ObjRep (w.alloc ob) Z Y (upd L o loc) loc obj') :
    Sim w0 M0 k0 Y Z (w.alloc ob) (upd L o loc) (upd S o obj') ∧ Gr Y w Z L (w.alloc ob) Z (upd L o loc) := by
  have heap : ∀ b, b < w.heap.size → (w.alloc ob).heap[b]? = w.heap[b]? := fun b hb => by
    show (w.heap.push ob)[b]? = _
    rw [Array.getElem?_push, if_neg (by omega)]
  have hsz : (w.alloc ob).heap.size = w.heap.size + 1 := by simp
  have ylt : ∀ b, Y b → b < w.heap.size := fun b hb => Nat.lt_of_lt_of_le (h.yl b hb).1 h.size
  have g : Gr Y w Z L (w.alloc ob) Z (upd L o loc) := by
    refine ⟨fun b hz => heap b (hz.elim (fun hz => (h.zl b hz).1) (ylt b)), fun _ h => h, fun i l hi => ?_⟩
    by_cases hio : i = o
    · subst hio
      refine ⟨loc, upd_same .., .inr ?_⟩
      rcases ho with ho | ⟨l', e1, e2, e3, e4⟩
      · rw [ho] at hi; cases hi
      · rw [e1] at hi; injection hi with hi; subst hi; exact ⟨e2, e3, e4⟩
    · exact ⟨l, by rw [upd_ne _ _ hio]; exact hi, .inl rfl⟩
  refine ⟨⟨h.os, h.tape, h.output, by rw [hsz]; have := h.size; omega, fun b hb hm => (heap b (by have := h.size; omega)).trans (h.kept b hb hm), ?_, ?_, ?_, ?_, ?_, h.yl⟩, g⟩
  · intro i
    by_cases hi : i = o
    · subst hi; rw [upd_same, upd_same]; rfl
    · rw [upd_ne _ _ hi, upd_ne _ _ hi]; exact h.dom i
  · intro i li oi a b
    rcases upd_cases a with ⟨rfl, rfl⟩ | ⟨hi, a⟩
    · rw [upd_same] at b; injection b with b; subst b; exact hn g
    · rw [upd_ne _ _ hi] at b
      exact (h.objs i li oi a b).mono g fun hv => heap _ (h.blk i li oi a b hv).1
  · intro i li oi a b c
    rcases upd_cases a with ⟨rfl, rfl⟩ | ⟨hi, a⟩
    · have h5 : ¬ Z li.block := fun hz => by have := (h.zl _ hz).1; omega
      have h6 : ¬ Y li.block := fun hy => by have := ylt _ hy; omega
      exact ⟨by rw [hsz]; omega, h5, h6, .inl (by rw [hlb]; exact h.size)⟩
    · rw [upd_ne _ _ hi] at b
      obtain ⟨b1, b2, b3, b4⟩ := h.blk i li oi a b c
      exact ⟨by rw [hsz]; omega, b2, b3, b4⟩
  · intro i j li lj oi oj hij a b c d e f
    rcases upd_cases a with ⟨rfl, rfl⟩ | ⟨hi, a⟩
    · rcases upd_cases b with ⟨rfl, rfl⟩ | ⟨hj, b⟩
      · exact absurd rfl hij
      · rw [upd_ne _ _ hj] at d
        have := (h.blk j lj oj b d f).1
        omega
    · rw [upd_ne _ _ hi] at c
      have h7 := (h.blk i li oi a c e).1
      rcases upd_cases b with ⟨rfl, rfl⟩ | ⟨hj, b⟩
      · omega
      · rw [upd_ne _ _ hj] at d
        exact h.sep i j li lj oi oj hij a b c d e f
  · intro b hb
    have := h.zl b hb
    exact ⟨by rw [hsz]; omega, this.2⟩

/-- An array that has no block: new, or in an array's place (which is then at rest or left behind). -/
theorem Sim.bare (h : Sim w0 M0 k0 Y Z w L S) {o : Nat} {loc : Loc} (Z' : Nat → Prop) (sz : Nat)
    (ho : L o = none ∨ ∃ l, L o = some l ∧ l.fix = false ∧ loc.fix = false ∧ l.ver < loc.ver)
    (hZ : ∀ b, Z' b → Z b ∨ (∃ l obj, L o = some l ∧ S o = some obj ∧ live l obj ∧ k0 ≤ o ∧ b = l.block)) (hZ' : ∀ b, Z b → Z' b)
    (hlf : loc.fix = false) (hlc : loc.cap = 0) :
    Sim w0 M0 k0 Y Z' w (upd L o loc) (upd S o (.arr loc.ver sz [])) ∧ Gr Y w Z L w Z' (upd L o loc) := by
  have g : Gr Y w Z L w Z' (upd L o loc) := by
    refine ⟨fun b _ => rfl, hZ', fun i l hi => ?_⟩
    by_cases hio : i = o
    · subst hio
      refine ⟨loc, upd_same .., .inr ?_⟩
      rcases ho with ho | ⟨l', e1, e2, e3, e4⟩
      · rw [ho] at hi; cases hi
      · rw [e1] at hi; injection hi with hi; subst hi; exact ⟨e2, e3, e4⟩
    · exact ⟨l, by rw [upd_ne _ _ hio]; exact hi, .inl rfl⟩
  have nl : ¬ live loc (.arr loc.ver sz []) := by simp [live, hlc]
  refine ⟨⟨h.os, h.tape, h.output, h.size, h.kept, ?_, ?_, ?_, ?_, ?_, h.yl⟩, g⟩
  · intro i
    by_cases hi : i = o
    · subst hi; rw [upd_same, upd_same]; rfl
    · rw [upd_ne _ _ hi, upd_ne _ _ hi]; exact h.dom i
  · intro i li oi a b
    rcases upd_cases a with ⟨rfl, rfl⟩ | ⟨hi, a⟩
    · rw [upd_same] at b; injection b with b; subst b
      exact ⟨hlf, rfl, fun hc => by omega, by simp, by simp, fun hc => by omega⟩
    · rw [upd_ne _ _ hi] at b
      exact (h.objs i li oi a b).mono g fun _ => rfl
  · intro i li oi a b c
    rcases upd_cases a with ⟨rfl, rfl⟩ | ⟨hi, a⟩
    · rw [upd_same] at b; injection b with b; subst b; exact absurd c nl
    · rw [upd_ne _ _ hi] at b
      obtain ⟨b1, b2, b3, b4⟩ := h.blk i li oi a b c
      refine ⟨b1, fun hz => ?_, b3, b4⟩
      rcases hZ _ hz with hz | ⟨l, obj, e1, e2, e3, _, e4⟩
      · exact b2 hz
      · exact h.sep i o li l oi obj hi a e1 b e2 c e3 e4
  · intro i j li lj oi oj hij a b c d e f
    rcases upd_cases a with ⟨rfl, rfl⟩ | ⟨hi, a⟩
    · rw [upd_same] at c; injection c with c; subst c; exact absurd e nl
    · rw [upd_ne _ _ hi] at c
      rcases upd_cases b with ⟨rfl, rfl⟩ | ⟨hj, b⟩
      · rw [upd_same] at d; injection d with d; subst d; exact absurd f nl
      · rw [upd_ne _ _ hj] at d
        exact h.sep i j li lj oi oj hij a b c d e f
  · intro b hb
    rcases hZ b hb with hz | ⟨l, obj, e1, e2, e3, e5, rfl⟩
    · exact h.zl b hz
    · obtain ⟨b1, b2, b3, b4⟩ := h.blk o l obj e1 e2 e3
      refine ⟨b1, fun hlt => ?_⟩
      rcases b4 with b4 | b4
      · omega
      · omega
end
end Go.Bb

namespace Go.Bb


structure Envt where
  P : Program
  G : Nat → Option PV
  wr : FuncId → Bool
  keep : FuncId → Bool
  ann : FuncId → Nat → Option (List Nat × Option Nat)
  prim : FuncId → Option (List PV → Option (PV × List AObj))

abbrev Slots := List (Nat × PV)

def getE : Slots → Nat → PV
  | [], _ => .dead
  | (s, v) :: r, t => cond (Nat.beq s t) v (getE r t)
def setE : Slots → Nat → PV → Slots
  | [], t, v => [(t, v)]
  | (s, u) :: r, t, v => cond (Nat.beq s t) ((s, v) :: r) (cond (Nat.ble t s) ((t, v) :: (s, u) :: r) ((s, u) :: setE r t v))

def szOf (P : Program) (t : TypeId) : Nat := match P.info? t with
  | some i => i.size
  | none => 0
def bytesOf (P : Program) (t : TypeId) : Nat := match P.info? t with
  | some i => i.bytes
  | none => 0
def aggT (P : Program) (t : TypeId) : Bool := match P.underlying t with
  | some (.struct _) => true
  | some (.array _ _) => true
  | _ => false
def ofVal1 : Value → PV
  | .int k n => .int k n
  | .bool b => .bool b
  | .string s => .str s
  | .slice _ 0 0 => .nils
  | .pointer none => .nilp
  | .nilFunc => .nilf
  | .nilIface => .nili
  | _ => .dead
def ofVal : Value → PV
  | .agg cs => .agg (cs.toList.map ofVal1)
  | v => ofVal1 v
def zeroP (P : Program) (t : TypeId) : PV := match P.info? t with
  | some i => match i.zero with
    | some v => ofVal v
    | none => .dead
  | none => .dead
def opd (E : Envt) (env : Slots) : Operand → PV
  | .tmp t => getE env t
  | .const v => ofVal v
  | .global g => match E.G g with
    | some x => .ro false x
    | none => .dead
  | .func f => .clo f []

def hasT (P : Program) (t : TypeId) : Bool := (P.underlying t).isSome
def sub (P : Program) (t : TypeId) (cs : List PV) (off : Nat) : Option PV :=
  cond (hasT P t) (cond (aggT P t) (cond (Nat.ble (off + szOf P t) cs.length) (some (.agg ((cs.drop off).take (szOf P t)))) none)
    (match cs[off]? with
     | some (.agg _) => none
     | some x => some x
     | none => none)) none
def putCells (cs : List PV) (off : Nat) (vs : List PV) : Option (List PV) :=
  cond (Nat.ble (off + vs.length) cs.length) (some (cs.take off ++ vs ++ cs.drop (off + vs.length))) none
def relike (x : PV) (cs : List PV) : PV := match x with
  | .agg _ => .agg cs
  | _ => cs.headD .dead

abbrev Ws := List (Nat × AObj)
def thawCells : Nat → List PV → List PV × Ws
  | _, [] => ([], [])
  | k, .nils :: r => (.own k 0 0 0 :: (thawCells (k + 1) r).1, (k, .arr 0 0 []) :: (thawCells (k + 1) r).2)
  | k, x :: r => (x :: (thawCells k r).1, (thawCells k r).2)
def thaw (k : Nat) : PV → PV × Ws
  | .agg cs => (.agg (thawCells k cs).1, (thawCells k cs).2)
  | .nils => (.own k 0 0 0, [(k, .arr 0 0 [])])
  | x => (x, [])

structure Eff where
  val : PV
  ws : Ws
abbrev Rd := Nat → Option AObj

def rdSl (rd : Rd) : PV → Option (List PV)
  | .list _ xs => some xs
  | .nils => some []
  | .own o ver i n => match rd o with
    | some (.arr v _ xs) => cond (Nat.beq v ver && Nat.ble (i + n) xs.length) (some ((xs.drop i).take n)) none
    | _ => none
  | _ => none

def just (x : PV) : Option Eff := some ⟨x, []⟩
def justO : Option PV → Option Eff
  | some x => some ⟨x, []⟩
  | none => none

def aInt (op : BinOp) (k : IntKind) (x y : Int) : Option PV := match op with
  | .add => some (.int k (k.wrap (x + y)))
  | .sub => some (.int k (k.wrap (x - y)))
  | .mul => some (.int k (k.wrap (x * y)))
  | .eql => some (.bool (x == y))
  | .neq => some (.bool (x != y))
  | .lss => some (.bool (x < y))
  | .leq => some (.bool (x ≤ y))
  | .gtr => some (.bool (x > y))
  | .geq => some (.bool (x ≥ y))
  | .quo => if y = 0 then none else some (.int k (k.wrap (x.tdiv y)))
  | .rem => if y = 0 then none else some (.int k (x.tmod y))
  | .and => some (.int k (k.wrap (BitVec.ofInt k.bits x &&& BitVec.ofInt k.bits y).toNat))
  | .or => some (.int k (k.wrap (BitVec.ofInt k.bits x ||| BitVec.ofInt k.bits y).toNat))
  | _ => none
def aStr (op : BinOp) (x y : ByteArray) : Option PV := match op with
  | .add => cond (Nat.ble (x.size + y.size) 9223372036854775807) (some (.str (x ++ y))) none
  | .eql => some (.bool (x.toList == y.toList))
  | .neq => some (.bool !(x.toList == y.toList))
  | .lss => some (.bool (Op.bytesLess x.toList y.toList))
  | .leq => some (.bool (Op.bytesLess x.toList y.toList || x.toList == y.toList))
  | .gtr => some (.bool !(Op.bytesLess x.toList y.toList || x.toList == y.toList))
  | .geq => some (.bool !(Op.bytesLess x.toList y.toList))
  | _ => none
def aBin (P : Program) (op : BinOp) (t : TypeId) (x y : PV) : Option PV := match x, y with
  | .int j a, .int k b => if j = k then aInt op j a b else match op with
    | .shl => cond (decide (b < 0)) none (some (.int j (j.wrap (a * 2 ^ min b.toNat j.bits))))
    | .shr => cond (decide (b < 0)) none (some (.int j (a.fdiv (2 ^ min b.toNat j.bits))))
    | _ => none
  | .str a, .str b => aStr op a b
  | .bool a, .bool b => match P.underlying t with
    | some .bool => match op with
      | .eql => some (.bool (a == b))
      | .neq => some (.bool !(a == b))
      | _ => none
    | _ => none
  | _, _ => none
def aUn (op : UnOp) (x : PV) : Option PV := match op, x with
  | .not, .bool b => some (.bool !b)
  | .neg, .int k n => some (.int k (k.wrap (0 - n)))
  | _, _ => none

def fillP (place : Nat → Option (Nat × Nat)) (cells : List PV) : List (Nat × PV) → Option (List PV)
  | [] => some cells
  | (i, v) :: rest => match place i with
    | none => none
    | some (off, size) => cond (Nat.beq (cellsOf v).length size && okCells (cellsOf v)) (match putCells cells off (cellsOf v) with
      | some cs => fillP place cs rest
      | none => none) none

def aBuild (P : Program) (t : TypeId) (parts : List (Nat × PV)) : Option PV := match cond (okCells (cellsOf (zeroP P t))) (P.underlying t) none with
  | some (.struct fields) => cond (fields.toList.all fun f => hasT P f.type) ((fillP (fun i => match fields.toList[i]? with
      | some f => some (f.offset, szOf P f.type)
      | none => none) (cellsOf (zeroP P t)) parts).map .agg) none
  | some (.array _ elem) => cond (hasT P elem) ((fillP (fun i => some (i * szOf P elem, szOf P elem)) (cellsOf (zeroP P t)) parts).map .agg) none
  | _ => none

/-- Its elements as an array's own: at rest, each of the given size. -/
def elemsOk (sz : Nat) : List PV → Bool
  | [] => true
  | x :: r => x.frz false && Nat.beq (cellsOf x).length sz && okCells (cellsOf x) && elemsOk sz r
def rest1 : PV → PV
  | .nils => .list false []
  | x => x
/-- Empty slices at rest are empty lists. -/
def rest : PV → PV
  | .agg cs => .agg (cs.map rest1)
  | x => rest1 x
def elemT (P : Program) (t : TypeId) : Option TypeId := match P.underlying t with
  | some (.slice e) => cond (hasT P e) (some e) none
  | _ => none

mutual
def idsOf : PV → List Nat
  | .agg xs | .tup xs => idssOf xs
  | .clo _ caps => idssOf caps
  | .refv o _ | .refa o _ _ _ | .own o _ _ _ | .map o | .iter o => [o]
  | _ => []
def idssOf : List PV → List Nat
  | [] => []
  | x :: r => idsOf x ++ idssOf r
end
def objIds : AObj → List Nat
  | .var x => idsOf x
  | _ => []
def memN : List Nat → Nat → Bool
  | [], _ => false
  | a :: r, o => Nat.beq a o || memN r o
def pos : List Nat → Nat → Nat
  | [], _ => 0
  | a :: r, o => cond (Nat.beq a o) 0 (pos r o + 1)
def closeN (rd : Rd) : Nat → List Nat → List Nat → List Nat
  | 0, _, done => done
  | _ + 1, [], done => done
  | n + 1, o :: r, done => cond (memN done o) (closeN rd n r done) (closeN rd n (r ++ (match rd o with | some x => objIds x | none => [])) (done ++ [o]))
def mapO {α β : Type} (f : α → Option β) : List α → Option (List β)
  | [] => some []
  | x :: r => match f x with
    | some y => match mapO f r with
      | some s => some (y :: s)
      | none => none
    | none => none
def newIds (k0 : Nat) : List Nat → List Nat → List Nat
  | [], acc => acc
  | o :: r, acc => cond (Nat.ble k0 o && !memN acc o) (newIds k0 r (acc ++ [o])) (newIds k0 r acc)
/-- Slices of the call's own come to rest for good. -/
def freeD (k0 : Nat) (rd : Rd) : Nat → PV → Option PV
  | 0, _ => none
  | n + 1, x => match x with
    | .agg xs => (mapO (freeD k0 rd n) xs).map .agg
    | .tup xs => (mapO (freeD k0 rd n) xs).map .tup
    | .nils => some (.list false [])
    | .own o ver i m => cond (Nat.ble k0 o) ((rdSl rd (.own o ver i m)).map (.list false)) (some (.own o ver i m))
    | x => some x
def isArr : Option AObj → Bool
  | some (.arr _ _ _) => true
  | _ => false
def freeIds (k0 : Nat) (rd : Rd) (l : List Nat) : List Nat := (newIds k0 l []).filter fun o => isArr (rd o)
def bump (rd : Rd) (o : Nat) : Option (Nat × AObj) := match rd o with
  | some (.arr v _ _) => some (o, .arr (v + 1) 0 [])
  | _ => none
def freePs (k0 : Nat) (rd : Rd) (ps : List (Nat × PV)) : Option (List (Nat × PV)) := mapO (fun p => (freeD k0 rd 3 p.2).map fun y => (p.1, y)) ps
def setElems (xs : List PV) : List (Nat × PV) → List PV
  | [] => xs
  | (i, v) :: r => setElems (xs.set i v) r

def bytesP (s : ByteArray) : List PV := s.data.toList.map fun b => PV.int .u8 b.toNat

/-- The elements that a slice or a string adds, ready for an array of its own. -/
def srcOf (rd : Rd) (sz : Nat) (x : PV) : Option (List PV) := match x with
  | .str s => cond (Nat.beq sz 1) (some (bytesP s)) none
  | .own .. => rdSl rd x
  | .list false xs => some xs
  | .list true xs => cond (frzs false xs) (some xs) none
  | .nils => some []
  | _ => none
def sizeOk (sz : Nat) : List PV → Bool
  | [] => true
  | x :: r => Nat.beq (cellsOf x).length sz && sizeOk sz r

def notInt (P : Program) (t : TypeId) : Bool := match P.underlying t with
  | some (.int _) => false
  | some _ => true
  | none => false
def growOk (P : Program) (e : TypeId) : Bool := Nat.blt 0 (szOf P e) && Nat.blt 0 (bytesOf P e) && okCells (cellsOf (zeroP P e)) && Nat.beq (cellsOf (zeroP P e)).length (szOf P e)
def aAppend (P : Program) (rd : Rd) (k : Nat) (t xt : TypeId) (s x : PV) : Option Eff := match elemT P t with
  | none => none
  | some e => match srcOf rd (szOf P e) x with
    | none => none
    | some ys => cond (sizeOk (szOf P e) ys && growOk P e && notInt P xt) (match s with
      | .nils => cond (Nat.ble (ys.length * bytesOf P e) 140737488355328) (some ⟨.own k 0 0 ys.length, [(k, .arr 0 (szOf P e) ys)]⟩) none
      | .own o ver i n => match rd o with
        | some (.arr v sz xs) => cond (Nat.beq v ver && Nat.ble (i + n) xs.length && (Nat.beq sz 0 || Nat.beq sz (szOf P e)))
            (cond (Nat.ble (i + n + ys.length) xs.length)
              (some ⟨.own o ver i (n + ys.length), [(o, .arr ver sz (xs.take (i + n) ++ ys ++ xs.drop (i + n + ys.length)))]⟩)
              (cond (Nat.beq (i + n) xs.length && Nat.ble ((n + ys.length) * bytesOf P e) 140737488355328)
                (some ⟨.own o (ver + 1) 0 (n + ys.length), [(o, .arr (ver + 1) (szOf P e) (xs.drop i ++ ys))]⟩) none)) none
        | _ => none
      | _ => none) none

def aCopy (P : Program) (rd : Rd) (t : TypeId) (d x : PV) : Option Eff := match elemT P t with
  | none => none
  | some e => match srcOf rd (szOf P e) x with
    | none => none
    | some ys => cond (sizeOk (szOf P e) ys && Nat.blt 0 (szOf P e)) (match d with
      | .own o ver i n => match rd o with
        | some (.arr v sz xs) => cond (Nat.beq v ver && Nat.ble (i + n) xs.length && Nat.beq sz (szOf P e) && Nat.ble ys.length n)
            (some ⟨.int .i64 ys.length, [(o, .arr ver sz (xs.take i ++ ys ++ xs.drop (i + ys.length)))]⟩) none
        | _ => none
      | _ => none) none

def aClear (P : Program) (rd : Rd) (t : TypeId) (d : PV) : Option Eff := match elemT P t with
  | none => none
  | some e => match d with
      | .own o ver i n => match rd o with
        | some (.arr v sz xs) => cond (Nat.beq v ver && Nat.ble (i + n) xs.length && (Nat.beq n 0 || Nat.beq sz (szOf P e)) && elemsOk (szOf P e) [rest (zeroP P e)])
            (some ⟨.tup [], [(o, .arr ver sz (xs.take i ++ List.replicate n (rest (zeroP P e)) ++ xs.drop (i + n)))]⟩) none
        | _ => none
      | _ => none

def aLen (P : Program) (rd : Rd) (t : TypeId) (x : PV) : Option PV := match P.underlying t, x with
  | some (.array n _), _ => some (.int .i64 n)
  | some .string, .str s => some (.int .i64 s.size)
  | some (.slice _), x => match rdSl rd x with
    | some xs => some (.int .i64 xs.length)
    | none => none
  | some (.map _ _), .map o => match rd o with
    | some (.map ks _) => some (.int .i64 ks.length)
    | _ => none
  | some (.map _ _), .rom _ ks _ => some (.int .i64 ks.length)
  | _, _ => none

def aMax (big : Bool) : List PV → Option PV
  | [.int j x, .int k y] => if j = k then some (.int j (cond big (if y > x then y else x) (if y < x then y else x))) else none
  | _ => none

def asIdx : PV → Option Int
  | .int _ i => some i
  | _ => none
def inB (i : Int) (n : Nat) : Bool := decide (0 ≤ i) && decide (i < n)

def aIndexAddr (P : Program) (rd : Rd) (t : TypeId) (x ix : PV) : Option PV := match asIdx ix with
  | none => none
  | some i => match P.underlying t, x with
    | some (.slice e), .list y xs => match cond (decide (0 ≤ i)) xs[i.toNat]? none with
      | some v => cond (hasT P e && Nat.beq (cellsOf v).length (szOf P e)) (some (.ro y v)) none
      | none => none
    | some (.slice e), .own o ver j n => match rd o with
      | some (.arr v sz xs) => cond (Nat.beq v ver && Nat.ble (j + n) xs.length && inB i n && Nat.beq sz (szOf P e) && hasT P e) (some (.refa o ver (j + i.toNat) 0)) none
      | _ => none
    | some (.array n e), .refv o off => cond (inB i n && hasT P e) (some (.refv o (off + i.toNat * szOf P e))) none
    | some (.array n e), .ro y x => cond (inB i n) (match sub P e (cellsOf x) (i.toNat * szOf P e) with
      | some v => some (.ro y v)
      | none => none) none
    | _, _ => none

def aIndex (P : Program) (t : TypeId) (x ix : PV) : Option PV := match asIdx ix with
  | none => none
  | some i => match P.underlying t, x with
    | some (.array n e), .agg cs => cond (inB i n) (sub P e cs (i.toNat * szOf P e)) none
    | some .string, .str s => match cond (decide (0 ≤ i)) s[i.toNat]? none with
      | some b => some (.int .u8 b.toNat)
      | none => none
    | _, _ => none

def fieldOf (P : Program) (t : TypeId) (f : Nat) : Option Field := match P.underlying t with
  | some (.struct fields) => match fields.toList[f]? with
    | some fd => cond (hasT P fd.type) (some fd) none
    | none => none
  | _ => none

def aField (P : Program) (t : TypeId) (x : PV) (f : Nat) : Option PV := match fieldOf P t f, x with
  | some fd, .agg cs => sub P fd.type cs fd.offset
  | _, _ => none
def aFieldAddr (P : Program) (t : TypeId) (x : PV) (f : Nat) : Option PV := match fieldOf P t f with
  | none => none
  | some fd => cond (Nat.beq (szOf P fd.type) 0) none (match x with
    | .refv o off => some (.refv o (off + fd.offset))
    | .refa o ver i off => some (.refa o ver i (off + fd.offset))
    | .ro y x => match sub P fd.type (cellsOf x) fd.offset with
      | some v => some (.ro y v)
      | none => none
    | _ => none)

def aLoad (P : Program) (rd : Rd) (t : TypeId) (a : PV) : Option PV := match a with
  | .ro _ x => sub P t (cellsOf x) 0
  | .refv o off => match rd o with
    | some (.var x) => sub P t (cellsOf x) off
    | _ => none
  | .refa o ver i off => match rd o with
    | some (.arr v _ xs) => cond (Nat.beq v ver) (match xs[i]? with
      | some e => sub P t (cellsOf e) off
      | none => none) none
    | _ => none
  | _ => none

def aStore (P : Program) (rd : Rd) (k : Nat) (t : TypeId) (a x : PV) : Option Eff :=
  cond (hasT P t && Nat.blt 0 (szOf P t) && Nat.beq (cellsOf x).length (szOf P t) && okCells (cellsOf x)) (match a with
  | .refv o off => match rd o with
    | some (.var v) => match putCells (cellsOf v) off (cellsOf (thaw k x).1) with
      | some cs => some ⟨.tup [], (thaw k x).2 ++ [(o, .var (relike v cs))]⟩
      | none => none
    | _ => none
  | .refa o ver i off => match rd o with
    | some (.arr v sz xs) => cond (Nat.beq v ver && (rest x).frz false) (match xs[i]? with
      | some e => match putCells (cellsOf e) off (cellsOf (rest x)) with
        | some cs => some ⟨.tup [], [(o, .arr ver sz (xs.set i (relike e cs)))]⟩
        | none => none
      | none => none) none
    | _ => none
  | _ => none) none

def bndO (d : Int) : Option PV → Option Int
  | none => some d
  | some v => asIdx v
def aSlice (P : Program) (rd : Rd) (t : TypeId) (x : PV) (lo hi mx : Option PV) : Option PV := match P.underlying t, x with
  | some .string, .str s => match mx, bndO 0 lo, bndO s.size hi with
    | none, some l, some h => cond (decide (0 ≤ l) && decide (l ≤ h) && decide (h ≤ s.size)) (some (.str (s.extract l.toNat h.toNat))) none
    | _, _, _ => none
  | some (.slice e), x => match cond (hasT P e) (rdSl rd x) none with
    | none => none
    | some xs => match mx, bndO 0 lo, bndO xs.length hi with
      | none, some l, some h => cond (decide (0 ≤ l) && decide (l ≤ h)) (match x with
        | .list y xs => cond (decide (h ≤ xs.length) && sizeOk (szOf P e) xs) (some (.list y ((xs.drop l.toNat).take (h.toNat - l.toNat)))) none
        | .nils => cond (decide (h ≤ 0)) (some .nils) none
        | .own o ver i _ => match rd o with
          | some (.arr _ sz ys) => cond (decide (i + h ≤ ys.length) && Nat.beq sz (szOf P e)) (some (.own o ver (i + l.toNat) (h.toNat - l.toNat))) none
          | _ => none
        | _ => none) none
      | some m, some l, some h => match cond hi.isSome (asIdx m) none with
        | some m => cond (decide (0 ≤ l) && decide (l ≤ h) && decide (h ≤ m) && decide (m ≤ xs.length)) (some .dead) none
        | none => none
      | _, _, _ => none
  | _, _ => none

def sameK : PV → PV → Option Bool
  | .int j a, .int k b => if j = k then some (a == b) else none
  | .str a, .str b => some (a == b)
  | .bool a, .bool b => some (a == b)
  | _, _ => none
def findP (k : PV) : List PV → Nat → Option (Option Nat)
  | [], _ => some none
  | e :: es, i => match sameK k e with
    | some true => some (some i)
    | some false => findP k es (i + 1)
    | none => none
def keyOk (P : Program) (t : TypeId) (k : PV) : Bool := match P.underlying t, k with
  | some (.int _), .int _ _ => true
  | some .string, .str _ => true
  | some .bool, .bool _ => true
  | _, _ => false
def mapOf (rd : Rd) : PV → Option (List PV × List PV)
  | .map o => match rd o with
    | some (.map ks vs) => some (ks, vs)
    | _ => none
  | .rom _ ks vs => some (ks, vs)
  | _ => none
def aLookup (P : Program) (rd : Rd) (t : TypeId) (m k : PV) (ok : Bool) : Option PV := match P.underlying t with
  | some (.map kt e) => cond (keyOk P kt k) (match mapOf rd m with
    | some (ks, vs) => match findP k ks 0 with
      | some (some i) => match vs[i]? with
        | some v => some (cond ok (.tup [v, .bool true]) v)
        | none => none
      | some none => cond (okCells (cellsOf (zeroP P e))) (some (cond ok (.tup [zeroP P e, .bool false]) (zeroP P e))) none
      | none => none
    | none => none) none
  | _ => none
def aMapUpdate (P : Program) (rd : Rd) (t : TypeId) (m k v : PV) : Option Eff := match P.underlying t with
  | some (.map kt _) => cond (keyOk P kt k && (rest v).frz false) (match m with
    | .map o => match rd o with
      | some (.map ks vs) => match findP k ks 0 with
        | some (some i) => some ⟨.tup [], [(o, .map (ks.set i k) (vs.set i (rest v)))]⟩
        | some none => some ⟨.tup [], [(o, .map (ks ++ [k]) (vs ++ [rest v]))]⟩
        | none => none
      | _ => none
    | _ => none) none
  | _ => none

def aNext (rd : Rd) (it : PV) : Option Eff := match it with
  | .iter o => match rd o with
    | some (.iter s pos) => cond (Nat.blt pos s.size)
        (some ⟨.tup [.bool true, .int .i64 pos, .int .i32 (Utf8.decode s pos).1], [(o, .iter s (pos + (Utf8.decode s pos).2))]⟩)
        (some ⟨.tup [.bool false], []⟩)
    | _ => none
  | _ => none

def aConvert (P : Program) (s d : TypeId) (x : PV) : Option PV := match P.underlying s, P.underlying d, x with
  | some (.int _), some (.int k), .int _ n => some (.int k (k.wrap n))
  | some .string, some .string, .str s => some (.str s)
  | some (.int _), some .string, .int _ n => some (.str (Utf8.encode n))
  | _, _, _ => none

/- calls -/
def snapL : List PV → PV
  | [] => .list false []
  | x :: r => .list true (x :: r)
def snapN (rd : Rd) : Nat → PV → Option PV
  | 0, _ => none
  | n + 1, x => match x with
    | .agg xs => (mapO (snapN rd n) xs).map .agg
    | .tup xs => (mapO (snapN rd n) xs).map .tup
    | .clo f caps => (mapO (snapN rd n) caps).map (.clo f)
    | .nils => some (.list false [])
    | .own o ver i k => (rdSl rd (.own o ver i k)).map snapL
    | .refv o off => match rd o with
      | some (.var x) => cond (Nat.beq off 0) ((snapN rd n x).map (.ro true)) none
      | _ => none
    | .map o => match rd o with
      | some (.map ks vs) => some (.rom true ks vs)
      | _ => none
    | .refa .. => none
    | .iter _ => none
    | .dead => none
    | x => some x
def AObj.ren (f : Nat → Nat) : AObj → AObj
  | .var x => .var (x.ren f)
  | x => x
def numW (f : Nat → Nat) : Nat → List AObj → Ws
  | _, [] => []
  | i, x :: r => (f i, x.ren f) :: numW f (i + 1) r
abbrev Callf := FuncId → List PV → List AObj → Option (PV × List AObj)
def outR (T : List Nat) (k : Nat) (i : Nat) : Nat := match T[i]? with
  | some o => o
  | none => k + (i - T.length)
def objOk (q : Nat → Bool) : AObj → Bool
  | .var x => x.ids q
  | _ => true
def objUnt : AObj → Bool
  | .var x => x.unt
  | _ => true
def acallT (call : Callf) (rd : Rd) (k : Nat) (f : FuncId) (args : List PV) (T : List Nat) : Option Eff :=
  match mapO rd T with
  | some objs => cond (idss (memN T) args && objs.all (objOk (memN T)))
      (match call f (args.map (·.ren (pos T))) (objs.map (·.ren (pos T))) with
       | some (res, σ) => some ⟨res.ren (outR T k), numW (outR T k) 0 σ⟩
       | none => none) none
  | none => none
def acallS (call : Callf) (rd : Rd) (k : Nat) (f : FuncId) (args : List PV) : Option Eff :=
  match mapO (snapN rd 20) args with
  | some args => match call f args [] with
    | some (res, σ) => cond (res.unt && σ.all objUnt) (some ⟨res.ren (k + ·), numW (k + ·) 0 σ⟩) none
    | none => none
  | none => none
def acall (E : Envt) (call : Callf) (rd : Rd) (k : Nat) (f : FuncId) (args : List PV) : Option Eff :=
  cond (E.wr f) (acallT call rd k f args (closeN rd 64 (idssOf args) [])) (acallS call rd k f args)

def aop (E : Envt) (call : Callf) (k0 : Nat) (rd : Rd) (k : Nat) (ρ : Operand → PV) (o : Oper) : Option Eff := match o.op with
  | .move x => just (ρ x)
  | .assign x => some ⟨(thaw k (ρ x)).1, (thaw k (ρ x)).2⟩
  | .pick c a b => match ρ c with
    | .bool t => just (cond t (ρ a) (ρ b))
    | _ => none
  | .alloc t => cond (okCells (cellsOf (zeroP E.P t)) && Nat.beq (cellsOf (zeroP E.P t)).length (szOf E.P t))
      (some ⟨.refv (k + (thaw k (zeroP E.P t)).2.length) 0, (thaw k (zeroP E.P t)).2 ++ [(k + (thaw k (zeroP E.P t)).2.length, .var (thaw k (zeroP E.P t)).1)]⟩) none
  | .box _ x => cond (okCells (cellsOf (ρ x))) (some ⟨.refv k 0, [(k, .var (ρ x))]⟩) none
  | .build t parts => justO (aBuild E.P t (parts.toList.map fun p => (p.1, ρ p.2)))
  | .buildSlice t n parts => match elemT E.P t with
    | some e => match freePs k0 rd (parts.toList.map fun p => (p.1, ρ p.2)), mapO (bump rd) (freeIds k0 rd (idssOf (parts.toList.map fun p => ρ p.2))) with
      | some ps, some ws => cond (Nat.blt 0 (szOf E.P e) && Nat.ble (n * szOf E.P e) 16777216 && elemsOk (szOf E.P e) [rest (zeroP E.P e)] && elemsOk (szOf E.P e) (ps.map (·.2)) && ps.all (fun p => Nat.blt p.1 n))
        (some ⟨.own k 0 0 n, ws ++ [(k, .arr 0 (szOf E.P e) (setElems (List.replicate n (rest (zeroP E.P e))) ps))]⟩) none
      | _, _ => none
    | none => none
  | .load t a => justO (aLoad E.P rd t (ρ a))
  | .store t a x => aStore E.P rd k t (ρ a) (ρ x)
  | .nilCheck x => match ρ x with
    | .refv o off => just (.refv o off)
    | .refa o ver i off => just (.refa o ver i off)
    | .ro y x => just (.ro y x)
    | _ => none
  | .binOp op t x y _ => justO (aBin E.P op t (ρ x) (ρ y))
  | .unOp op _ x => justO (aUn op (ρ x))
  | .convert s d x => justO (aConvert E.P s d (ρ x))
  | .makeFunc (.func f) first caps => cond (Nat.beq first.size 0) (just (.clo f (caps.toList.map ρ))) none
  | .makeMap _ none => some ⟨.map k, [(k, .map [] [])]⟩
  | .makeSlice t l c => match elemT E.P t, ρ l, ρ c with
    | some e, .int .i64 l, .int .i64 c => cond (decide (0 ≤ l) && decide (l ≤ c) && decide (c * bytesOf E.P e ≤ 140737488355328) && decide (c ≤ 140737488355328) && Nat.blt 0 (szOf E.P e) && elemsOk (szOf E.P e) [rest (zeroP E.P e)])
        (some ⟨.own k 0 0 l.toNat, [(k, .arr 0 (szOf E.P e) (List.replicate l.toNat (rest (zeroP E.P e))))]⟩) none
    | _, _, _ => none
  | .slice t x lo hi mx => justO (aSlice E.P rd t (ρ x) (lo.map ρ) (hi.map ρ) (mx.map ρ))
  | .fieldAddr t x f => justO (aFieldAddr E.P t (ρ x) f)
  | .field t x f => justO (aField E.P t (ρ x) f)
  | .indexAddr t x i => justO (aIndexAddr E.P rd t (ρ x) (ρ i))
  | .index t x i => justO (aIndex E.P t (ρ x) (ρ i))
  | .lookup t m i ok => justO (aLookup E.P rd t (ρ m) (ρ i) ok)
  | .mapUpdate t m i v => aMapUpdate E.P rd t (ρ m) (ρ i) (ρ v)
  | .insert t m i v => aMapUpdate E.P rd t (ρ m) (ρ i) (ρ v)
  | .range t x => match E.P.underlying t, ρ x with
    | some .string, .str s => some ⟨.iter k, [(k, .iter s 0)]⟩
    | _, _ => none
  | .next it true => aNext rd (ρ it)
  | .extract t i => match ρ t with
    | .tup xs => justO xs[i]?
    | _ => none
  | .call c => match c.callee with
    | .value f => match ρ f with
      | .clo g caps => acall E call rd k g (c.args.toList.map ρ ++ caps)
      | _ => none
    | .builtin .len => match c.argTypes.toList, c.args.toList.map ρ with
      | t :: _, x :: _ => justO (aLen E.P rd t x)
      | _, _ => none
    | .builtin .append => match c.argTypes.toList, c.args.toList.map ρ with
      | t :: xt :: _, [s, x] => aAppend E.P rd k t xt s x
      | _, _ => none
    | .builtin .copy => match c.argTypes.toList, c.args.toList.map ρ with
      | t :: _, [s, x] => aCopy E.P rd t s x
      | _, _ => none
    | .builtin .clear => match c.argTypes.toList, c.args.toList.map ρ with
      | t :: _, [s] => aClear E.P rd t s
      | _, _ => none
    | .builtin .max => justO (aMax true (c.args.toList.map ρ))
    | .builtin .min => justO (aMax false (c.args.toList.map ρ))
    | _ => none
  | _ => none

/-- What of the store an operation may look at. -/
def foot (rd : Rd) (ρ : Operand → PV) (o : Oper) : List Nat := match o.op with
  | .load _ a => idsOf (ρ a)
  | .buildSlice _ _ parts => idssOf (parts.toList.map fun p => ρ p.2)
  | .store _ a _ => idsOf (ρ a)
  | .slice _ x _ _ _ => idsOf (ρ x)
  | .indexAddr _ x _ => idsOf (ρ x)
  | .lookup _ m _ _ => idsOf (ρ m)
  | .mapUpdate _ m _ _ => idsOf (ρ m)
  | .insert _ m _ _ => idsOf (ρ m)
  | .next it _ => idsOf (ρ it)
  | .call c => match c.callee with
    | .builtin _ => idssOf (c.args.toList.map ρ)
    | .value f => closeN rd 64 (idssOf (ρ f :: c.args.toList.map ρ)) []
    | _ => []
  | _ => []

def applyW (σ : List AObj) : Ws → Option (List AObj)
  | [] => some σ
  | (o, x) :: r => cond (Nat.blt o σ.length) (applyW (σ.set o x) r) (cond (Nat.beq o σ.length) (applyW (σ ++ [x]) r) none)

def setD (nt : Nat) (env : Slots) (dst : Option Tmp) (v : PV) : Option Slots := match dst with
  | none => some env
  | some d => cond (Nat.blt d nt) (some (setE env d v)) none

def wants (ops : Array Oper) (env : Slots) (o : Oper) : Option Bool := match o.guard with
  | none => some true
  | some (j, want) => match (ops.toList[j]?).bind (·.dst) with
    | some d => match getE env d with
      | .bool b => some (b == want)
      | .tup [] => some false
      | _ => none
    | none => none

abbrev Trace := List (List Nat × List Nat)
def astep (E : Envt) (call : Callf) (k0 nt : Nat) (ops : Array Oper) (env : Slots) (σ : List AObj) (o : Oper) : Option (Slots × List AObj × (List Nat × List Nat)) :=
  match wants ops env o with
  | some true => match aop E call k0 (fun i => cond (memN (foot (σ[·]?) (opd E env) o) i) σ[i]? none) σ.length (opd E env) o with
    | some eff => match applyW σ eff.ws, setD nt env o.dst eff.val with
      | some σ', some env' => some (env', σ', (foot (σ[·]?) (opd E env) o, eff.ws.map (·.1)))
      | _, _ => none
    | none => none
  | some false => match setD nt env o.dst (.tup []) with
    | some env' => some (env', σ, ([], []))
    | none => none
  | none => none
def asteps (E : Envt) (call : Callf) (k0 nt : Nat) (ops : Array Oper) : List Oper → Slots → List AObj → Option (Slots × List AObj × Trace)
  | [], env, σ => some (env, σ, [])
  | o :: r, env, σ => match astep E call k0 nt ops env σ o with
    | some (env', σ', t) => match asteps E call k0 nt ops r env' σ' with
      | some (env'', σ'', ts) => some (env'', σ'', t :: ts)
      | none => none
    | none => none

/- orders -/
def befs : List Oper → List Nat → List Nat
  | [], acc => acc
  | o :: r, acc => befs r (acc ++ [o.after.toList.foldl (fun s e => cond (Region.binds .any e) (s ||| 2 ^ e.on ||| acc.getD e.on 0) s) 0])
def meets (a b : List Nat) : Bool := a.any (memN b)
def clash (x y : List Nat × List Nat) : Bool := meets x.2 y.1 || meets x.2 y.2 || meets x.1 y.2
def slotClash (ops : Array Oper) (x y : Oper) : Bool := !(x.apart ops y)
def pairsOk (ops : Array Oper) (B : List Nat) : Nat → List (Oper × (List Nat × List Nat)) → Nat → List (Oper × (List Nat × List Nat)) → Bool
  | _, [], _, _ => true
  | i, (x, t) :: r, j, all => goJ i x t j all && pairsOk ops B (i + 1) r j all
where goJ (i : Nat) (x : Oper) (t : List Nat × List Nat) : Nat → List (Oper × (List Nat × List Nat)) → Bool
  | _, [] => true
  | j, (y, u) :: r => (cond (Nat.blt i j) (cond (slotClash ops x y || clash t u) ((B.getD j 0).testBit i) true) true) && goJ i x t (j + 1) r
def edgesOk : Nat → List Oper → Bool
  | _, [] => true
  | j, o :: r => o.after.toList.all (fun e => !Region.binds .any e || Nat.blt e.on j) && edgesOk (j + 1) r
def orderOk (ops : Array Oper) (ts : Trace) : Bool :=
  Region.noSelect ops && edgesOk 0 ops.toList && pairsOk ops (befs ops.toList []) 0 (ops.toList.zip ts) 0 (ops.toList.zip ts)

inductive AExit where
  | normal
  | exit (id : Nat)
  | ret
  deriving Inhabited
abbrev Out := Option (AExit × Slots × List AObj)

def dropE (ks : List Nat) : Slots → Slots
  | [] => []
  | (s, v) :: r => cond (memN ks s) (dropE ks r) ((s, v) :: dropE ks r)
def envOk (m : Nat) : Slots → Bool
  | [] => true
  | (_, v) :: r => v.ids (Nat.blt · m) && envOk m r
def objsOk (m : Nat) : List AObj → Bool
  | [] => true
  | .var x :: r => x.ids (Nat.blt · m) && objsOk m r
  | _ :: r => objsOk m r
def tidy (k0 : Nat) (a : Option (List Nat × Option Nat)) (env : Slots) (σ : List AObj) : Option (Slots × List AObj) := match a with
  | none => some (env, σ)
  | some (ks, none) => some (dropE ks env, σ)
  | some (ks, some m) => cond (Nat.ble k0 m && envOk m (dropE ks env) && objsOk m (σ.take m)) (some (dropE ks env, σ.take m)) none

def aloop (step : Slots → List AObj → Out) : Nat → Slots → List AObj → Out
  | 0, _, _ => none
  | n + 1, env, σ => match step env σ with
    | some (.normal, env', σ') => aloop step n env' σ'
    | r => r

def acode (E : Envt) (call : Callf) (ann : Nat → Option (List Nat × Option Nat)) (k0 nt n : Nat) : Code → Slots → List AObj → Out
  | .skip, env, σ => some (.normal, env, σ)
  | .region id ops draw, env, σ => match asteps E call k0 nt ops ops.toList env σ with
    | some (env', σ', ts) => cond (!draw || orderOk ops ts) (match tidy k0 (ann id) env' σ' with
      | some (env'', σ'') => some (.normal, env'', σ'')
      | none => none) none
    | none => none
  | .seq a b, env, σ => match acode E call ann k0 nt n a env σ with
    | some (.normal, env', σ') => acode E call ann k0 nt n b env' σ'
    | r => r
  | .cond c a b, env, σ => match opd E env c with
    | .bool t => cond t (acode E call ann k0 nt n a env σ) (acode E call ann k0 nt n b env σ)
    | _ => none
  | .block id c, env, σ => match acode E call ann k0 nt n c env σ with
    | some (.exit i, env', σ') => cond (Nat.beq i id) (some (.normal, env', σ')) (some (.exit i, env', σ'))
    | r => r
  | .loop c, env, σ => aloop (fun e s => acode E call ann k0 nt n c e s) n env σ
  | .exit id, env, σ => some (.exit id, env, σ)
  | .scope c, env, σ => acode E call ann k0 nt n c env σ
  | .ret, env, σ => some (.ret, env, σ)
  | _, _, _ => none

def ares (E : Envt) (env : Slots) (σ : List AObj) : List ResultVar → Option (List PV)
  | [] => some []
  | .tmp t :: r => (ares E env σ r).map (getE env t :: ·)
  | .cell a t :: r => match getE env a with
    | .refv o off => match aLoad E.P (σ[·]?) t (.refv o off), ares E env σ r with
      | some x, some s => some (x :: s)
      | _, _ => none
    | _ => none
def oneOrTup : List PV → PV
  | [x] => x
  | xs => .tup xs

def finR (k0 : Nat) (X : List Nat) (o : Nat) : Nat := cond (Nat.blt o k0) o (k0 + pos X o)
def finQ (k0 : Nat) (X : List Nat) (o : Nat) : Bool := Nat.blt o k0 || memN X o
def finW (k0 : Nat) (X F : List Nat) (r1 : PV) (σ : List AObj) : Option (PV × List AObj) := match mapO (fun o => σ[o]?) X with
  | some objs => cond (r1.ids (finQ k0 X) && (σ.take k0 ++ objs).all (objOk (finQ k0 X)) && X.all fun o => !memN F o)
      (some (r1.ren (finR k0 X), (σ.take k0 ++ objs).map (·.ren (finR k0 X)))) none
  | none => none
def fin (keep : Bool) (k0 : Nat) (res : PV) (σ : List AObj) : Option (PV × List AObj) :=
  match cond keep (some res) (freeD k0 (σ[·]?) 4 res) with
  | none => none
  | some r1 => finW k0 (newIds k0 (idsOf r1 ++ (σ.take k0).flatMap objIds) []) (cond keep [] (freeIds k0 (σ[·]?) (idsOf res))) r1 σ

def numE : Nat → List PV → Slots
  | _, [] => []
  | i, x :: r => (i, x) :: numE (i + 1) r

def pcall (E : Envt) : Nat → Callf
  | 0, _, _, _ => none
  | n + 1, f, args, σ => match E.prim f with
    | some g => match σ, g args with
      | [], some r => some r
      | _, _ => none
    | none => match E.P.funcs[f]? with
    | none => none
    | some fn => match fn.body with
      | none => none
      | some c => cond (fn.name == "runtime.NumGoroutine" || !(Nat.ble args.length fn.ntmps)) none
          (match acode E (pcall E n) (E.ann f) σ.length fn.ntmps n c (numE 0 args) σ with
          | some (.exit _, _, _) => none
          | some (_, env, σ') => match ares E env σ' fn.results.toList with
            | some xs => fin (E.keep f) σ.length (oneOrTup xs) σ'
            | none => none
          | none => none)
end Go.Bb

namespace Go.Bb


theorem hasT_spec {P : Program} {t : TypeId} (h : hasT P t = true) : ∃ d i, P.underlying t = some d ∧ P.info? t = some i := by
  unfold hasT at h
  obtain ⟨d, hd⟩ := Option.isSome_iff_exists.1 h
  unfold Program.underlying at hd
  cases hi : P.info? t with
  | none => rw [hi] at hd; simp at hd
  | some i => exact ⟨d, i, by unfold Program.underlying; rw [hi]; rw [hi] at hd; exact hd, rfl⟩

theorem info_of_underlying {P : Program} {t : TypeId} {d : TypeDesc} (h : P.underlying t = some d) : hasT P t = true := by simp [hasT, h]

theorem run_typeInfo {P : Program} {t : TypeId} {i : TypeInfo} (h : P.info? t = some i) (w : World) : (typeInfo t).run P w = .ok i w := by
  simp [typeInfo, h]

theorem run_isAgg' {P : Program} {t : TypeId} (h : hasT P t = true) (w : World) : (isAgg t).run P w = .ok (aggT P t) w := by
  obtain ⟨d, i, hd, hi⟩ := hasT_spec h
  cases d <;> simp [isAgg, run_underlying hd, aggT, hd]

theorem run_sizeOf' {P : Program} {t : TypeId} (h : hasT P t = true) (w : World) : (sizeOf t).run P w = .ok (szOf P t) w := by
  obtain ⟨d, i, hd, hi⟩ := hasT_spec h
  simp [sizeOf, run_typeInfo hi, szOf, hi]

theorem run_zeroValue' {P : Program} {t : TypeId} (h : okCells (cellsOf (zeroP P t)) = true) (w : World) :
    ∃ v, (zeroValue t).run P w = .ok v w ∧ ofVal v = zeroP P t := by
  unfold zeroP at h ⊢
  cases hi : P.info? t with
  | none => rw [hi] at h; simp [cellsOf, okCells, okCell] at h
  | some i =>
    rw [hi] at h
    cases hz : i.zero with
    | none => simp only [hz] at h; simp [cellsOf, okCells, okCell] at h
    | some v => exact ⟨v, by simp [zeroValue, run_typeInfo hi, hz], by simp only [hz]⟩

theorem okCells_all : ∀ {xs : List PV}, okCells xs = true ↔ ∀ x ∈ xs, okCell x = true
  | [] => by simp [okCells]
  | x :: r => by simp [okCells, okCells_all (xs := r)]
theorem okCells_get {xs : List PV} {j : Nat} {x : PV} (h : okCells xs = true) (hj : xs[j]? = some x) : okCell x = true :=
  okCells_all.1 h x (List.mem_of_getElem? hj)

section
variable {w : World} {Z Y : Nat → Prop} {L : Nat → Option Loc}

/-- Cell by cell. -/
def Reps (w : World) (Z Y : Nat → Prop) (L : Nat → Option Loc) (cs : List Value) (ps : List PV) : Prop :=
  cs.length = ps.length ∧ ∀ (j : Nat) (c : Value) (p : PV), cs[j]? = some c → ps[j]? = some p → Rep w Z Y L c p

theorem Rep.val1 {v : Value} (hd : okCell (ofVal1 v) = true) : Rep w Z Y L v (ofVal1 v) := by
  unfold ofVal1 at *
  split <;> first
    | exact .int _ _
    | exact .bool _
    | exact .str _
    | exact .nils _
    | exact .nilp
    | exact .nilf
    | exact .nili
    | simp_all [okCell]

theorem ofVal1_agg {v : Value} {xs : List PV} : ofVal1 v ≠ .agg xs := by
  unfold ofVal1; split <;> simp

theorem Rep.ofVal (v : Value) : Rep w Z Y L v (Go.Bb.ofVal v) := by
  have one : ∀ u : Value, Rep w Z Y L u (ofVal1 u) := fun u => by
    by_cases h : okCell (ofVal1 u) = true
    · exact .val1 h
    · have : ofVal1 u = .dead := by
        unfold ofVal1 at *
        split <;> simp_all [okCell]
      rw [this]; exact .dead u
  unfold Go.Bb.ofVal
  split
  · rename_i cs
    refine .agg cs _ (by simp) fun i c x h1 h2 => ?_
    have h1' : cs.toList[i]? = some c := by simpa using h1
    rw [List.getElem?_map, h1'] at h2
    simp at h2
    rw [← h2]; exact one c
  · exact one v

theorem Rep.cells {v : Value} {p : PV} (h : Rep w Z Y L v p) (ho : okCells (cellsOf p) = true) : Reps w Z Y L v.cells.toList (cellsOf p) := by
  have one : ∀ {u : Value} {q : PV}, Rep w Z Y L u q → Value.cells u = #[u] → cellsOf q = [q] → Reps w Z Y L u.cells.toList (cellsOf q) := by
    intro u q hr h1 h2
    rw [h1, h2]
    refine ⟨rfl, fun j c p a b => ?_⟩
    cases j with
    | zero => simp at a b; subst a b; exact hr
    | succ j => simp at a
  cases h with
  | agg cs xs hs hc =>
    refine ⟨by simpa [Value.cells, cellsOf] using hs, fun j c p a b => hc j c p (by simpa [Value.cells] using a) b⟩
  | tup cs xs hs hc => simp [cellsOf, okCells, okCell] at ho
  | dead v => simp [cellsOf, okCells, okCell] at ho
  | int k n => exact one (.int k n) rfl rfl
  | bool b => exact one (.bool b) rfl rfl
  | str s => exact one (.str s) rfl rfl
  | nilf => exact one .nilf rfl rfl
  | nili => exact one .nili rfl rfl
  | nilp => exact one .nilp rfl rfl
  | nils A => exact one (.nils A) rfl rfl
  | list y xs A b off c sz cv hl hA hx hv hc => exact one (.list y xs A b off c sz cv hl hA hx hv hc) rfl rfl
  | ro y x b off cv hz hx hv hc => exact one (.ro y x b off cv hz hx hv hc) rfl rfl
  | rom y ks vs r es clock hz hr hk hn hf hkf h1 h2 => exact one (.rom y ks vs r es clock hz hr hk hn hf hkf h1 h2) rfl rfl
  | refv o off loc hl hf => exact one (.refv o off loc hl hf) rfl rfl
  | refa o ver i off loc b a hl hf hv hA => exact one (.refa o ver i off loc b a hl hf hv hA) rfl rfl
  | own o ver i n loc A m c hl hf hv hA => exact one (.own o ver i n loc A m c hl hf hv hA) rfl rfl
  | map o loc hl hf => exact one (.map o loc hl hf) rfl rfl
  | iter o loc hl hf => exact one (.iter o loc hl hf) rfl rfl
  | clo f cs caps hs hc => exact one (.clo f cs caps hs hc) rfl rfl

theorem Rep.oneCell {v : Value} {p : PV} (h : Rep w Z Y L v p) (ho : okCell p = true) : v.oneCell' = true := by
  cases h <;> simp_all [okCell, Value.oneCell']

theorem Reps.oneCell {cs : List Value} {ps : List PV} (h : Reps w Z Y L cs ps) (ho : okCells ps = true) : ∀ v ∈ cs, v.oneCell' = true := by
  intro v hv
  obtain ⟨j, hj⟩ := List.getElem?_of_mem hv
  have hlt : j < ps.length := by have := (List.getElem?_eq_some_iff.1 hj).1; rw [h.1] at this; exact this
  exact (h.2 j v _ hj (List.getElem?_eq_getElem hlt)).oneCell (okCells_get ho (List.getElem?_eq_getElem hlt))

theorem Reps.mono {Y : Nat → Prop} {w w' : World} {Z Z' : Nat → Prop} {L L' : Nat → Option Loc} (g : Gr Y w Z L w' Z' L') {cs : List Value} {ps : List PV} (h : Reps w Z Y L cs ps) : Reps w' Z' Y L' cs ps :=
  ⟨h.1, fun j c p a b => (h.2 j c p a b).mono g⟩

theorem add_none (b off n : Nat) : (⟨b, off, none⟩ : Addr).add n = ⟨b, off + n, none⟩ := by unfold Addr.add; split <;> simp_all

theorem agg_of_cells {cs : List PV} {off n : Nat} {f : Nat → Value} (hle : off + n ≤ cs.length)
    (hf : ∀ (j : Nat) (p : PV), cs[j]? = some p → Rep w Z Y L (f j) p) :
    Rep w Z Y L (.agg ((List.range n).map fun j => f (off + j)).toArray) (.agg ((cs.drop off).take n)) := by
  refine .agg _ _ ?_ fun i c x h1 h2 => ?_
  · simp; omega
  · have hi : i < n := by
      have := (List.getElem?_eq_some_iff.1 h2).1
      simp at this; omega
    rw [List.getElem?_take_of_lt hi, List.getElem?_drop] at h2
    simp only [List.getElem?_toArray, List.getElem?_map, List.getElem?_range hi, Option.map_some, Option.some.injEq] at h1
    rw [← h1]; exact hf _ _ h2

/-- A load of a part of what lies in cells that are known. -/
theorem load_sub {P : Program} {t : TypeId} {cs : List PV} {off b base : Nat} {r : PV}
    (H : ∀ (j : Nat) (p : PV), cs[j]? = some p → ∃ c, cellAt w b (base + j) = some c ∧ Rep w Z Y L c p)
    (h : sub P t cs off = some r) : ∃ v, (loadVar t ⟨b, base + off, none⟩).run P w = .ok v w ∧ Rep w Z Y L v r := by
  unfold sub at h
  cases hT : hasT P t with
  | false => rw [hT] at h; simp at h
  | true =>
    rw [hT] at h
    simp only [cond_true] at h
    cases ha : aggT P t with
    | true =>
      rw [ha] at h
      simp only [cond_true] at h
      cases hle : Nat.ble (off + szOf P t) cs.length with
      | false => rw [hle] at h; simp at h
      | true =>
        rw [hle] at h
        simp only [cond_true, Option.some.injEq] at h
        subst h
        have hle' := Nat.le_of_ble_eq_true hle
        let f : Nat → Value := fun j => if hj : j < cs.length then (H j cs[j] (List.getElem?_eq_getElem hj)).choose else undef
        have hf : ∀ (j : Nat) (p : PV), cs[j]? = some p → cellAt w b (base + j) = some (f j) ∧ Rep w Z Y L (f j) p := by
          intro j p hp
          have hj := (List.getElem?_eq_some_iff.1 hp).1
          have hp' : cs[j] = p := (List.getElem?_eq_some_iff.1 hp).2
          have := (H j cs[j] (List.getElem?_eq_getElem hj)).choose_spec
          simp only [f, hj, dif_pos]
          rw [← hp']; exact this
        refine ⟨.agg ((List.range (szOf P t)).map fun j => f (off + j)).toArray, ?_, agg_of_cells hle' fun j p hp => (hf j p hp).2⟩
        have hl := run_loadCells (P := P) w ⟨b, base + off, none⟩ (szOf P t) (fun j => f (off + j)) (fun j hj => by
          rw [add_none, cell?_cellAt, Nat.add_assoc]
          exact (hf (off + j) cs[off + j] (List.getElem?_eq_getElem (by omega))).1)
        simp [loadVar, run_isAgg' hT, ha, run_sizeOf' hT, hl]
    | false =>
      rw [ha] at h
      simp only [cond_false] at h
      cases hc : cs[off]? with
      | none => rw [hc] at h; simp at h
      | some x =>
        rw [hc] at h
        have hx : x = r := by
          split at h <;> simp_all
        subst hx
        obtain ⟨c, h1, h2⟩ := H off x hc
        exact ⟨c, by simp [loadVar, run_isAgg' hT, ha, cell?_cellAt, h1], h2⟩
end
end Go.Bb

namespace Go.Bb

def updW (S : Nat → Option AObj) : Ws → Nat → Option AObj
  | [] => S
  | (o, x) :: r => updW (upd S o x) r

def Post (w0 : World) (M0 : Nat → Nat → Prop) (k0 : Nat) (Y Z : Nat → Prop) (w : World) (L : Nat → Option Loc) (S : Nat → Option AObj) (w' : World) (v : Value) (p : PV) (ws : Ws) : Prop :=
  ∃ Z' L', Sim w0 M0 k0 Y Z' w' L' (updW S ws) ∧ Gr Y w Z L w' Z' L' ∧ (∀ b, Z' b → Z b ∨ w0.heap.size ≤ b) ∧ Rep w' Z' Y L' v p

section
variable {P : Program} {w0 : World} {M0 : Nat → Nat → Prop} {k0 : Nat} {Y Z : Nat → Prop} {w : World} {L : Nat → Option Loc} {S : Nat → Option AObj} {rd : Rd}

theorem Post.quiet (h : Sim w0 M0 k0 Y Z w L S) {v : Value} {p : PV} (hr : Rep w Z Y L v p) : Post w0 M0 k0 Y Z w L S w v p [] :=
  ⟨Z, L, h, Gr.refl .., fun _ hb => .inl hb, hr⟩

theorem cellAt_of {b : Nat} {C : Array Value} {T : TypeId} {f : Nat × Nat} (h : w.heap[b]? = some (.cells C T f)) (off : Nat) : cellAt w b off = C[off]? := by
  unfold cellAt; rw [h]

theorem load_sound (h : Sim w0 M0 k0 Y Z w L S) (hrd : ∀ i obj, rd i = some obj → S i = some obj) {t : TypeId} {a r : PV} {va : Value}
    (ha : Rep w Z Y L va a) (hr : aLoad P rd t a = some r) : ∃ v, (Instr.loadAt t va).run P w = .ok v w ∧ Rep w Z Y L v r := by
  unfold aLoad at hr
  cases ha with
  | ro y x b off cv hz hx hv hc =>
    obtain ⟨v, h1, h2⟩ := load_sub (P := P) (t := t) (cs := cellsOf x) (off := 0) (b := b) (base := off) (w := w) (fun j p hp => ⟨cv j, hv j p hp, hc j p hp⟩) hr
    exact ⟨v, by simpa [Instr.loadAt, Instr.sureAddr] using h1, h2⟩
  | refv o off loc hl hf =>
    simp only at hr
    cases ho : rd o with
    | none => rw [ho] at hr; simp at hr
    | some obj =>
      rw [ho] at hr
      cases obj with
      | var x =>
        simp only at hr
        obtain ⟨_, _, C, T, h1, h2⟩ := h.objs o loc _ hl (hrd o _ ho)
        obtain ⟨v, h3, h4⟩ := load_sub (P := P) (t := t) (cs := cellsOf x) (off := off) (b := loc.block) (base := loc.base) (w := w) (fun j p hp => by
          obtain ⟨c, a1, a2⟩ := h2 j p hp; exact ⟨c, by rw [cellAt_of h1]; exact a1, a2⟩) hr
        exact ⟨v, by simpa [Instr.loadAt, Instr.sureAddr] using h3, h4⟩
      | _ => simp at hr
  | refa o ver i off loc b a hl hf hv hA =>
    simp only at hr
    cases ho : rd o with
    | none => rw [ho] at hr; simp at hr
    | some obj =>
      rw [ho] at hr
      cases obj with
      | arr v' sz xs =>
        simp only at hr
        cases hvv : Nat.beq v' ver with
        | false => rw [hvv] at hr; simp at hr
        | true =>
          rw [hvv] at hr
          simp only [cond_true] at hr
          cases hi : xs[i]? with
          | none => rw [hi] at hr; simp at hr
          | some e =>
            rw [hi] at hr
            simp only at hr
            obtain ⟨_, e2, e3, e4, e5, e6⟩ := h.objs o loc _ hl (hrd o _ ho)
            have hlt := (List.getElem?_eq_some_iff.1 hi).1
            have hcap : 0 < loc.cap := by omega
            obtain ⟨C, T, c1, c2, c3⟩ := e6 hcap
            have hver : loc.ver = ver := e2.trans (Nat.eq_of_beq_eq_true hvv)
            obtain ⟨rfl, rfl⟩ := hA hver
            obtain ⟨v, h3, h4⟩ := load_sub (P := P) (t := t) (cs := cellsOf e) (off := off) (b := loc.block) (base := loc.base + i * loc.sz) (w := w) (fun j p hp => by
              obtain ⟨c, a1, a2⟩ := c3 i e j p hi hp; exact ⟨c, by rw [cellAt_of c1]; exact a1, a2⟩) hr
            exact ⟨v, by simpa [Instr.loadAt, Instr.sureAddr] using h3, h4⟩
      | _ => simp at hr
  | _ => simp at hr

theorem run_fieldPlace {b off : Nat} {f : Field} (h1 : hasT P f.type = true) (h2 : szOf P f.type ≠ 0) :
    (fieldPlace ⟨b, off, none⟩ f).run P w = .ok ⟨b, off + f.offset, none⟩ w := by
  simp [fieldPlace, run_sizeOf' h1, h2, add_none]

theorem fieldOf_spec {t : TypeId} {f : Nat} {fd : Field} (h : fieldOf P t f = some fd) :
    ∃ fields, P.underlying t = some (.struct fields) ∧ fields[f]? = some fd ∧ hasT P fd.type = true := by
  unfold fieldOf at h
  cases hu : P.underlying t with
  | none => rw [hu] at h; simp at h
  | some d =>
    rw [hu] at h
    cases d with
    | struct fields =>
      simp only at h
      cases hf : fields.toList[f]? with
      | none => rw [hf] at h; simp at h
      | some x =>
        rw [hf] at h
        simp only at h
        cases hT : hasT P x.type with
        | false => rw [hT] at h; simp at h
        | true =>
          rw [hT] at h; simp at h; subst h
          exact ⟨fields, rfl, by simpa using hf, hT⟩
    | _ => simp at h

theorem sub_ro {t : TypeId} {y : Bool} {x r : PV} {b off o : Nat} {cv : Nat → Value} (hz : zone Z Y y b) (hx : x.frz y = true ∧ okCells (cellsOf x) = true)
    (hv : ∀ (j : Nat) (p : PV), (cellsOf x)[j]? = some p → cellAt w b (off + j) = some (cv j))
    (hc : ∀ (j : Nat) (p : PV), (cellsOf x)[j]? = some p → Rep w Z Y L (cv j) p) (h : sub P t (cellsOf x) o = some r) :
    Rep w Z Y L (.pointer (some ⟨b, off + o, none⟩)) (.ro y r) := by
  have hfr : ∀ p ∈ cellsOf x, p.frz y = true := frz_cells hx.1
  have hok : ∀ p ∈ cellsOf x, okCell p = true := okCells_all.1 hx.2
  unfold sub at h
  cases hT : hasT P t with
  | false => rw [hT] at h; simp at h
  | true =>
    rw [hT] at h
    simp only [cond_true] at h
    cases ha : aggT P t with
    | true =>
      rw [ha] at h
      simp only [cond_true] at h
      cases hle : Nat.ble (o + szOf P t) (cellsOf x).length with
      | false => rw [hle] at h; simp at h
      | true =>
        rw [hle] at h
        simp only [cond_true, Option.some.injEq] at h
        subst h
        have hle' := Nat.le_of_ble_eq_true hle
        have key : ∀ (j : Nat) (p : PV), (cellsOf (PV.agg ((List.drop o (cellsOf x)).take (szOf P t))))[j]? = some p → (cellsOf x)[o + j]? = some p := by
          intro j p hp
          have hj : j < szOf P t := by have := (List.getElem?_eq_some_iff.1 hp).1; simp [cellsOf] at this; omega
          simp only [cellsOf] at hp
          rw [List.getElem?_take_of_lt hj, List.getElem?_drop] at hp
          exact hp
        refine .ro y _ b (off + o) (fun j => cv (o + j)) hz ⟨?_, ?_⟩ (fun j p hp => ?_) (fun j p hp => hc _ p (key j p hp))
        · simp only [PV.frz, frzs_all]
          intro p hp
          exact hfr p (List.mem_of_mem_drop (List.mem_of_mem_take hp))
        · simp only [cellsOf, okCells_all]
          intro p hp
          exact hok p (List.mem_of_mem_drop (List.mem_of_mem_take hp))
        · rw [Nat.add_assoc]; exact hv _ p (key j p hp)
    | false =>
      rw [ha] at h
      simp only [cond_false] at h
      cases hcx : (cellsOf x)[o]? with
      | none => rw [hcx] at h; simp at h
      | some q =>
        rw [hcx] at h
        have hq : q = r ∧ cellsOf r = [r] := by
          split at h <;> simp_all
          cases r <;> simp_all [cellsOf]
        obtain ⟨rfl, hcell⟩ := hq
        refine .ro y q b (off + o) (fun _ => cv o) hz ⟨hfr q (List.mem_of_getElem? hcx), by rw [hcell]; simp [okCells, hok q (List.mem_of_getElem? hcx)]⟩ (fun j p hp => ?_) (fun j p hp => ?_) <;>
          rw [hcell] at hp <;> (cases j with | succ j => simp at hp | zero => _) <;> simp at hp <;> subst hp
        · exact hv o q hcx
        · exact hc o q hcx

theorem fieldAddr_sound {t : TypeId} {a r : PV} {f : Nat} {va : Value} (ha : Rep w Z Y L va a) (hr : aFieldAddr P t a f = some r) :
    ∃ v, (Instr.fieldAt t va f).run P w = .ok v w ∧ Rep w Z Y L v r := by
  unfold aFieldAddr at hr
  cases hf : fieldOf P t f with
  | none => rw [hf] at hr; simp at hr
  | some fd =>
    rw [hf] at hr
    obtain ⟨fields, u1, u2, u3⟩ := fieldOf_spec hf
    simp only at hr
    cases hz : Nat.beq (szOf P fd.type) 0 with
    | true => rw [hz] at hr; simp at hr
    | false =>
      rw [hz] at hr
      have hne : szOf P fd.type ≠ 0 := Nat.ne_of_beq_eq_false hz
      have run : ∀ b off, (Instr.fieldAt t (.pointer (some ⟨b, off, none⟩)) f).run P w = .ok (.pointer (some ⟨b, off + fd.offset, none⟩)) w := by
        intro b off
        simp [Instr.fieldAt, run_underlying u1, u2, Instr.sureAddr, run_fieldPlace u3 hne]
      simp only [cond_false] at hr
      cases ha with
      | refv o off loc hl hf' =>
        simp at hr; subst hr
        exact ⟨_, run _ _, by rw [Nat.add_assoc]; exact .refv o _ loc hl hf'⟩
      | refa o ver i off loc b a hl hf' hv hA =>
        simp at hr; subst hr
        exact ⟨_, run _ _, .refa o ver i _ loc b _ hl hf' hv (fun h => ⟨(hA h).1, by rw [(hA h).2, Nat.add_assoc]⟩)⟩
      | ro y x b off cv hz' hx hv hc =>
        simp only at hr
        cases hs : sub P fd.type (cellsOf x) fd.offset with
        | none => rw [hs] at hr; simp at hr
        | some q =>
          rw [hs] at hr
          simp at hr; subst hr
          exact ⟨_, run _ _, sub_ro hz' hx hv hc hs⟩
      | _ => simp at hr
end
end Go.Bb

