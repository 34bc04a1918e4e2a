/- Values carried from one activation to another; snapshots; calls. Snapshots are sound. Coming back from a call. Coming back from a call: the callee's last state, told in the caller's names. Calls. One operation. One operation is sound. -/
import Derived.Test.YtpififklhcfcnaaDoorB3
namespace Go.Bb
section
variable {P : Program} {w0 : World} {M0 : Nat → Nat → Prop} {k0 : Nat} {Y Z : Nat → Prop} {w : World} {L : Nat → Option Loc} {S : Nat → Option AObj} {rd : Rd}

theorem idss_get {q : Nat → Bool} : ∀ {xs : List PV} {i : Nat} {x : PV}, idss q xs = true → xs[i]? = some x → x.ids q = true
  | [], i, x, _, h => by simp at h
  | y :: r, 0, x, hf, h => by simp [idss] at hf; simp at h; subst h; exact hf.1
  | y :: r, i + 1, x, hf, h => by simp [idss] at hf; simp at h; exact idss_get hf.2 h
theorem idss_all {q : Nat → Bool} : ∀ {xs : List PV}, idss q xs = true ↔ ∀ x ∈ xs, x.ids q = true
  | [] => by simp [idss]
  | y :: r => by simp [idss, idss_all (xs := r)]
theorem unts_get : ∀ {xs : List PV} {i : Nat} {x : PV}, unts xs = true → xs[i]? = some x → x.unt = true
  | [], i, x, _, h => by simp at h
  | y :: r, 0, x, hf, h => by simp [unts] at hf; simp at h; subst h; exact hf.1
  | y :: r, i + 1, x, hf, h => by simp [unts] at hf; simp at h; exact unts_get hf.2 h
theorem rens_get {f : Nat → Nat} : ∀ {xs : List PV} {i : Nat} {y : PV}, (rens f xs)[i]? = some y → ∃ x, xs[i]? = some x ∧ y = x.ren f
  | [], i, y, h => by simp [rens] at h
  | x :: r, 0, y, h => by simp [rens] at h; exact ⟨x, rfl, h.symm⟩
  | x :: r, i + 1, y, h => by simp [rens] at h; obtain ⟨x', h1, h2⟩ := rens_get h; exact ⟨x', by simpa using h1, h2⟩
theorem rens_length {f : Nat → Nat} : ∀ (xs : List PV), (rens f xs).length = xs.length
  | [] => rfl
  | x :: r => by simp [rens, rens_length r]

theorem Rep.carry {Y' : Nat → Prop} {L2 : Nat → Option Loc} {ρ : Nat → Nat} {q : Nat → Bool} (hL : ∀ o loc, q o = true → L o = some loc → L2 (ρ o) = some loc)
    {v : Value} {p : PV} (h : Rep w Z Y L v p) : p.ids q = true → ((∀ b, Y b → Y' b) ∨ p.unt = true) → Rep w Z Y' L2 v (p.ren ρ) := by
  have leaf : ∀ {v : Value} {p : PV}, Rep w Z Y L v p → p.frz true = true → (p.unt = true → p.frz false = true) → ((∀ b, Y b → Y' b) ∨ p.unt = true) → Rep w Z Y' L2 v p := by
    intro v p h h1 h2 h3
    rcases h3 with h3 | h3
    · exact h.frozen (t := true) (fun _ => h3) h1
    · exact h.frozen (t := false) (by simp) (h2 h3)
  induction h with
  | int k n => intro _ _; exact .int k n
  | bool b => intro _ _; exact .bool b
  | str s => intro _ _; exact .str s
  | nilf => intro _ _; exact .nilf
  | nili => intro _ _; exact .nili
  | nilp => intro _ _; exact .nilp
  | nils A => intro _ _; exact .nils A
  | agg cs xs hs hc ih =>
    intro hq hY
    simp only [PV.ids] at hq
    simp only [PV.unt] at hY
    refine .agg cs _ (by rw [rens_length]; exact hs) fun i c y a b => ?_
    obtain ⟨x, h1, rfl⟩ := rens_get b
    exact ih i c x a h1 (idss_get hq h1) (hY.imp id fun hu => unts_get hu h1)
  | tup cs xs hs hc ih =>
    intro hq hY
    simp only [PV.ids] at hq
    simp only [PV.unt] at hY
    refine .tup cs _ (by rw [rens_length]; exact hs) fun i c y a b => ?_
    obtain ⟨x, h1, rfl⟩ := rens_get b
    exact ih i c x a h1 (idss_get hq h1) (hY.imp id fun hu => unts_get hu h1)
  | list y xs A b off c sz cv hl hA hx hv hc ih =>
    intro _ hY
    exact leaf (p := .list y xs) (.list y xs A b off c sz cv hl hA hx hv hc) rfl (fun h => by simpa [PV.frz, PV.unt] using h) hY
  | ro y x b off cv hz hx hv hc ih =>
    intro _ hY
    exact leaf (p := .ro y x) (.ro y x b off cv hz hx hv hc) rfl (fun h => by simpa [PV.frz, PV.unt] using h) hY
  | rom y ks vs r es clock hz hr hk hn hf hkf h1 h2 ih1 ih2 =>
    intro _ hY
    exact leaf (p := .rom y ks vs) (.rom y ks vs r es clock hz hr hk hn hf hkf h1 h2) rfl (fun h => by simpa [PV.frz, PV.unt] using h) hY
  | refv o off loc hl hf => intro hq _; exact .refv _ off loc (hL o loc hq hl) hf
  | refa o ver i off loc b a hl hf hv hA => intro hq _; exact .refa _ ver i off loc b a (hL o loc hq hl) hf hv hA
  | own o ver i n loc A m c hl hf hv hA => intro hq _; exact .own _ ver i n loc A m c (hL o loc hq hl) hf hv hA
  | map o loc hl hf => intro hq _; exact .map _ loc (hL o loc hq hl) hf
  | iter o loc hl hf => intro hq _; exact .iter _ loc (hL o loc hq hl) hf
  | clo f cs caps hs hc ih =>
    intro hq hY
    simp only [PV.ids] at hq
    simp only [PV.unt] at hY
    refine .clo f cs _ (by rw [rens_length]; exact hs) fun i c y a b => ?_
    obtain ⟨x, h1, rfl⟩ := rens_get b
    exact ih i c x a h1 (idss_get hq h1) (hY.imp id fun hu => unts_get hu h1)
  | dead v => intro _ _; exact .dead v

theorem Rep.ids_bound {m : Nat} (hb : ∀ o loc, L o = some loc → o < m) {v : Value} {p : PV} (h : Rep w Z Y L v p) : p.ids (fun i => Nat.blt i m) = true := by
  have blt : ∀ o loc, L o = some loc → Nat.blt o m = true := fun o loc h => by simpa [Nat.blt_eq] using hb o loc h
  have all : ∀ (xs : List PV) (cs : Array Value), cs.size = xs.length → (∀ (i : Nat) (c : Value) (x : PV), cs[i]? = some c → xs[i]? = some x → x.ids (fun i => Nat.blt i m) = true) → idss (fun i => Nat.blt i m) xs = true := by
    intro xs cs hs hc
    rw [idss_all]
    intro x hx
    obtain ⟨i, hi⟩ := List.getElem?_of_mem hx
    have hlt : i < cs.size := by rw [hs]; exact (List.getElem?_eq_some_iff.1 hi).1
    exact hc i cs[i] x (Array.getElem?_eq_getElem hlt) hi
  induction h with
  | agg cs xs hs hc ih => exact all xs cs hs ih
  | tup cs xs hs hc ih => exact all xs cs hs ih
  | clo f cs xs hs hc ih => exact all xs cs hs ih
  | refv o off loc hl hf => exact blt o loc hl
  | refa o ver i off loc b a hl hf hv hA => exact blt o loc hl
  | own o ver i n loc A m c hl hf hv hA => exact blt o loc hl
  | map o loc hl hf => exact blt o loc hl
  | iter o loc hl hf => exact blt o loc hl
  | _ => rfl

mutual
theorem frz_ids {q : Nat → Bool} {t : Bool} : ∀ (x : PV), x.frz t = true → x.ids q = true
  | .agg xs, h => by simp only [PV.frz] at h; simp only [PV.ids]; exact frzs_ids xs h
  | .tup xs, h => by simp only [PV.frz] at h; simp only [PV.ids]; exact frzs_ids xs h
  | .clo _ xs, h => by simp only [PV.frz] at h; simp only [PV.ids]; exact frzs_ids xs h
  | .int .., _ | .bool .., _ | .str .., _ | .nilf, _ | .nili, _ | .nilp, _ | .nils, _ => rfl
  | .list .., _ | .ro .., _ | .rom .., _ => rfl
  | .refv .., h | .refa .., h | .own .., h | .map .., h | .iter .., h | .dead, h => by simp [PV.frz] at h
theorem frzs_ids {q : Nat → Bool} {t : Bool} : ∀ (xs : List PV), frzs t xs = true → idss q xs = true
  | [], _ => rfl
  | x :: r, h => by
    simp only [frzs, Bool.and_eq_true] at h
    simp only [idss, Bool.and_eq_true]
    exact ⟨frz_ids x h.1, frzs_ids r h.2⟩
end

/- snapshots -/
theorem snap_okCell {n : Nat} {x y : PV} (h : snapN rd n x = some y) (ho : okCell x = true) : okCell y = true := by
  cases n with
  | zero => simp [snapN] at h
  | succ n =>
    unfold snapN at h
    cases x <;> simp only [Option.map_eq_some_iff, Option.some.injEq, reduceCtorEq] at h
    case agg => simp [okCell] at ho
    case tup => simp [okCell] at ho
    case clo => obtain ⟨ys, hm, rfl⟩ := h; rfl
    case own => obtain ⟨ys, hm, rfl⟩ := h; cases ys <;> rfl
    case refv o off =>
      split at h
      · cases hb : Nat.beq off 0 with
        | false => rw [hb] at h; simp at h
        | true => rw [hb] at h; simp only [cond_true, Option.map_eq_some_iff] at h; obtain ⟨_, _, rfl⟩ := h; rfl
      · simp at h
    case map =>
      split at h
      · simp at h; subst h; rfl
      · simp at h
    all_goals (subst h; rfl)

theorem snap_frz : ∀ (n : Nat) (x y : PV), snapN rd n x = some y → y.frz true = true
  | 0, x, y, h => by simp [snapN] at h
  | n + 1, x, y, h => by
    have all : ∀ (xs ys : List PV), mapO (snapN rd n) xs = some ys → frzs true ys = true := by
      intro xs ys hm
      obtain ⟨h1, h2⟩ := mapO_spec hm
      rw [frzs_all]
      intro y hy
      obtain ⟨i, hi⟩ := List.getElem?_of_mem hy
      have hlt : i < xs.length := by have := (List.getElem?_eq_some_iff.1 hi).1; omega
      exact snap_frz n _ y (h2 i _ y (List.getElem?_eq_getElem hlt) hi)
    unfold snapN at h
    cases x <;> simp only [Option.map_eq_some_iff, Option.some.injEq, reduceCtorEq] at h
    case agg => obtain ⟨ys, hm, rfl⟩ := h; simp only [PV.frz]; exact all _ ys hm
    case tup => obtain ⟨ys, hm, rfl⟩ := h; simp only [PV.frz]; exact all _ ys hm
    case clo => obtain ⟨ys, hm, rfl⟩ := h; simp only [PV.frz]; exact all _ ys hm
    case own => obtain ⟨ys, hm, rfl⟩ := h; cases ys <;> rfl
    case refv o off =>
      split at h
      · cases hb : Nat.beq off 0 with
        | false => rw [hb] at h; simp at h
        | true => rw [hb] at h; simp only [cond_true, Option.map_eq_some_iff] at h; obtain ⟨_, _, rfl⟩ := h; rfl
      · simp at h
    case map =>
      split at h
      · simp at h; subst h; rfl
      · simp at h
    all_goals (subst h; rfl)
end
end Go.Bb

namespace Go.Bb
section
variable {P : Program} {w0 : World} {M0 : Nat → Nat → Prop} {k0 : Nat} {Y Z : Nat → Prop} {w : World} {L : Nat → Option Loc} {S : Nat → Option AObj} {rd : Rd}

theorem snap_cells {n : Nat} {x y : PV} (h : snapN rd n x = some y) : ∀ (j : Nat) (q : PV), (cellsOf y)[j]? = some q → ∃ p m, m ≤ n ∧ (cellsOf x)[j]? = some p ∧ snapN rd m p = some q := by
  have h0 := h
  cases n with
  | zero => simp [snapN] at h
  | succ n =>
    have one : (∀ xs, x ≠ .agg xs) → (∀ ys, y ≠ .agg ys) → ∀ (j : Nat) (q : PV), (cellsOf y)[j]? = some q → ∃ p m, m ≤ n + 1 ∧ (cellsOf x)[j]? = some p ∧ snapN rd m p = some q := by
      intro hx hy j q hq
      have hcx : cellsOf x = [x] := by cases x <;> first | rfl | exact absurd rfl (hx _)
      have hcy : cellsOf y = [y] := by cases y <;> first | rfl | exact absurd rfl (hy _)
      rw [hcy] at hq
      rw [hcx]
      cases j with
      | zero => simp at hq; subst hq; exact ⟨x, n + 1, Nat.le_refl _, rfl, h0⟩
      | succ j => simp at hq
    unfold snapN at h
    cases x <;> simp only [Option.map_eq_some_iff, Option.some.injEq, reduceCtorEq] at h
    case agg xs =>
      obtain ⟨ys, hm, rfl⟩ := h
      intro j q hq
      obtain ⟨h1, h2⟩ := mapO_spec hm
      have hlt : j < xs.length := by have := (List.getElem?_eq_some_iff.1 hq).1; simp [cellsOf] at this; omega
      exact ⟨xs[j], n, by omega, by simp [cellsOf], h2 j _ q (List.getElem?_eq_getElem hlt) hq⟩
    case tup => obtain ⟨ys, hm, rfl⟩ := h; exact one (by simp) (by simp)
    case clo => obtain ⟨ys, hm, rfl⟩ := h; exact one (by simp) (by simp)
    case own => obtain ⟨ys, hm, rfl⟩ := h; exact one (by simp) (by cases ys <;> simp [snapL])
    case refv o off =>
      split at h
      · cases hb : Nat.beq off 0 with
        | false => rw [hb] at h; simp at h
        | true => rw [hb] at h; simp only [cond_true, Option.map_eq_some_iff] at h; obtain ⟨_, _, rfl⟩ := h; exact one (by simp) (by simp)
      · simp at h
    case map =>
      split at h
      · simp at h; subst h; exact one (by simp) (by simp)
      · simp at h
    all_goals (subst h; exact one (by simp) (by simp))

theorem snap_sound (h : Sim w0 M0 k0 Y Z w L S) (hrd : ∀ i obj, rd i = some obj → S i = some obj) :
    ∀ (N n : Nat), n ≤ N → ∀ (x y : PV) (v : Value), Rep w Z Y L v x → snapN rd n x = some y → Rep w Z (fun b => b < w.heap.size) (fun _ => none) v y
  | _, 0, _, x, y, v, _, hr => by simp [snapN] at hr
  | 0, n + 1, hn, _, _, _, _, _ => absurd hn (by omega)
  | N + 1, n + 1, hn, x, y, v, hv, hr => by
    have hY : ∀ b, Y b → b < w.heap.size := fun b hb => Nat.lt_of_lt_of_le (h.yl b hb).1 h.size
    have still : ∀ {v : Value} {p : PV}, Rep w Z Y L v p → p.frz true = true → Rep w Z (fun b => b < w.heap.size) (fun _ => none) v p := fun h1 h2 => h1.frozen (t := true) (fun _ => hY) h2
    have all : ∀ (xs ys : List PV) (cs : Array Value), cs.size = xs.length → (∀ (i : Nat) (c : Value) (x : PV), cs[i]? = some c → xs[i]? = some x → Rep w Z Y L c x) →
        mapO (snapN rd n) xs = some ys → cs.size = ys.length ∧ ∀ (i : Nat) (c : Value) (x : PV), cs[i]? = some c → ys[i]? = some x → Rep w Z (fun b => b < w.heap.size) (fun _ => none) c x := by
      intro xs ys cs hs hc hm
      obtain ⟨h1, h2⟩ := mapO_spec hm
      refine ⟨by omega, fun i c y' a b => ?_⟩
      have hlt : i < xs.length := by have := (List.getElem?_eq_some_iff.1 b).1; omega
      have hx := List.getElem?_eq_getElem hlt
      exact snap_sound h hrd N n (by omega) xs[i] y' c (hc i c _ a hx) (h2 i _ y' hx b)
    unfold snapN at hr
    have hv' := hv
    cases hv with
    | agg cs xs hs hc =>
      simp only at hr
      obtain ⟨ys, hm, rfl⟩ := Option.map_eq_some_iff.1 hr
      obtain ⟨a1, a2⟩ := all xs ys cs hs hc hm
      exact .agg cs ys a1 a2
    | tup cs xs hs hc =>
      simp only at hr
      obtain ⟨ys, hm, rfl⟩ := Option.map_eq_some_iff.1 hr
      obtain ⟨a1, a2⟩ := all xs ys cs hs hc hm
      exact .tup cs ys a1 a2
    | clo f cs xs hs hc =>
      simp only at hr
      obtain ⟨ys, hm, rfl⟩ := Option.map_eq_some_iff.1 hr
      obtain ⟨a1, a2⟩ := all xs ys cs hs hc hm
      exact .clo f cs ys a1 a2
    | nils A =>
      simp at hr; subst hr
      exact .list false [] A 0 0 0 0 (fun _ _ => undef) (Nat.le_refl _) (by simp) (by simp) (by simp) (by simp)
    | own o ver i m loc A m' c hl hf hvv hA =>
      simp only at hr
      obtain ⟨xs, hs, rfl⟩ := Option.map_eq_some_iff.1 hr
      unfold rdSl at hs
      simp only at hs
      cases ho : rd o with
      | none => rw [ho] at hs; simp at hs
      | some obj =>
        rw [ho] at hs
        cases obj with
        | arr v' sz zs =>
          simp only at hs
          cases hb : (Nat.beq v' ver && Nat.ble (i + m) zs.length) with
          | false => rw [hb] at hs; simp at hs
          | true =>
            rw [hb] at hs
            simp only [cond_true, Option.some.injEq] at hs
            simp only [Bool.and_eq_true] at hb
            obtain ⟨b1, b2⟩ := hb
            have b2 := Nat.le_of_ble_eq_true b2
            obtain ⟨hver, hm, hsl, hlen, hel⟩ := own_cells h hrd hl hA ho (Nat.eq_of_beq_eq_true b1) b2
            obtain ⟨_, a2, a3, a4⟩ := hA hver
            have hxl : xs.length = m := by rw [← hs]; simp; omega
            rw [hm, ← hxl]
            rw [hs] at hsl
            have hel' : ∀ x ∈ xs, x.frz false = true ∧ (cellsOf x).length = loc.sz ∧ okCells (cellsOf x) = true := fun x hx => by
              rw [← hs] at hx
              exact hel x (List.mem_of_mem_drop (List.mem_of_mem_take hx))
            cases xs with
            | nil => exact .list false [] A 0 0 c 0 (fun _ _ => undef) (Nat.zero_le _) (by simp) (by simp) (by simp) (by simp)
            | cons x0 xr =>
            show Rep w Z (fun b => b < w.heap.size) (fun _ => none) _ (.list true (x0 :: xr))
            refine Rep.list_of (sz := loc.sz) (c := c) (by omega) (fun x hx => ⟨frz_up x (hel' x hx).1, (hel' x hx).2⟩) ⟨hsl.1, fun hne => ?_⟩ (fun hne b off hAb => .inr ⟨rfl, ?_⟩)
            · obtain ⟨b, off, d1, d2⟩ := hsl.2 hne
              refine ⟨b, off, d1, fun i x j p e1 e2 => ?_⟩
              obtain ⟨c, c1, c2⟩ := d2 i x j p e1 e2
              exact ⟨c, c1, still c2 (frz_up p (frz_cells (hel' x (List.mem_of_getElem? e1)).1 p (List.mem_of_getElem? e2)))⟩
            · have hpos : 0 < (x0 :: xr).length := List.length_pos_iff.2 hne
              have hcap : 0 < loc.cap := by omega
              rw [a4 (by omega)] at hAb
              simp at hAb
              rw [← hAb.1]
              exact (h.blk o loc _ hl (hrd o _ ho) hcap).1
        | _ => simp at hs
    | refv o off loc hl hf =>
      simp only at hr
      cases ho : rd o with
      | none => rw [ho] at hr; simp at hr
      | some obj =>
        rw [ho] at hr
        cases obj with
        | var x0 =>
          simp only at hr
          cases hb : Nat.beq off 0 with
          | false => rw [hb] at hr; simp at hr
          | true =>
            rw [hb] at hr
            simp only [cond_true] at hr
            obtain ⟨y0, hy, rfl⟩ := Option.map_eq_some_iff.1 hr
            have h0 := Nat.eq_of_beq_eq_true hb; subst h0
            have hso := hrd o _ ho
            obtain ⟨_, ok0, C, T, c1, c2⟩ := h.objs o loc _ hl hso
            have get : ∀ (j : Nat) (q : PV), (cellsOf y0)[j]? = some q → ∃ c, cellAt w loc.block (loc.base + j) = some c ∧ Rep w Z (fun b => b < w.heap.size) (fun _ => none) c q ∧ okCell q = true := by
              intro j q hq
              obtain ⟨p, m, m1, m2, m3⟩ := snap_cells hy j q hq
              obtain ⟨c, d1, d2⟩ := c2 j p m2
              exact ⟨c, by rw [cellAt_of c1]; exact d1, snap_sound h hrd N m (by omega) p q c d2 m3, snap_okCell m3 (okCells_get ok0 m2)⟩
            let f : Nat → Value := fun j => if hj : j < (cellsOf y0).length then (get j _ (List.getElem?_eq_getElem hj)).choose else undef
            have hf : ∀ (j : Nat) (q : PV), (cellsOf y0)[j]? = some q → cellAt w loc.block (loc.base + j) = some (f j) ∧ Rep w Z (fun b => b < w.heap.size) (fun _ => none) (f j) q := by
              intro j q hq
              obtain ⟨hj, rfl⟩ := List.getElem?_eq_some_iff.1 hq
              have := (get j _ (List.getElem?_eq_getElem hj)).choose_spec
              simp only [f, hj, dif_pos]; exact ⟨this.1, this.2.1⟩
            refine .ro true y0 loc.block (loc.base + 0) f (.inr ⟨rfl, (h.blk o loc _ hl hso trivial).1⟩) ⟨snap_frz _ _ _ hy, okCells_all.2 fun q hq => ?_⟩ (fun j q hq => (hf j q hq).1) (fun j q hq => (hf j q hq).2)
            obtain ⟨j, hj⟩ := List.getElem?_of_mem hq
            exact (get j q hj).choose_spec.2.2
        | _ => simp at hr
    | map o loc hl hf =>
      simp only at hr
      cases ho : rd o with
      | none => rw [ho] at hr; simp at hr
      | some obj =>
        rw [ho] at hr
        cases obj with
        | map ks vs =>
          simp at hr; subst hr
          have hso := hrd o _ ho
          obtain ⟨_, es, clock, e1, e2, e3, e4, e5, e6, e7⟩ := h.objs o loc _ hl hso
          exact .rom true ks vs loc.block es clock (.inr ⟨rfl, (h.blk o loc _ hl hso trivial).1⟩) e1 e2 e3 (fun x hx => frz_up x (e4 x hx)) (fun x hx => frz_up x (e5 x hx))
            (fun i e k a b => still (e6 i e k a b) (frz_up k (e5 k (List.mem_of_getElem? b)))) (fun i e k a b => still (e7 i e k a b) (frz_up k (e4 k (List.mem_of_getElem? b))))
        | _ => simp at hr
    | refa o ver i off loc b a hl hf hvv hA => simp at hr
    | iter o loc hl hf => simp at hr
    | dead v => simp at hr
    | list y xs A b off c sz cv hl hA hx hvv hc => simp at hr; subst hr; exact still hv' rfl
    | ro y x b off cv hz hx hvv hc => simp at hr; subst hr; exact still hv' rfl
    | rom y ks vs r es clock hz hr' hk hn hf hkf h1 h2 => simp at hr; subst hr; exact still hv' rfl
    | int k n => simp at hr; subst hr; exact .int k n
    | bool b => simp at hr; subst hr; exact .bool b
    | str s => simp at hr; subst hr; exact .str s
    | nilf => simp at hr; subst hr; exact .nilf
    | nili => simp at hr; subst hr; exact .nili
    | nilp => simp at hr; subst hr; exact .nilp
end
end Go.Bb

namespace Go.Bb
section
variable {P : Program} {w0 : World} {M0 : Nat → Nat → Prop} {k0 : Nat} {Y Z : Nat → Prop} {w : World} {L : Nat → Option Loc} {S : Nat → Option AObj} {rd : Rd}

theorem pos_lt : ∀ {l : List Nat} {o : Nat}, o ∈ l → pos l o < l.length ∧ l[pos l o]? = some o
  | [], o, h => by simp at h
  | a :: r, o, h => by
    unfold pos
    cases hb : Nat.beq a o with
    | true => simp only [cond_true]; have := Nat.eq_of_beq_eq_true hb; subst this; simp
    | false =>
      simp only [cond_false]
      have hne : a ≠ o := by rintro rfl; rw [Nat.beq_refl] at hb; cases hb
      have := pos_lt (l := r) ((List.mem_cons.1 h).resolve_left (Ne.symm hne))
      simp only [List.length_cons, List.getElem?_cons_succ]
      exact ⟨by omega, this.2⟩
theorem pos_get : ∀ {l : List Nat} {i o : Nat}, l.Nodup → l[i]? = some o → pos l o = i
  | [], i, o, _, h => by simp at h
  | a :: r, 0, o, _, h => by simp at h; subst h; simp [pos, Nat.beq_refl]
  | a :: r, i + 1, o, hn, h => by
    simp at h
    simp only [List.nodup_cons] at hn
    have hne : a ≠ o := by rintro rfl; exact hn.1 (List.mem_of_getElem? h)
    unfold pos
    cases hb : Nat.beq a o with
    | true => exact absurd (Nat.eq_of_beq_eq_true hb) hne
    | false => simp only [cond_false]; rw [pos_get hn.2 h]

theorem numW_mem {f : Nat → Nat} : ∀ (σ : List AObj) (i : Nat) (p : Nat × AObj), p ∈ numW f i σ ↔ ∃ j x, σ[j]? = some x ∧ p = (f (i + j), x.ren f)
  | [], i, p => by simp [numW]
  | y :: r, i, p => by
    simp only [numW, List.mem_cons, numW_mem r (i + 1) p]
    constructor
    · rintro (rfl | ⟨j, x, h1, rfl⟩)
      · exact ⟨0, y, rfl, rfl⟩
      · exact ⟨j + 1, x, by simpa using h1, by rw [Nat.add_assoc, Nat.add_comm 1 j]⟩
    · rintro ⟨j, x, h1, rfl⟩
      cases j with
      | zero => simp at h1; subst h1; exact .inl rfl
      | succ j => exact .inr ⟨j, x, by simpa using h1, by rw [Nat.add_assoc, Nat.add_comm 1 j]⟩

theorem updW_mem : ∀ (ws : Ws) (S : Nat → Option AObj) (o : Nat) (x : AObj), (o, x) ∈ ws → (∀ y, (o, y) ∈ ws → y = x) → updW S ws o = some x
  | [], S, o, x, h, _ => by simp at h
  | (a, y) :: r, S, o, x, h, hu => by
    simp only [updW]
    by_cases hr : ∃ z, (o, z) ∈ r
    · obtain ⟨z, hz⟩ := hr
      have := hu z (List.mem_cons_of_mem _ hz); subst this
      exact updW_mem r _ o z hz fun y hy => hu y (List.mem_cons_of_mem _ hy)
    · rw [updW_ne r _ o (fun p hp hpo => hr ⟨p.2, by subst hpo; exact hp⟩)]
      rcases List.mem_cons.1 h with h | h
      · injection h with h1 h2; subst h1; subst h2; exact upd_same ..
      · exact absurd ⟨x, h⟩ hr

theorem cells_ren (ρ : Nat → Nat) (x : PV) : cellsOf (x.ren ρ) = rens ρ (cellsOf x) := by cases x <;> rfl
theorem okCell_ren (ρ : Nat → Nat) (x : PV) : okCell (x.ren ρ) = okCell x := by cases x <;> rfl
theorem okCells_ren (ρ : Nat → Nat) : ∀ (xs : List PV), okCells (rens ρ xs) = okCells xs
  | [] => rfl
  | x :: r => by simp only [rens, okCells, okCell_ren, okCells_ren ρ r]
theorem ids_cell {q : Nat → Bool} {x p : PV} {j : Nat} (h : x.ids q = true) (hp : (cellsOf x)[j]? = some p) : p.ids q = true := by
  have one : cellsOf x = [x] → p.ids q = true := by
    intro he; rw [he] at hp
    cases j with
    | zero => simp at hp; subst hp; exact h
    | succ j => simp at hp
  cases x <;> first
    | exact one rfl
    | (simp only [PV.ids] at h; exact idss_get h hp)
theorem unt_cell {x p : PV} {j : Nat} (h : x.unt = true) (hp : (cellsOf x)[j]? = some p) : p.unt = true := by
  have one : cellsOf x = [x] → p.unt = true := by
    intro he; rw [he] at hp
    cases j with
    | zero => simp at hp; subst hp; exact h
    | succ j => simp at hp
  cases x <;> first
    | exact one rfl
    | (simp only [PV.unt] at h; exact unts_get h hp)

theorem ObjRep.carry {Y' : Nat → Prop} {L2 : Nat → Option Loc} {ρ : Nat → Nat} {q : Nat → Bool} (hL : ∀ o loc, q o = true → L o = some loc → L2 (ρ o) = some loc)
    {loc : Loc} {obj : AObj} (h : ObjRep w Z Y L loc obj) (hq : objOk q obj = true) (hY : (∀ b, Y b → Y' b) ∨ objUnt obj = true) : ObjRep w Z Y' L2 loc (obj.ren ρ) := by
  have still : ∀ {c : Value} {p : PV}, Rep w Z Y L c p → p.frz false = true → Rep w Z Y' L2 c p := fun h1 h2 => h1.frozen (t := false) (by simp) h2
  cases obj with
  | var x =>
    obtain ⟨h0, h0', C, T, h1, h2⟩ := h
    simp only [objOk] at hq
    simp only [objUnt] at hY
    have hcr := cells_ren ρ x
    refine ⟨h0, by rw [hcr, okCells_ren]; exact h0', C, T, h1, fun j p hj => ?_⟩
    rw [hcr] at hj
    obtain ⟨p', hp, rfl⟩ := rens_get hj
    obtain ⟨c, c1, c2⟩ := h2 j p' hp
    exact ⟨c, c1, c2.carry hL (ids_cell hq hp) (hY.imp id fun hu => unt_cell hu hp)⟩
  | arr ver sz xs =>
    obtain ⟨h0, h1, hsz, h2, h3, h4⟩ := h
    refine ⟨h0, h1, hsz, h2, h3, fun hc => ?_⟩
    obtain ⟨C, T, a, b, d⟩ := h4 hc
    exact ⟨C, T, a, b, fun i x j p hi hj => let ⟨c, u, v⟩ := d i x j p hi hj; ⟨c, u, still v (frz_cells (h3 x (List.mem_of_getElem? hi)).1 p (List.mem_of_getElem? hj))⟩⟩
  | map ks vs =>
    obtain ⟨h0, es, clock, h1, h2, h3, h4, h5, h6, h7⟩ := h
    exact ⟨h0, es, clock, h1, h2, h3, h4, h5, fun i e k a b => still (h6 i e k a b) (h5 k (List.mem_of_getElem? b)), fun i e k a b => still (h7 i e k a b) (h4 k (List.mem_of_getElem? b))⟩
  | iter s pos => exact h
end
end Go.Bb

namespace Go.Bb

/-- The passed object, or the new one, that a name of the caller's stands for. -/
def invR (T : List Nat) (k m o : Nat) : Option Nat := if memN T o then some (pos T o) else if k ≤ o ∧ T.length + (o - k) < m then some (T.length + (o - k)) else none
theorem invR_out {T : List Nat} {k m i : Nat} (hn : T.Nodup) (hk : ∀ o ∈ T, o < k) (hi : i < m) : invR T k m (outR T k i) = some i := by
  unfold outR invR
  cases h : T[i]? with
  | some o =>
    simp only
    rw [(memN_iff T o).2 (List.mem_of_getElem? h), if_pos rfl, pos_get hn h]
  | none =>
    have hle := List.getElem?_eq_none_iff.1 h
    simp only
    have hm : ¬ memN T (k + (i - T.length)) = true := fun hm => by have := hk _ ((memN_iff _ _).1 hm); omega
    rw [if_neg hm, if_pos ⟨by omega, by omega⟩]
    congr 1; omega
theorem outR_inv {T : List Nat} {k m o i : Nat} (hl : T.length ≤ m) (h : invR T k m o = some i) : i < m ∧ outR T k i = o := by
  unfold invR at h
  split at h
  · rename_i hm
    injection h with h; subst h
    obtain ⟨h1, h2⟩ := pos_lt ((memN_iff _ _).1 hm)
    exact ⟨by omega, by unfold outR; rw [h2]⟩
  · split at h
    · rename_i h1
      injection h with h; subst h
      refine ⟨h1.2, ?_⟩
      unfold outR
      rw [List.getElem?_eq_none (by omega)]
      simp only; omega
    · cases h

section
variable {P : Program} {w0 : World} {M0 : Nat → Nat → Prop} {k0 : Nat} {Y Z : Nat → Prop} {w : World} {L : Nat → Option Loc} {S : Nat → Option AObj} {rd : Rd}

theorem ret_join (h : Sim w0 M0 k0 Y Z w L S) {T : List Nat} {k : Nat} (hn : T.Nodup) (hk : ∀ o ∈ T, o < k) {σ' : List AObj} {res : PV} {v : Value}
    (fresh : ∀ p ∈ numW (outR T k) 0 σ', k ≤ p.1 → L p.1 = none)
    {Y2 : Nat → Prop} (hY2 : ∀ b, Y b → Y2 b) {M1 : Nat → Nat → Prop} (hM1 : ∀ i b, M1 i b → ∃ o loc obj, T[i]? = some o ∧ L o = some loc ∧ S o = some obj ∧ live loc obj ∧ b = loc.block)
    {Z' : Nat → Prop} {w' : World} {L1 L' : Nat → Option Loc} (hT : ∀ (i o : Nat), T[i]? = some o → ∃ loc, L o = some loc ∧ L1 i = some loc)
    (s' : Sim w M1 T.length Y2 Z' w' L' (σ'[·]?)) (g' : Gr Y2 w Z L1 w' Z' L')
    (hz' : ∀ b, Z' b → Z b ∨ w.heap.size ≤ b) (hun : (∀ b, Y2 b → Y b) ∨ (res.unt = true ∧ ∀ x ∈ σ', objUnt x = true))
    (hr : Rep w' Z' Y2 L' v res) : Post w0 M0 k0 Y Z w L S w' v (res.ren (outR T k)) (numW (outR T k) 0 σ') := by
  have bound : ∀ o loc, L' o = some loc → o < σ'.length := fun o loc hl => by
    obtain ⟨obj, ho⟩ := s'.some_of_L hl
    exact (List.getElem?_eq_some_iff.1 ho).1
  have hlen : T.length ≤ σ'.length := by
    rcases Nat.eq_zero_or_pos T.length with h0 | h0
    · omega
    · obtain ⟨loc, h1, h2⟩ := hT (T.length - 1) T[T.length - 1] (List.getElem?_eq_getElem (by omega))
      obtain ⟨l, h3, _⟩ := g'.ll _ _ h2
      have := bound _ _ h3; omega
  let L2 : Nat → Option Loc := fun o => match invR T k σ'.length o with
    | some i => L' i
    | none => L o
  have L2out : ∀ i, i < σ'.length → L2 (outR T k i) = L' i := fun i hi => by simp only [L2, invR_out hn hk hi]
  have hcar : ∀ o loc, Nat.blt o σ'.length = true → L' o = some loc → L2 (outR T k o) = some loc := fun o loc hb hl => by
    rw [L2out o (bound o loc hl)]; exact hl
  -- the new store
  have S2in : ∀ o i, invR T k σ'.length o = some i → ∃ x, σ'[i]? = some x ∧ updW S (numW (outR T k) 0 σ') o = some (x.ren (outR T k)) := by
    intro o i hi
    obtain ⟨h1, h2⟩ := outR_inv hlen hi
    refine ⟨σ'[i], List.getElem?_eq_getElem h1, updW_mem _ _ _ _ ((numW_mem _ _ _).2 ⟨i, σ'[i], List.getElem?_eq_getElem h1, by rw [Nat.zero_add, h2]⟩) fun y hy => ?_⟩
    obtain ⟨j, x, h3, h4⟩ := (numW_mem _ _ _).1 hy
    injection h4 with h4 h5
    rw [Nat.zero_add] at h4
    have hj : j < σ'.length := (List.getElem?_eq_some_iff.1 h3).1
    have : j = i := by
      have e1 := invR_out (k := k) hn hk hj
      rw [← h4, hi] at e1
      injection e1 with e1; exact e1.symm
    subst this
    rw [List.getElem?_eq_getElem h1] at h3
    injection h3 with h3
    rw [h5, h3]
  have S2out : ∀ o, invR T k σ'.length o = none → updW S (numW (outR T k) 0 σ') o = S o := by
    intro o ho
    refine updW_ne _ _ _ fun p hp hpo => ?_
    obtain ⟨j, x, h3, rfl⟩ := (numW_mem _ _ _).1 hp
    simp only [Nat.zero_add] at hpo
    have := invR_out (k := k) hn hk (List.getElem?_eq_some_iff.1 h3).1
    rw [hpo, ho] at this; cases this
  have notT : ∀ o, invR T k σ'.length o = none → o ∉ T := fun o ho hm => by
    unfold invR at ho
    rw [(memN_iff T o).2 hm] at ho; simp at ho
  have bl : ∀ o loc obj, L o = some loc → S o = some obj → live loc obj → o ∉ T → loc.block < w.heap.size ∧ ∀ i, ¬ M1 i loc.block := by
    intro o loc obj h1 h2 h3 h4
    refine ⟨(h.blk o loc obj h1 h2 h3).1, fun i hm => ?_⟩
    obtain ⟨o', loc', obj', e1, e2, e3, e4, e5⟩ := hM1 i _ hm
    exact h.sep o o' loc loc' obj obj' (by rintro rfl; exact h4 (List.mem_of_getElem? e1)) h1 e2 h2 e3 h3 e4 e5
  have kept : ∀ b, b < w.heap.size → (∀ i, ¬ M1 i b) → w'.heap[b]? = w.heap[b]? := s'.kept
  have zm : ∀ b, (Z b ∨ Y b) → b < w.heap.size ∧ ∀ i, ¬ M1 i b := by
    intro b hb
    have hlt : b < w.heap.size := hb.elim (fun hb => (h.zl b hb).1) (fun hb => Nat.lt_of_lt_of_le (h.yl b hb).1 h.size)
    refine ⟨hlt, fun i hm => ?_⟩
    obtain ⟨o', loc', obj', e1, e2, e3, e4, rfl⟩ := hM1 i _ hm
    obtain ⟨_, b2, b3, _⟩ := h.blk o' loc' obj' e2 e3 e4
    exact hb.elim b2 b3
  have g : Gr Y w Z L w' Z' L2 := by
    refine ⟨fun b hb => kept b (zm b hb).1 (zm b hb).2, g'.zz, fun o loc hl => ?_⟩
    simp only [L2]
    cases hi : invR T k σ'.length o with
    | none => exact ⟨loc, hl, .inl rfl⟩
    | some i =>
      simp only
      obtain ⟨h1, h2⟩ := outR_inv hlen hi
      by_cases hlt : i < T.length
      · have hti : T[i]? = some o := by
          have := List.getElem?_eq_getElem hlt
          rw [this]; unfold outR at h2; rw [this] at h2; simp only at h2; rw [h2]
        obtain ⟨l, h3, h4⟩ := hT i o hti
        rw [hl] at h3; injection h3 with h3; subst h3
        exact g'.ll i _ h4
      · exfalso
        have hge : k ≤ o := by
          unfold outR at h2
          rw [List.getElem?_eq_none (by omega)] at h2
          simp only at h2; omega
        have hmem : (o, σ'[i].ren (outR T k)) ∈ numW (outR T k) 0 σ' := (numW_mem _ _ _).2 ⟨i, σ'[i], List.getElem?_eq_getElem h1, by rw [Nat.zero_add, h2]⟩
        have := fresh _ hmem hge
        simp only at this
        rw [hl] at this; cases this
  refine ⟨Z', L2, ⟨s'.os.trans h.os, s'.tape.trans h.tape, s'.output.trans h.output, Nat.le_trans h.size s'.size, ?_, ?_, ?_, ?_, ?_, ?_, h.yl⟩, g, fun b hb => (hz' b hb).imp id fun hb => Nat.le_trans h.size hb,
    hr.carry hcar (hr.ids_bound bound) (hun.imp id (·.1))⟩
  · intro b hb hm
    rw [kept b (Nat.lt_of_lt_of_le hb h.size) fun i hmi => ?_]
    · exact h.kept b hb hm
    · obtain ⟨o', loc', obj', e1, e2, e3, e4, rfl⟩ := hM1 i _ hmi
      obtain ⟨_, _, _, b4⟩ := h.blk o' loc' obj' e2 e3 e4
      rcases b4 with b4 | b4
      · omega
      · exact hm _ b4.2
  · intro o
    cases hi : invR T k σ'.length o with
    | none => rw [S2out o hi]; simp only [L2, hi]; exact h.dom o
    | some i =>
      obtain ⟨x, h1, h2⟩ := S2in o i hi
      rw [h2]; simp only [L2, hi]
      have := s'.dom i; rw [h1] at this; rw [this]; rfl
  · intro o loc obj h1 h2
    cases hi : invR T k σ'.length o with
    | none =>
      rw [S2out o hi] at h2
      simp only [L2, hi] at h1
      refine (h.objs o loc obj h1 h2).mono g fun hv => ?_
      obtain ⟨b1, b2⟩ := bl o loc obj h1 h2 hv (notT o hi)
      exact kept _ b1 b2
    | some i =>
      obtain ⟨x, h3, h4⟩ := S2in o i hi
      rw [h4] at h2; injection h2 with h2; subst h2
      simp only [L2, hi] at h1
      have ob := s'.objs i loc x h1 h3
      refine ob.carry hcar ?_ (hun.imp id fun hu => hu.2 x (List.mem_of_getElem? h3))
      cases x with
      | var y =>
        obtain ⟨_, _, C, T', c1, c2⟩ := ob
        show y.ids _ = true
        have all : ∀ p ∈ cellsOf y, p.ids (fun i => Nat.blt i σ'.length) = true := by
          intro p hp
          obtain ⟨j, hj⟩ := List.getElem?_of_mem hp
          obtain ⟨c, _, c4⟩ := c2 j p hj
          exact c4.ids_bound bound
        cases y with
        | agg xs => simp only [PV.ids]; rw [idss_all]; exact all
        | _ => exact all _ (by simp [cellsOf])
      | _ => rfl
  · intro o loc obj h1 h2 hv
    cases hi : invR T k σ'.length o with
    | none =>
      rw [S2out o hi] at h2
      simp only [L2, hi] at h1
      obtain ⟨b1, b2, b3, b4⟩ := h.blk o loc obj h1 h2 hv
      refine ⟨Nat.lt_of_lt_of_le b1 s'.size, fun hz => ?_, b3, b4⟩
      rcases hz' _ hz with hz | hz
      · exact b2 hz
      · omega
    | some i =>
      obtain ⟨x, h3, h4⟩ := S2in o i hi
      rw [h4] at h2; injection h2 with h2; subst h2
      simp only [L2, hi] at h1
      have hv' : live loc x := by cases x <;> exact hv
      obtain ⟨b1, b2, b3, b4⟩ := s'.blk i loc x h1 h3 hv'
      refine ⟨b1, b2, fun hy => b3 (hY2 _ hy), ?_⟩
      rcases b4 with b4 | ⟨b4, b5⟩
      · exact .inl (Nat.le_trans h.size b4)
      · obtain ⟨o', loc', obj', e1, e2, e3, e4, e5⟩ := hM1 i _ b5
        have : o' = o := by
          have := (outR_inv hlen hi).2
          unfold outR at this; rw [e1] at this; exact this
        subst this
        rw [e5]
        exact (h.blk o' loc' obj' e2 e3 e4).2.2.2
  · intro o o' loc loc' obj obj' hne h1 h1' h2 h2' hv hv'
    have mix : ∀ o o' loc loc' obj obj' i, invR T k σ'.length o = some i → invR T k σ'.length o' = none → L2 o = some loc → L2 o' = some loc' → updW S (numW (outR T k) 0 σ') o = some obj → updW S (numW (outR T k) 0 σ') o' = some obj' →
        live loc obj → live loc' obj' → loc.block ≠ loc'.block := by
      intro o o' loc loc' obj obj' i hi hi' h1 h1' h2 h2' hv hv'
      obtain ⟨x, h3, h4⟩ := S2in o i hi
      rw [h4] at h2; injection h2 with h2; subst h2
      simp only [L2, hi] at h1
      have hvx : live loc x := by cases x <;> exact hv
      rw [S2out o' hi'] at h2'
      simp only [L2, hi'] at h1'
      obtain ⟨b1, b2⟩ := bl o' loc' obj' h1' h2' hv' (notT o' hi')
      obtain ⟨_, _, _, b4⟩ := s'.blk i loc x h1 h3 hvx
      rcases b4 with b4 | b4
      · omega
      · intro he; exact b2 i (he ▸ b4.2)
    cases hi : invR T k σ'.length o with
    | none =>
      cases hi' : invR T k σ'.length o' with
      | none =>
        rw [S2out o hi] at h2; rw [S2out o' hi'] at h2'
        simp only [L2, hi] at h1; simp only [L2, hi'] at h1'
        exact h.sep o o' loc loc' obj obj' hne h1 h1' h2 h2' hv hv'
      | some i' => exact Ne.symm (mix o' o loc' loc obj' obj i' hi' hi h1' h1 h2' h2 hv' hv)
    | some i =>
      cases hi' : invR T k σ'.length o' with
      | none => exact mix o o' loc loc' obj obj' i hi hi' h1 h1' h2 h2' hv hv'
      | some i' =>
        obtain ⟨x, h3, h4⟩ := S2in o i hi
        rw [h4] at h2; injection h2 with h2; subst h2
        obtain ⟨x', h3', h4'⟩ := S2in o' i' hi'
        rw [h4'] at h2'; injection h2' with h2'; subst h2'
        simp only [L2, hi] at h1; simp only [L2, hi'] at h1'
        refine s'.sep i i' loc loc' x x' (fun he => hne ?_) h1 h1' h3 h3' (by cases x <;> exact hv) (by cases x' <;> exact hv')
        subst he
        rw [← (outR_inv hlen hi).2, ← (outR_inv hlen hi').2]
  · intro b hb
    refine ⟨(s'.zl b hb).1, fun hlt => ?_⟩
    rcases hz' b hb with hz | hz
    · exact (h.zl b hz).2 hlt
    · have := h.size; omega
end
end Go.Bb

namespace Go.Bb
section
variable {P : Program} {w0 : World} {M0 : Nat → Nat → Prop} {k0 : Nat} {Y Z : Nat → Prop} {w : World} {L : Nat → Option Loc} {S : Nat → Option AObj} {rd : Rd}

/-- The variables that hold what is at rest. -/
def GOk (E : Envt) (w : World) (Z : Nat → Prop) : Prop := ∀ g x, E.G g = some x → Rep w Z (fun _ => False) (fun _ => none) (.pointer (some ⟨g, 0, none⟩)) (.ro false x)

theorem GOk.mono {E : Envt} {w' : World} {Z' : Nat → Prop} {L' : Nat → Option Loc} (g : Gr Y w Z L w' Z' L') (h : GOk E w Z) : GOk E w' Z' := fun i x hx =>
  (h i x hx).mono (Y := fun _ => False) ⟨fun b hb => g.heap b (hb.imp_right False.elim), g.zz, by simp⟩

def CallPost (w : World) (M0 : Nat → Nat → Prop) (k0 : Nat) (Y Z : Nat → Prop) (L : Nat → Option Loc) (res : PV) (σ' : List AObj) (e : Ending) (w' : World) : Prop :=
  ∃ v Z' L', e = .returned v ∧ Sim w M0 k0 Y Z' w' L' (σ'[·]?) ∧ Gr Y w Z L w' Z' L' ∧ (∀ b, Z' b → Z b ∨ w.heap.size ≤ b) ∧ Rep w' Z' Y L' v res

/-- Every answer of the evaluator is the program's. -/
def CallOk (E : Envt) (call : Callf) : Prop := ∀ (f : FuncId) (args : List PV) (σ : List AObj) (res : PV) (σ' : List AObj), call f args σ = some (res, σ') →
  ∀ (w : World) (M0 : Nat → Nat → Prop) (Y Z : Nat → Prop) (L : Nat → Option Loc) (vs : Array Value), Sim w M0 σ.length Y Z w L (σ[·]?) → GOk E w Z →
    vs.size = args.length → (∀ (i : Nat) (c : Value) (x : PV), vs[i]? = some c → args[i]? = some x → Rep w Z Y L c x) → Calls E.P f vs w (CallPost w M0 σ.length Y Z L res σ')

theorem closeN_nodup : ∀ (n : Nat) (l done : List Nat), done.Nodup → (closeN rd n l done).Nodup
  | 0, l, done, h => by unfold closeN; exact h
  | n + 1, [], done, h => by unfold closeN; exact h
  | n + 1, o :: r, done, h => by
    unfold closeN
    cases hm : memN done o with
    | true => exact closeN_nodup n r done h
    | false =>
      refine closeN_nodup n _ _ ?_
      rw [List.nodup_append]
      refine ⟨h, by simp, fun x hx y hy => ?_⟩
      simp at hy; subst hy
      rintro rfl
      rw [(memN_iff done x).2 hx] at hm; cases hm

theorem map_getElem {α β : Type} {f : α → β} {l : List α} {i : Nat} {y : β} (h : (l.map f)[i]? = some y) : ∃ x, l[i]? = some x ∧ y = f x := by
  rw [List.getElem?_map] at h
  obtain ⟨x, h1, h2⟩ := Option.map_eq_some_iff.1 h
  exact ⟨x, h1, h2.symm⟩

theorem acallT_sound {E : Envt} {call : Callf} (hcall : CallOk E call) (h : Sim w0 M0 k0 Y Z w L S) (hrd : ∀ i obj, rd i = some obj → S i = some obj) {k : Nat} (hrk : ∀ o, rd o ≠ none → o < k) (hG : GOk E w Z)
    {f : FuncId} {args : List PV} {vs : Array Value} (hs : vs.size = args.length) (ha : ∀ (i : Nat) (c : Value) (x : PV), vs[i]? = some c → args[i]? = some x → Rep w Z Y L c x)
    {T : List Nat} (hn : T.Nodup) {eff : Eff} (hr : acallT call rd k f args T = some eff) (fresh : ∀ p ∈ eff.ws, k ≤ p.1 → L p.1 = none) :
    Calls E.P f vs w fun e w' => ∃ v, e = .returned v ∧ Post w0 M0 k0 Y Z w L S w' v eff.val eff.ws := by
  unfold acallT at hr
  cases hm : mapO rd T with
  | none => rw [hm] at hr; simp at hr
  | some objs =>
    rw [hm] at hr
    simp only at hr
    cases hb : (idss (memN T) args && objs.all (objOk (memN T))) with
    | false => rw [hb] at hr; simp at hr
    | true =>
      rw [hb] at hr
      simp only [cond_true] at hr
      cases hc : call f (args.map (·.ren (pos T))) (objs.map (·.ren (pos T))) with
      | none => rw [hc] at hr; simp at hr
      | some rs =>
        obtain ⟨res, σ'⟩ := rs
        rw [hc] at hr
        simp only [Option.some.injEq] at hr
        subst hr
        rw [Bool.and_eq_true] at hb
        obtain ⟨m1, m2⟩ := mapO_spec hm
        have rdT : ∀ (i o : Nat), T[i]? = some o → ∃ obj loc, objs[i]? = some obj ∧ rd o = some obj ∧ S o = some obj ∧ L o = some loc := by
          intro i o hi
          have hlt : i < objs.length := by have := (List.getElem?_eq_some_iff.1 hi).1; omega
          have h1 := List.getElem?_eq_getElem hlt
          have h2 := m2 i o _ hi h1
          obtain ⟨loc, hl⟩ := h.some_of_S (hrd _ _ h2)
          exact ⟨_, loc, h1, h2, hrd _ _ h2, hl⟩
        have hk : ∀ o ∈ T, o < k := fun o ho => by
          obtain ⟨i, hi⟩ := List.getElem?_of_mem ho
          obtain ⟨obj, _, _, h2, _, _⟩ := rdT i o hi
          exact hrk o (by rw [h2]; simp)
        let L1 : Nat → Option Loc := fun i => (T[i]?).bind L
        let M1 : Nat → Nat → Prop := fun i b => ∃ o loc obj, T[i]? = some o ∧ L o = some loc ∧ S o = some obj ∧ live loc obj ∧ b = loc.block
        have hlen : (objs.map (·.ren (pos T))).length = T.length := by simp [m1]
        have hcar : ∀ o loc, memN T o = true → L o = some loc → L1 (pos T o) = some loc := fun o loc ho hl => by
          simp only [L1, (pos_lt ((memN_iff T o).1 ho)).2]; exact hl
        have inL : ∀ (i : Nat) (loc : Loc), L1 i = some loc → ∃ o, T[i]? = some o ∧ L o = some loc := fun i loc hl => by
          simp only [L1] at hl
          obtain ⟨o, h1, h2⟩ := Option.bind_eq_some_iff.1 hl
          exact ⟨o, h1, h2⟩
        have inS : ∀ (i : Nat) (obj : AObj), (objs.map (·.ren (pos T)))[i]? = some obj → ∃ o x, T[i]? = some o ∧ S o = some x ∧ x ∈ objs ∧ obj = x.ren (pos T) := fun i obj ho => by
          obtain ⟨x, h1, h2⟩ := map_getElem ho
          have hlt : i < T.length := by have := (List.getElem?_eq_some_iff.1 h1).1; omega
          obtain ⟨obj', _, h3, _, h5, _⟩ := rdT i T[i] (List.getElem?_eq_getElem hlt)
          rw [h1] at h3; injection h3 with h3; subst h3
          exact ⟨_, x, List.getElem?_eq_getElem hlt, h5, List.mem_of_getElem? h1, h2⟩
        have lv : ∀ {loc : Loc} {x : AObj}, live loc (x.ren (pos T)) → live loc x := fun {loc x} hv => by cases x <;> exact hv
        have s1 : Sim w M1 (objs.map (·.ren (pos T))).length Y Z w L1 ((objs.map (·.ren (pos T)))[·]?) := by
          refine ⟨rfl, rfl, rfl, Nat.le_refl _, fun _ _ _ => rfl, fun i => ?_, fun i loc obj h1 h2 => ?_, fun i loc obj h1 h2 h3 => ?_, fun i j loc loc' obj obj' hij h1 h1' h2 h2' h3 h3' => ?_, fun b hb => ⟨(h.zl b hb).1, fun _ i hm => ?_⟩,
            fun b hb => ⟨Nat.lt_of_lt_of_le (h.yl b hb).1 h.size, fun i hm => ?_⟩⟩
          · cases ht : T[i]? with
            | none =>
              have := List.getElem?_eq_none_iff.1 ht
              simp only [L1, ht, Option.bind_none, Option.isSome_none]
              rw [List.getElem?_eq_none (by omega)]; rfl
            | some o =>
              obtain ⟨obj, loc, h3, _, _, h6⟩ := rdT i o ht
              simp [L1, ht, h6, h3]
          · obtain ⟨o, h3, h4⟩ := inL i loc h1
            obtain ⟨o', x, h5, h6, h7, rfl⟩ := inS i obj h2
            rw [h3] at h5; injection h5 with h5; subst h5
            exact (h.objs o loc x h4 h6).carry hcar (List.all_eq_true.1 hb.2 x h7) (.inl fun _ hy => hy)
          · obtain ⟨o, h4, h5⟩ := inL i loc h1
            obtain ⟨o', x, h6, h7, h8, rfl⟩ := inS i obj h2
            rw [h4] at h6; injection h6 with h6; subst h6
            obtain ⟨b1, b2, b3, _⟩ := h.blk o loc x h5 h7 (lv h3)
            exact ⟨b1, b2, b3, .inr ⟨by have := (List.getElem?_eq_some_iff.1 h4).1; omega, o, loc, x, h4, h5, h7, lv h3, rfl⟩⟩
          · obtain ⟨o, h4, h5⟩ := inL i loc h1
            obtain ⟨o2, x, h6, h7, _, rfl⟩ := inS i obj h2
            rw [h4] at h6; injection h6 with h6; subst h6
            obtain ⟨o', h4', h5'⟩ := inL j loc' h1'
            obtain ⟨o2', x', h6', h7', _, rfl⟩ := inS j obj' h2'
            rw [h4'] at h6'; injection h6' with h6'; subst h6'
            refine h.sep o o' loc loc' x x' (fun he => hij ?_) h5 h5' h7 h7' (lv h3) (lv h3')
            subst he
            rw [← pos_get hn h4, ← pos_get hn h4']
          · obtain ⟨o, loc, obj, _, e2, e3, e4, rfl⟩ := hm
            exact (h.blk o loc obj e2 e3 e4).2.1 hb
          · obtain ⟨o, loc, obj, _, e2, e3, e4, rfl⟩ := hm
            exact (h.blk o loc obj e2 e3 e4).2.2.1 hb
        refine (hcall f _ _ res σ' hc w M1 Y Z L1 vs s1 hG (by simp [hs]) fun i c x h1 h2 => ?_).mono fun e w' hp => ?_
        · obtain ⟨x', h3, rfl⟩ := map_getElem h2
          exact (ha i c x' h1 h3).carry hcar (idss_get hb.1 h3) (.inl fun _ hy => hy)
        · obtain ⟨v, Z', L', he, p1, p2, p3, p4⟩ := hp
          rw [hlen] at p1
          refine ⟨v, he, ret_join h hn hk fresh (fun _ hb => hb) (fun i b hm => hm) (fun i o ho => ?_) p1 p2 p3 (.inl fun _ hb => hb) p4⟩
          obtain ⟨obj, loc, _, _, _, h6⟩ := rdT i o ho
          exact ⟨loc, h6, by simp [L1, ho, h6]⟩

theorem acallS_sound {E : Envt} {call : Callf} (hcall : CallOk E call) (h : Sim w0 M0 k0 Y Z w L S) (hrd : ∀ i obj, rd i = some obj → S i = some obj) {k : Nat} (hG : GOk E w Z)
    {f : FuncId} {args : List PV} {vs : Array Value} (hs : vs.size = args.length) (ha : ∀ (i : Nat) (c : Value) (x : PV), vs[i]? = some c → args[i]? = some x → Rep w Z Y L c x)
    {eff : Eff} (hr : acallS call rd k f args = some eff) (fresh : ∀ p ∈ eff.ws, k ≤ p.1 → L p.1 = none) :
    Calls E.P f vs w fun e w' => ∃ v, e = .returned v ∧ Post w0 M0 k0 Y Z w L S w' v eff.val eff.ws := by
  unfold acallS at hr
  cases hm : mapO (snapN rd 20) args with
  | none => rw [hm] at hr; simp at hr
  | some args' =>
    rw [hm] at hr
    simp only at hr
    cases hc : call f args' [] with
    | none => rw [hc] at hr; simp at hr
    | some rs =>
      obtain ⟨res, σ'⟩ := rs
      rw [hc] at hr
      simp only at hr
      cases hb : (res.unt && σ'.all objUnt) with
      | false => rw [hb] at hr; simp at hr
      | true =>
        rw [hb] at hr
        simp only [cond_true, Option.some.injEq] at hr
        have hout : (fun i => k + i) = outR [] k := by funext i; simp [outR]
        rw [hout] at hr
        subst hr
        rw [Bool.and_eq_true] at hb
        obtain ⟨m1, m2⟩ := mapO_spec hm
        have s1 : Sim w (fun _ _ => False) ([] : List AObj).length (fun b => b < w.heap.size) Z w (fun _ => none) (([] : List AObj)[·]?) := by
          refine ⟨rfl, rfl, rfl, Nat.le_refl _, fun _ _ _ => rfl, fun i => by simp, by simp, by simp, by simp, fun b hb => ⟨(h.zl b hb).1, by simp⟩, fun b hb => ⟨hb, by simp⟩⟩
        refine (hcall f _ _ res σ' hc w _ _ Z _ vs s1 hG (by omega) fun i c x h1 h2 => ?_).mono fun e w' hp => ?_
        · have hlt : i < args.length := by have := (List.getElem?_eq_some_iff.1 h2).1; omega
          have h3 := List.getElem?_eq_getElem hlt
          exact snap_sound h hrd 20 20 (Nat.le_refl _) _ x c (ha i c _ h1 h3) (m2 i _ x h3 h2)
        · obtain ⟨v, Z', L', he, p1, p2, p3, p4⟩ := hp
          exact ⟨v, he, ret_join h (T := []) List.nodup_nil (by simp) fresh (fun b hb => Nat.lt_of_lt_of_le (h.yl b hb).1 h.size) (fun _ _ hm => hm.elim) (by simp) p1 p2 p3
            (.inr ⟨hb.1, fun x hx => List.all_eq_true.1 hb.2 x hx⟩) p4⟩

theorem acall_sound {E : Envt} {call : Callf} (hcall : CallOk E call) (h : Sim w0 M0 k0 Y Z w L S) (hrd : ∀ i obj, rd i = some obj → S i = some obj) {k : Nat} (hrk : ∀ o, rd o ≠ none → o < k) (hG : GOk E w Z)
    {f : FuncId} {args : List PV} {vs : Array Value} (hs : vs.size = args.length) (ha : ∀ (i : Nat) (c : Value) (x : PV), vs[i]? = some c → args[i]? = some x → Rep w Z Y L c x)
    {eff : Eff} (hr : acall E call rd k f args = some eff) (fresh : ∀ p ∈ eff.ws, k ≤ p.1 → L p.1 = none) :
    Calls E.P f vs w fun e w' => ∃ v, e = .returned v ∧ Post w0 M0 k0 Y Z w L S w' v eff.val eff.ws := by
  unfold acall at hr
  cases hw : E.wr f with
  | true => rw [hw] at hr; exact acallT_sound hcall h hrd hrk hG hs ha (closeN_nodup _ _ _ (by simp)) hr fresh
  | false => rw [hw] at hr; exact acallS_sound hcall h hrd hG hs ha hr fresh
end
end Go.Bb

namespace Go.Bb
section
variable {P : Program} {w0 : World} {M0 : Nat → Nat → Prop} {k0 : Nat} {Y Z : Nat → Prop} {w : World} {L : Nat → Option Loc} {S : Nat → Option AObj} {rd : Rd}

def Enters (P : Program) (f : FuncId) : Prop := ∃ fn c, P.funcs[f]? = some fn ∧ (fn.name == "runtime.NumGoroutine") = false ∧ fn.body = some c
def CallEnters (E : Envt) (call : Callf) : Prop := ∀ (f : FuncId) (args : List PV) (σ : List AObj) (r : PV × List AObj), call f args σ = some r → Enters E.P f

theorem acall_enters {E : Envt} {call : Callf} (he : CallEnters E call) {k : Nat} {f : FuncId} {args : List PV} {eff : Eff} (hr : acall E call rd k f args = some eff) : Enters E.P f := by
  unfold acall at hr
  cases hw : E.wr f with
  | true =>
    rw [hw] at hr
    simp only [cond_true] at hr
    unfold acallT at hr
    split at hr
    · rename_i objs _
      cases hb : (idss (memN (closeN rd 64 (idssOf args) [])) args && objs.all (objOk (memN (closeN rd 64 (idssOf args) [])))) with
      | false => rw [hb] at hr; simp at hr
      | true =>
        rw [hb] at hr
        simp only [cond_true] at hr
        split at hr
        · rename_i h; exact he _ _ _ _ h
        · cases hr
    · cases hr
  | false =>
    rw [hw] at hr
    simp only [cond_false] at hr
    unfold acallS at hr
    split at hr
    · split at hr
      · rename_i h; exact he _ _ _ _ h
      · cases hr
    · cases hr

theorem wp_val {o : Oper} {a : Act} {K : Act → World → Prop} {Q : Exit → Act → World → Prop} {s : Sem Value} (he : execOp a.eval o = (do pure (.value (← s)))) {v : Value} {w' : World} (hrun : s.run P w = .ok v w')
    (hK : K (a.put o.dst v) w') : o.wp P a w K Q := by
  unfold Oper.wp
  rw [he, Sem.run_bind, hrun]
  exact hK
theorem wp_unit {o : Oper} {a : Act} {K : Act → World → Prop} {Q : Exit → Act → World → Prop} {s : Sem Unit} (he : execOp a.eval o = (do s; pure .skip)) {w' : World} (hrun : s.run P w = .ok () w')
    (hK : K (a.put o.dst (.tuple #[])) w') : o.wp P a w K Q := by
  unfold Oper.wp
  rw [he, Sem.run_bind, hrun]
  exact hK
theorem wp_pure {o : Oper} {a : Act} {K : Act → World → Prop} {Q : Exit → Act → World → Prop} {v : Value} (he : execOp a.eval o = pure (.value v)) (hK : K (a.put o.dst v) w) : o.wp P a w K Q := by
  unfold Oper.wp
  rw [he]
  exact hK

theorem justO_some {x : Option PV} {eff : Eff} (h : justO x = some eff) : ∃ p, x = some p ∧ eff = ⟨p, []⟩ := by
  unfold justO at h
  split at h
  · injection h with h; exact ⟨_, rfl, h.symm⟩
  · cases h

theorem repParts {a : Act} {ρ : Operand → PV} (ps : Array (Nat × Operand)) (h : ∀ x ∈ (ps.toList.map (·.2)).toArray, Rep w Z Y L (a.eval x) (ρ x)) :
    RepParts w Z Y L (ps.map fun (i, x) => (i, a.eval x)).toList (ps.toList.map fun p => (p.1, ρ p.2)) := by
  refine ⟨by simp, fun j u v h1 h2 => ?_⟩
  simp only [Array.toList_map, List.getElem?_map, Option.map_eq_some_iff] at h1 h2
  obtain ⟨q, e1, rfl⟩ := h1
  obtain ⟨q', e2, rfl⟩ := h2
  rw [e1] at e2; injection e2 with e2; subst e2
  exact ⟨rfl, h q.2 (by simpa using ⟨q.1, Array.mem_iff_getElem?.2 ⟨j, by simpa using e1⟩⟩)⟩

theorem repO {a : Act} {ρ : Operand → PV} (x : Option Operand) (h : ∀ y, x = some y → Rep w Z Y L (a.eval y) (ρ y)) : RepO w Z Y L (x.map a.eval) (x.map ρ) := by
  cases x with
  | none => simp [RepO]
  | some y => simpa [RepO] using h y rfl

theorem reps_args {a : Act} {ρ : Operand → PV} (xs : Array Operand) (h : ∀ x ∈ xs, Rep w Z Y L (a.eval x) (ρ x)) (i : Nat) (c : Value) (x : PV) (h1 : (xs.map a.eval)[i]? = some c) (h2 : (xs.toList.map ρ)[i]? = some x) : Rep w Z Y L c x := by
  simp only [Array.getElem?_map, List.getElem?_map, Option.map_eq_some_iff, Array.getElem?_toList] at h1 h2
  obtain ⟨q, e1, rfl⟩ := h1
  obtain ⟨q', e2, rfl⟩ := h2
  rw [e1] at e2; injection e2 with e2; subst e2
  exact h q (Array.mem_iff_getElem?.2 ⟨i, e1⟩)

theorem maxmin_sound {big : Bool} {ps : List PV} {vs : Array Value} {r : PV} {ts : Array TypeId} {ty : TypeId} (hl : vs.size = ps.length) (hv : ∀ (i : Nat) (c : Value) (x : PV), vs[i]? = some c → ps[i]? = some x → Rep w Z Y L c x)
    (hr : aMax big ps = some r) : ∃ v, (if big then Builtin.max_ ts ty vs else Builtin.min_ ts ty vs).run P w = .ok v w ∧ Rep w Z Y L v r := by
  unfold aMax at hr
  split at hr
  · rename_i j x k y
    split at hr
    · rename_i hjk
      injection hr with hr
      subst hjk
      obtain ⟨l⟩ := vs
      match l, hl with
      | [c, d], _ =>
        have hc := hv 0 c _ rfl rfl
        have hd := hv 1 d _ rfl rfl
        cases hc; cases hd
        subst hr
        refine ⟨_, ?_, .int _ _⟩
        cases big <;> simp [Builtin.max_, Builtin.min_, Builtin.max2, Builtin.min2]
    · cases hr
  · cases hr
end
end Go.Bb

namespace Go.Bb
theorem run_enter {P : Program} {f : FuncId} {fn : Func} {c : Code} (hf : P.funcs[f]? = some fn) (hname : (fn.name == "runtime.NumGoroutine") = false) (hb : fn.body = some c) (args : Array Value) (w : World) :
    (callFunc f args).run P w = .ok (.enter f args) w := by
  have h1 : fn.name ≠ "runtime.NumGoroutine" := by simpa using hname
  simp [callFunc, hf, h1, hb]

section
variable {w0 : World} {M0 : Nat → Nat → Prop} {k0 : Nat} {Y Z : Nat → Prop} {w : World} {L : Nat → Option Loc} {S : Nat → Option AObj} {rd : Rd}

theorem aop_sound {E : Envt} {call : Callf} (hcall : CallOk E call) (hent : CallEnters E call) (h : Sim w0 M0 k0 Y Z w L S) (hrd : ∀ i obj, rd i = some obj → S i = some obj)
    {k : Nat} (hrk : ∀ o, rd o ≠ none → o < k) (hG : GOk E w Z) {a : Act} {ρ : Operand → PV} {o : Oper} (hρ : ∀ x ∈ o.op.operands, Rep w Z Y L (a.eval x) (ρ x))
    {eff : Eff} (hr : aop E call k0 rd k ρ o = some eff) (fresh : ∀ p ∈ eff.ws, k ≤ p.1 → L p.1 = none) {K : Act → World → Prop} {Q : Exit → Act → World → Prop}
    (hK : ∀ w' v, Post w0 M0 k0 Y Z w L S w' v eff.val eff.ws → K (a.put o.dst v) w') : o.wp E.P a w K Q := by
  have quiet : ∀ {s : Sem Value} {x : Option PV}, execOp a.eval o = (do pure (.value (← s))) → justO x = some eff → (∀ p, x = some p → ∃ v, s.run E.P w = .ok v w ∧ Rep w Z Y L v p) → o.wp E.P a w K Q := by
    intro s x he hj hs
    obtain ⟨p, h1, rfl⟩ := justO_some hj
    obtain ⟨v, h2, h3⟩ := hs p h1
    exact wp_val he h2 (hK w v (Post.quiet h h3))
  have act : ∀ {s : Sem Value} {v : Value} {w' : World}, execOp a.eval o = (do pure (.value (← s))) → s.run E.P w = .ok v w' → Post w0 M0 k0 Y Z w L S w' v eff.val eff.ws → o.wp E.P a w K Q :=
    fun he h2 h3 => wp_val he h2 (hK _ _ h3)
  have still : ∀ {v : Value} {p : PV}, execOp a.eval o = pure (.value v) → just p = some eff → Rep w Z Y L v p → o.wp E.P a w K Q := by
    intro v p he hj hp
    simp only [just, Option.some.injEq] at hj
    subst hj
    exact wp_pure he (hK w v (Post.quiet h hp))
  obtain ⟨dst, op, type, ps, after, guard⟩ := o
  cases op
  case move x => exact still rfl hr (hρ x (by simp [Op.operands]))
  case assign x =>
    simp only [aop, Option.some.injEq] at hr
    subst hr
    have hx := hρ x (by simp [Op.operands])
    obtain ⟨L', s1, g1, r1, _⟩ := thaw_sound (k := k) h hx (fun p hp => fresh p hp (thaw_ids _ _ p hp))
    exact wp_pure rfl (hK w _ ⟨Z, L', s1, g1, fun _ hb => .inl hb, r1⟩)
  case pick c x y =>
    simp only [aop] at hr
    have hc := hρ c (by simp [Op.operands])
    split at hr
    · rename_i t ht
      rw [ht] at hc
      generalize hv : a.eval c = vc at hc
      cases hc
      refine wp_pure (v := if t then a.eval x else a.eval y) ?_ ?_
      · simp only [execOp, hv, asBool]; rfl
      · simp only [just, Option.some.injEq] at hr
        subst hr
        refine hK w _ (Post.quiet h ?_)
        cases t
        · exact hρ y (by simp [Op.operands])
        · exact hρ x (by simp [Op.operands])
    · cases hr
  case alloc t =>
    simp only [aop] at hr
    cases hb : (okCells (cellsOf (zeroP E.P t)) && Nat.beq (cellsOf (zeroP E.P t)).length (szOf E.P t)) with
    | false => rw [hb] at hr; simp at hr
    | true =>
      rw [hb] at hr
      simp only [cond_true, Option.some.injEq] at hr
      subst hr
      rw [Bool.and_eq_true] at hb
      obtain ⟨u, w', h1, h2⟩ := alloc_sound (P := E.P) (k := k) h hb.1 (fun p hp => fresh p hp (by
        rcases List.mem_append.1 hp with hp | hp
        · exact thaw_ids _ _ p hp
        · simp at hp; subst hp; simp))
      exact act rfl h1 h2
  case box t x =>
    simp only [aop] at hr
    cases hb : okCells (cellsOf (ρ x)) with
    | false => rw [hb] at hr; simp at hr
    | true =>
      rw [hb] at hr
      simp only [cond_true, Option.some.injEq] at hr
      subst hr
      obtain ⟨u, w', h1, h2⟩ := box_sound (P := E.P) (t := t) h (fresh _ (List.mem_singleton.2 rfl) (Nat.le_refl _)) (hρ x (by simp [Op.operands])) hb
      exact act rfl h1 h2
  case build t parts =>
    exact quiet rfl hr fun p hp => build_sound (repParts parts fun x hx => hρ x hx) hp
  case buildSlice t n parts =>
    simp only [aop] at hr
    cases he : elemT E.P t with
    | none => rw [he] at hr; simp at hr
    | some e =>
      rw [he] at hr
      simp only at hr
      split at hr
      · rename_i fs ws h1 h2
        cases hb : (Nat.blt 0 (szOf E.P e) && Nat.ble (n * szOf E.P e) 16777216 && elemsOk (szOf E.P e) [rest (zeroP E.P e)] && elemsOk (szOf E.P e) (fs.map (·.2)) && fs.all (fun p => Nat.blt p.1 n)) with
        | false => rw [hb] at hr; simp at hr
        | true =>
          rw [hb] at hr
          simp only [cond_true, Option.some.injEq] at hr
          subst hr
          obtain ⟨v, w', h3, h4⟩ := buildSlice_sound (P := E.P) h hrd he (repParts parts fun x hx => hρ x hx) h1 (by rw [List.map_map]; exact h2) (fresh _ (List.mem_append_right _ (List.mem_singleton.2 rfl)) (Nat.le_refl _)) (fun o ho hk => by have := hrk o ho; omega) hb
          exact act rfl h3 h4
      · cases hr
  case load t x => exact quiet rfl hr fun p hp => load_sound h hrd (hρ x (by simp [Op.operands])) hp
  case store t x y =>
    simp only [aop] at hr
    obtain ⟨w', h1, h2⟩ := store_sound (P := E.P) h hrd (hρ x (by simp [Op.operands])) (hρ y (by simp [Op.operands])) hr fresh
    exact wp_unit rfl h1 (hK w' _ h2)
  case nilCheck x =>
    simp only [aop] at hr
    have hx := hρ x (by simp [Op.operands])
    split at hr
    case h_4 => cases hr
    all_goals
      rename_i hq
      rw [hq] at hx
      generalize hv : a.eval x = vx at hx
      have hx' := hx
      cases hx
      refine still (by simp only [execOp, hv]) hr hx'
  case binOp op t x y b => exact quiet rfl hr fun p hp => binOp_sound (hρ x (by simp [Op.operands])) (hρ y (by simp [Op.operands])) hp
  case unOp op t x => exact quiet rfl hr fun p hp => unOp_sound (hρ x (by simp [Op.operands])) hp
  case convert s d x => exact quiet rfl hr fun p hp => convert_sound (hρ x (by simp [Op.operands])) hp
  case makeFunc fn first caps =>
    cases fn <;> simp only [aop] at hr <;> try (cases hr; done)
    rename_i f
    cases hb : Nat.beq first.size 0 with
    | false => rw [hb] at hr; simp at hr
    | true =>
      rw [hb] at hr
      simp only [cond_true] at hr
      have hz : first = #[] := Array.size_eq_zero_iff.1 (Nat.eq_of_beq_eq_true hb)
      subst hz
      simp only [just, Option.some.injEq] at hr
      subst hr
      refine wp_val (s := Instr.makeFunc (.func f) ((#[] : Array Operand).map a.eval) (caps.map a.eval)) (v := .func (.func f) #[] (caps.map a.eval)) rfl (by simp [Instr.makeFunc]) (hK w _ (Post.quiet h ?_))
      exact .clo f _ _ (by simp) (reps_args caps fun x hx => hρ x (by simpa [Op.operands] using hx))
  case makeMap t r =>
    cases r with
    | some r => simp [aop] at hr
    | none =>
      simp only [aop, Option.some.injEq] at hr
      subst hr
      obtain ⟨u, w', h1, h2⟩ := makeMap_sound (P := E.P) (t := t) h (fresh _ (List.mem_singleton.2 rfl) (Nat.le_refl _))
      exact act rfl h1 h2
  case makeSlice t l c =>
    simp only [aop] at hr
    split at hr
    · rename_i e l' c' h1 h2 h3
      have hl := hρ l (by simp [Op.operands])
      have hc := hρ c (by simp [Op.operands])
      rw [h2] at hl
      rw [h3] at hc
      generalize hvl : a.eval l = vl at hl
      generalize hvc : a.eval c = vc at hc
      cases hl; cases hc
      cases hb : (decide (0 ≤ l') && decide (l' ≤ c') && decide (c' * bytesOf E.P e ≤ 140737488355328) && decide (c' ≤ 140737488355328) && Nat.blt 0 (szOf E.P e) && elemsOk (szOf E.P e) [rest (zeroP E.P e)]) with
      | false => rw [hb] at hr; simp at hr
      | true =>
        rw [hb] at hr
        simp only [cond_true, Option.some.injEq] at hr
        subst hr
        obtain ⟨v, w', h4, h5⟩ := makeSlice_sound (P := E.P) h h1 (fresh _ (List.mem_singleton.2 rfl) (Nat.le_refl _)) hb
        refine act (s := Instr.makeSlice t (a.eval l) (a.eval c)) rfl ?_ h5
        rw [hvl, hvc]; exact h4
    · cases hr
  case slice t x lo hi mx =>
    exact quiet rfl hr fun p hp => slice_sound h hrd (hρ x (by simp [Op.operands])) (repO lo fun y hy => hρ y (by subst hy; simp [Op.operands])) (repO hi fun y hy => hρ y (by subst hy; simp [Op.operands]))
      (repO mx fun y hy => hρ y (by subst hy; simp [Op.operands])) hp
  case fieldAddr t x f => exact quiet rfl hr fun p hp => fieldAddr_sound (hρ x (by simp [Op.operands])) hp
  case field t x f => exact quiet rfl hr fun p hp => field_sound (hρ x (by simp [Op.operands])) hp
  case indexAddr t x i => exact quiet rfl hr fun p hp => indexAddr_sound h hrd (hρ x (by simp [Op.operands])) (hρ i (by simp [Op.operands])) hp
  case index t x i => exact quiet rfl hr fun p hp => index_sound (hρ x (by simp [Op.operands])) (hρ i (by simp [Op.operands])) hp
  case lookup t m i ok => exact quiet rfl hr fun p hp => lookup_sound h hrd (hρ m (by simp [Op.operands])) (hρ i (by simp [Op.operands])) hp
  case mapUpdate t m i v =>
    simp only [aop] at hr
    obtain ⟨w', h1, h2⟩ := mapUpdate_sound (P := E.P) h hrd (hρ m (by simp [Op.operands])) (hρ i (by simp [Op.operands])) (hρ v (by simp [Op.operands])) hr
    exact wp_unit rfl h1 (hK w' _ h2)
  case insert t m i v =>
    simp only [aop] at hr
    obtain ⟨w', h1, h2⟩ := mapUpdate_sound (P := E.P) h hrd (hρ m (by simp [Op.operands])) (hρ i (by simp [Op.operands])) (hρ v (by simp [Op.operands])) hr
    exact wp_unit rfl h1 (hK w' _ h2)
  case range t x =>
    simp only [aop] at hr
    split at hr
    · rename_i s h1 h2
      simp only [Option.some.injEq] at hr
      subst hr
      have hx := hρ x (by simp [Op.operands])
      rw [h2] at hx
      generalize hv : a.eval x = vx at hx
      cases hx
      obtain ⟨u, w', h3, h4⟩ := range_sound (P := E.P) (s := s) h (fresh _ (List.mem_singleton.2 rfl) (Nat.le_refl _)) h1
      refine act (s := Instr.range t (a.eval x)) rfl ?_ h4
      rw [hv]; exact h3
    · cases hr
  case next it b =>
    cases b with
    | false => simp [aop] at hr
    | true =>
      simp only [aop] at hr
      obtain ⟨v, w', h1, h2⟩ := next_sound (P := E.P) (t := type) h hrd (hρ it (by simp [Op.operands])) hr
      exact act rfl h1 h2
  case extract t i =>
    simp only [aop] at hr
    split at hr
    · rename_i xs h1
      have hx := hρ t (by simp [Op.operands])
      rw [h1] at hx
      generalize hv : a.eval t = vx at hx
      cases hx with
      | tup cs _ hs hc =>
        refine quiet rfl hr fun p hp => ?_
        have hlt : i < cs.size := by rw [hs]; exact (List.getElem?_eq_some_iff.1 hp).1
        refine ⟨cs[i], ?_, hc i _ p (Array.getElem?_eq_getElem hlt) hp⟩
        rw [hv]
        simp [Instr.extract, Array.getElem?_eq_getElem hlt]
    · cases hr
  case call c =>
    obtain ⟨callee, cargs, atys⟩ := c
    have bi : ∀ {b : Builtin} {s : Sem Value} {v : Value} {w' : World}, callee = .builtin b → (∀ consts, builtin b atys type consts (cargs.map a.eval) = (do pure (.value (← s)))) → s.run E.P w = .ok v w' →
        Post w0 M0 k0 Y Z w L S w' v eff.val eff.ws → Oper.wp E.P ⟨dst, .call ⟨callee, cargs, atys⟩, type, ps, after, guard⟩ a w K Q := by
      intro b s v w' hb he hs hp
      subst hb
      unfold Oper.wp
      simp only [execOp, resolve, invoke, Sem.run_bind, Sem.run_pure, Result.andThen_ok, he, hs]
      exact hK _ _ hp
    have biq : ∀ {b : Builtin} {s : Sem Value} {x : Option PV}, callee = .builtin b → (∀ consts, builtin b atys type consts (cargs.map a.eval) = (do pure (.value (← s)))) → justO x = some eff →
        (∀ p, x = some p → ∃ v, s.run E.P w = .ok v w ∧ Rep w Z Y L v p) → Oper.wp E.P ⟨dst, .call ⟨callee, cargs, atys⟩, type, ps, after, guard⟩ a w K Q := by
      intro b s x hb he hj hs
      obtain ⟨p, h1, rfl⟩ := justO_some hj
      obtain ⟨v, h2, h3⟩ := hs p h1
      exact bi hb he h2 (Post.quiet h h3)
    have hargs : ∀ (i : Nat) (c : Value) (x : PV), (cargs.map a.eval)[i]? = some c → (cargs.toList.map ρ)[i]? = some x → Rep w Z Y L c x :=
      reps_args cargs fun x hx => hρ x (by simp [Op.operands, Call.operands, hx])
    have hsz : (cargs.map a.eval).size = (cargs.toList.map ρ).length := by simp
    have geti : ∀ {i : Nat} {p : PV}, (cargs.toList.map ρ)[i]? = some p → ∃ v, (cargs.map a.eval)[i]? = some v ∧ Rep w Z Y L v p := fun {i p} hp => by
      have hlt : i < (cargs.map a.eval).size := by rw [hsz]; exact (List.getElem?_eq_some_iff.1 hp).1
      exact ⟨_, Array.getElem?_eq_getElem hlt, hargs i _ p (Array.getElem?_eq_getElem hlt) hp⟩
    have gett : ∀ {i : Nat} {t : TypeId}, atys.toList[i]? = some t → atys[i]? = some t := fun {i t} h => by simpa using h
    cases callee with
    | invoke r m => simp [aop] at hr
    | value f =>
      simp only [aop] at hr
      split at hr
      · rename_i g caps hf
        have hx := hρ f (by simp [Op.operands, Call.operands])
        rw [hf] at hx
        generalize hv : a.eval f = vf at hx
        cases hx with
        | clo _ cs _ hs hc =>
          obtain ⟨fn, c, e1, e2, e3⟩ := acall_enters hent hr
          unfold Oper.wp
          simp only [execOp, resolve, invoke, hv, Deferred.ofValue, Sem.run_bind, Sem.run_pure, Result.andThen_ok, run_enter e1 e2 e3, Oper.upon_enter]
          refine (acall_sound hcall h hrd hrk hG ?_ ?_ hr fresh).mono fun e w' hp => ?_
          · simp [hs]
          · intro i c x h1 h2
            simp only [Array.empty_append] at h1
            rw [Array.getElem?_append] at h1
            rw [List.getElem?_append] at h2
            rw [hsz] at h1
            split at h1
            · rename_i hlt
              rw [if_pos hlt] at h2
              exact hargs i c x h1 h2
            · rename_i hlt
              rw [if_neg hlt] at h2
              exact hc _ c x h1 h2
          · obtain ⟨v, rfl, hp⟩ := hp
            exact hK _ _ hp
      · cases hr
    | builtin b =>
      cases b <;> simp only [aop] at hr <;> try (cases hr; done)
      case append =>
        split at hr
        · rename_i t xt _ s x h1 h2
          obtain ⟨vs, g1, g2⟩ := geti (i := 0) (p := s) (by rw [h2]; rfl)
          obtain ⟨vx, g3, g4⟩ := geti (i := 1) (p := x) (by rw [h2]; rfl)
          obtain ⟨v, w', r1, r2⟩ := append_sound (P := E.P) (ty := type) h hrd fresh (gett (i := 0) (by rw [h1]; rfl)) (gett (i := 1) (by rw [h1]; rfl)) g1 g3 g2 g4 hr
          exact bi rfl (fun _ => rfl) r1 r2
        · cases hr
      case clear =>
        split at hr
        · rename_i t _ s h1 h2
          obtain ⟨vs, g1, g2⟩ := geti (i := 0) (p := s) (by rw [h2]; rfl)
          obtain ⟨v, w', r1, r2⟩ := clear_sound (P := E.P) (ty := type) h hrd (gett (i := 0) (by rw [h1]; rfl)) g1 g2 hr
          exact bi rfl (fun _ => rfl) r1 r2
        · cases hr
      case copy =>
        split at hr
        · rename_i t _ s x h1 h2
          obtain ⟨vs, g1, g2⟩ := geti (i := 0) (p := s) (by rw [h2]; rfl)
          obtain ⟨vx, g3, g4⟩ := geti (i := 1) (p := x) (by rw [h2]; rfl)
          obtain ⟨v, w', r1, r2⟩ := copy_sound (P := E.P) (ty := type) h hrd (gett (i := 0) (by rw [h1]; rfl)) g1 g3 g2 g4 hr
          exact bi rfl (fun _ => rfl) r1 r2
        · cases hr
      case len =>
        split at hr
        · rename_i t _ x _ h1 h2
          obtain ⟨vs, g1, g2⟩ := geti (i := 0) (p := x) (by rw [h2]; rfl)
          exact biq rfl (fun _ => rfl) hr fun p hp => len_sound h hrd (gett (i := 0) (by rw [h1]; rfl)) g1 g2 hp
        · cases hr
      case max =>
        exact biq rfl (fun _ => rfl) hr fun p hp => maxmin_sound (big := true) (ts := atys) (ty := type) hsz hargs hp
      case min =>
        exact biq rfl (fun _ => rfl) hr fun p hp => maxmin_sound (big := false) (ts := atys) (ty := type) hsz hargs hp
  all_goals (simp [aop] at hr)
end
end Go.Bb

