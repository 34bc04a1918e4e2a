/- append, copy, clear. Thawing, stores, copies, made slices, literals. Copies, clears, made slices, map stores, string iterators. Slices of the call's own come to rest; slice literals. Slice literals. -/
import Derived.Test.YtpififklhcfcnaaDoorB2
namespace Go.Bb
section
variable {P : Program} {w0 : World} {M0 : Nat → Nat → Prop} {k0 : Nat} {Y Z : Nat → Prop} {w : World} {L : Nat → Option Loc} {S : Nat → Option AObj} {rd : Rd}

theorem elemT_spec {t e : TypeId} (h : elemT P t = some e) : P.underlying t = some (.slice e) ∧ hasT P e = true := by
  unfold elemT at h
  cases hu : P.underlying t with
  | none => rw [hu] at h; simp at h
  | some d =>
    rw [hu] at h
    cases d with
    | slice e' =>
      simp only at h
      cases hT : hasT P e' with
      | false => rw [hT] at h; simp at h
      | true => rw [hT] at h; simp at h; subst h; exact ⟨rfl, hT⟩
    | _ => simp at h

theorem notInt_spec {t : TypeId} (h : notInt P t = true) : ∃ d, P.underlying t = some d ∧ ∀ k, d ≠ .int k := by
  unfold notInt at h
  cases hu : P.underlying t with
  | none => rw [hu] at h; simp at h
  | some d => rw [hu] at h; exact ⟨d, rfl, fun k hk => by subst hk; simp at h⟩

/-- The model's append, its parts by name. -/
theorem append_fits {ts : Array TypeId} {ty t xt e : TypeId} {args : Array Value} {A : Option Addr} {n m c sz : Nat} {vx : Value} {arr : Array Value} {w' : World}
    (h0 : ts[0]? = some t) (h1 : ts[1]? = some xt) (a0 : args[0]? = some (.slice A n c)) (a1 : args[1]? = some vx) (hu : P.underlying t = some (.slice e)) (hT : hasT P e = true) (hx : notInt P xt = true)
    (hsz : szOf P e = sz) (hl : (Builtin.lenOf vx).run P w = .ok m w) (hf : (Builtin.firstCells sz m vx).run P w = .ok arr w) (hfit : n + m ≤ c)
    (hst : (match A with | some a => storeCells (a.add (n * sz)) arr.toList | none => pure ()).run P w = .ok () w') :
    (Builtin.append_ ts ty args).run P w = .ok (.slice A (n + m) c) w' := by
  obtain ⟨d, hd, hni⟩ := notInt_spec hx
  cases A with
  | none => simp [Builtin.append_, h0, h1, a0, a1, run_underlying hu, run_underlying hd, run_sizeOf' hT, hl, hsz, hf, hfit] at hst ⊢; exact hst
  | some a => simp [Builtin.append_, h0, h1, a0, a1, run_underlying hu, run_underlying hd, run_sizeOf' hT, hl, hsz, hf, hfit, hst]
theorem growOk_spec {e : TypeId} (h : growOk P e = true) : 0 < szOf P e ∧ 0 < bytesOf P e ∧ okCells (cellsOf (zeroP P e)) = true ∧ (cellsOf (zeroP P e)).length = szOf P e := by
  simp only [growOk, Bool.and_eq_true] at h
  obtain ⟨⟨⟨h1, h2⟩, h3⟩, h4⟩ := h
  exact ⟨by simpa [Nat.blt_eq] using h1, by simpa [Nat.blt_eq] using h2, h3, Nat.eq_of_beq_eq_true h4⟩

theorem append_grows {ts : Array TypeId} {ty t xt e : TypeId} {args : Array Value} {A : Option Addr} {n m c : Nat} {vx : Value} {old arr : Array Value}
    (h0 : ts[0]? = some t) (h1 : ts[1]? = some xt) (a0 : args[0]? = some (.slice A n c)) (a1 : args[1]? = some vx) (hu : P.underlying t = some (.slice e)) (hT : hasT P e = true) (hx : notInt P xt = true) (hg : growOk P e = true)
    (hl : (Builtin.lenOf vx).run P w = .ok m w) (ho : (Builtin.firstCells (szOf P e) n (.slice A n c)).run P w.drew = .ok old w.drew) (hf : (Builtin.firstCells (szOf P e) m vx).run P w.drew = .ok arr w.drew)
    (hfit : ¬ n + m ≤ c) (hbytes : (n + m) * bytesOf P e ≤ 140737488355328) :
    ∃ N rest, n + m ≤ N ∧ rest.size = (N - (n + m)) * szOf P e ∧
      (Builtin.append_ ts ty args).run P w = .ok (.slice (some ⟨w.heap.size, 0, none⟩) (n + m) N) (w.drew.alloc (.cells (old ++ arr ++ rest) e)) := by
  obtain ⟨d, hd, hni⟩ := notInt_spec hx
  obtain ⟨g1, g2, g3, g4⟩ := growOk_spec hg
  obtain ⟨z, z1, z2, z3⟩ := zero_reps (P := P) (w := w) (Z := fun _ => False) (Y := fun _ => False) (L := fun _ => none) g3 w.drew
  obtain ⟨dd, i, hd', hi⟩ := hasT_spec hT
  have hby : bytesOf P e = i.bytes := by simp [bytesOf, hi]
  have hz : z.cells.size = szOf P e := by have := z3.1; simp at this; omega
  have hcap := nextslicecap_le (show c < n + m by omega)
  have hfits : ¬ (Builtin.nextslicecap (n + m) c * i.bytes > 281474976710656) := by
    have : Builtin.nextslicecap (n + m) c * i.bytes ≤ 2 * (n + m) * i.bytes := Nat.mul_le_mul_right _ hcap
    rw [hby] at hbytes
    have : 2 * (n + m) * i.bytes = 2 * ((n + m) * i.bytes) := Nat.mul_assoc ..
    omega
  have hbig : ¬ (((n + m : Nat) : Int) > IntKind.i64.max ∧ (False ∨ i.bytes = 0)) := by
    rintro ⟨_, h | h⟩
    · exact h
    · omega
  have hcut : n + m ≤ (Question.appendCap (n + m) c e).cut (w.tape w.drawn (.appendCap (n + m) c e)) := by simp [Question.cut]
  refine ⟨(Question.appendCap (n + m) c e).cut (w.tape w.drawn (.appendCap (n + m) c e)), Builtin.zeroCells z.cells ((Question.appendCap (n + m) c e).cut (w.tape w.drawn (.appendCap (n + m) c e)) - (n + m)), hcut, by simp [Builtin.zeroCells, hz], ?_⟩
  have hi0 : ¬ i.bytes = 0 := by omega
  have hb2 : ¬ (281474976710656 < Builtin.nextslicecap (n + m) c * i.bytes) := hfits
  simp [Builtin.append_, h0, h1, a0, a1, run_underlying hu, run_underlying hd, run_sizeOf' hT, hl, hfit, run_typeInfo hi, hi0, hb2, Question.forced, ho, hf, z1, newRow, World.alloc_eq]

theorem Sim.drew (h : Sim w0 M0 k0 Y Z w L S) : Sim w0 M0 k0 Y Z w.drew L S ∧ Gr Y w Z L w.drew Z L := h.same rfl rfl rfl rfl

theorem Post.after {w1 w' : World} {v : Value} {p : PV} {ws : Ws} (g : Gr Y w Z L w1 Z L) (h : Post w0 M0 k0 Y Z w1 L S w' v p ws) : Post w0 M0 k0 Y Z w L S w' v p ws := by
  obtain ⟨Z', L', a, b, c, d⟩ := h
  exact ⟨Z', L', a, g.trans b, c, d⟩

theorem reps_get {cs : List Value} {ps : List PV} (h : Reps w Z Y L cs ps) {k : Nat} {p : PV} (hp : ps[k]? = some p) : ∃ c, cs[k]? = some c ∧ Rep w Z Y L c p := by
  have hk : k < cs.length := by rw [h.1]; exact (List.getElem?_eq_some_iff.1 hp).1
  exact ⟨cs[k], List.getElem?_eq_getElem hk, h.2 k _ p (List.getElem?_eq_getElem hk) hp⟩

/-- The cells of a row that has been written over, element by element. -/
theorem row_over {cs vs : List Value} {C : Array Value} {base at_ : Nat} {ps qs rs : List PV}
    (hC : ∀ (k : Nat) (p : PV), ps[k]? = some p → ∃ c, C[base + k]? = some c ∧ Rep w Z Y L c p) (hv : Reps w Z Y L vs qs) (hle : base + at_ + vs.length ≤ C.size)
    (hrs : ∀ k p, rs[k]? = some p → (at_ ≤ k ∧ k < at_ + qs.length ∧ qs[k - at_]? = some p) ∨ ((k < at_ ∨ at_ + qs.length ≤ k) ∧ ps[k]? = some p))
    (hcs : cs = C.toList.take (base + at_) ++ vs ++ C.toList.drop (base + at_ + vs.length)) :
    ∀ (k : Nat) (p : PV), rs[k]? = some p → ∃ c, cs.toArray[base + k]? = some c ∧ Rep w Z Y L c p := by
  intro k p hk
  have e := splice_get C.toList vs (base + at_) (by simpa using hle) (base + k)
  rw [← hcs] at e
  have hl := hv.1
  simp only [List.getElem?_toArray]
  rw [e]
  rcases hrs k p hk with ⟨a, b, c⟩ | ⟨a, c⟩
  · rw [if_pos (by omega), show base + k - (base + at_) = k - at_ from by omega]
    exact reps_get hv c
  · rw [if_neg (by omega)]
    obtain ⟨c', c1, c2⟩ := hC k p c
    exact ⟨c', by simpa using c1, c2⟩

theorem flat_take {sz : Nat} : ∀ {xs : List PV} (n : Nat), (∀ x ∈ xs, (cellsOf x).length = sz) → flat (xs.take n) = (flat xs).take (n * sz)
  | [], n, _ => by simp [flat]
  | x :: r, 0, _ => by simp [flat]
  | x :: r, n + 1, h => by
    have hx := h x (by simp)
    simp only [List.take_succ_cons, flat, flat_take n (fun y hy => h y (List.mem_cons_of_mem _ hy))]
    rw [List.take_append, hx, show (n + 1) * sz - sz = n * sz from by rw [Nat.add_mul]; omega]
    rw [List.take_of_length_le (l := cellsOf x) (by rw [hx, Nat.add_mul]; omega)]

theorem flat_drop {sz : Nat} : ∀ {xs : List PV} (n : Nat), (∀ x ∈ xs, (cellsOf x).length = sz) → flat (xs.drop n) = (flat xs).drop (n * sz)
  | [], n, _ => by simp [flat]
  | x :: r, 0, _ => by simp [flat]
  | x :: r, n + 1, h => by
    have hx := h x (by simp)
    simp only [List.drop_succ_cons, flat, flat_drop n (fun y hy => h y (List.mem_cons_of_mem _ hy))]
    rw [List.drop_append, hx, show (n + 1) * sz - sz = n * sz from by rw [Nat.add_mul]; omega]
    rw [List.drop_of_length_le (l := cellsOf x) (by rw [hx, Nat.add_mul]; omega), List.nil_append]

/-- A row of values laid over a block's cells: the run, and what lies there then. -/
theorem lay_over {g base : Nat} {C : Array Value} {T : TypeId} {vs : List Value} {qs : List PV} (hg : w.heap[g]? = some (.cells C T (0, 0))) (hv : Reps w Z Y L vs qs) (hk : okCells qs = true)
    (hle : base + vs.length ≤ C.size) :
    (storeCells ⟨g, base, none⟩ vs).run P w = .ok () (w.setRow g (C.toList.take base ++ vs ++ C.toList.drop (base + vs.length)).toArray) := by
  simpa using run_storeCells_at P g base T vs 0 C w hg (by simpa using hle) (hv.oneCell hk)

/-- An array of the call's own is written over in place. -/
theorem arr_put (h : Sim w0 M0 k0 Y Z w L S) {o ver sz at_ : Nat} {loc : Loc} {xs rs qs : List PV} {vs : List Value} {C : Array Value} {T : TypeId}
    (hl : L o = some loc) (hs : S o = some (.arr ver sz xs)) (hc : 0 < loc.cap) (hg : w.heap[loc.block]? = some (.cells C T (0, 0))) (hv : Reps w Z Y L vs qs) (hle : loc.base + at_ + vs.length ≤ C.size)
    (hlen : rs.length ≤ loc.cap) (hel : ∀ x ∈ rs, x.frz false = true ∧ (cellsOf x).length = loc.sz ∧ okCells (cellsOf x) = true)
    (hrs : ∀ k p, (flat rs)[k]? = some p → (at_ ≤ k ∧ k < at_ + qs.length ∧ qs[k - at_]? = some p) ∨ ((k < at_ ∨ at_ + qs.length ≤ k) ∧ (flat xs)[k]? = some p)) :
    Sim w0 M0 k0 Y Z (w.setRow loc.block (C.toList.take (loc.base + at_) ++ vs ++ C.toList.drop (loc.base + at_ + vs.length)).toArray) L (upd S o (.arr ver sz rs)) ∧
      Gr Y w Z L (w.setRow loc.block (C.toList.take (loc.base + at_) ++ vs ++ C.toList.drop (loc.base + at_ + vs.length)).toArray) Z L := by
  obtain ⟨e1, e2, e3, e4, e5, e6⟩ := h.objs o loc _ hl hs
  obtain ⟨C', T', c1, c2, c3⟩ := e6 hc
  rw [hg] at c1; injection c1 with c1; injection c1 with c1 c1'; subst c1 c1'
  refine h.put (obj' := .arr ver sz rs) hl hs hc (by simp [World.setRow]) (fun b hb => setRow_other _ _ _ _ hb) rfl rfl rfl fun g => ⟨e1, e2, e3, hlen, hel, fun _ => ⟨_, T, setRow_heap _ _ _ _ _ _ hg, ?_, ?_⟩⟩
  · have : (C.toList.take (loc.base + at_) ++ vs ++ C.toList.drop (loc.base + at_ + vs.length)).toArray.size = C.size := by simp; omega
    rw [this]; exact c2
  · refine rowFlat (fun x hx => (hel x hx).2.1) (fun k p hp => ?_)
    have := row_over (w := w) (Z := Z) (Y := Y) (L := L) (base := loc.base) (at_ := at_) (rs := flat rs) (flatRow (f := fun i => C[i]?) (fun x hx => (e5 x hx).2.1) c3) hv hle hrs rfl k p hp
    obtain ⟨c, d1, d2⟩ := this
    exact ⟨c, d1, d2.mono g⟩

theorem append_sound (h : Sim w0 M0 k0 Y Z w L S) (hrd : ∀ i obj, rd i = some obj → S i = some obj) {k : Nat} {t xt : TypeId} {s x : PV} {eff : Eff} {ts : Array TypeId} {ty : TypeId} {args : Array Value} {va vx : Value}
    (hfresh : ∀ p ∈ eff.ws, k ≤ p.1 → L p.1 = none)
    (h0 : ts[0]? = some t) (h1 : ts[1]? = some xt) (a0 : args[0]? = some va) (a1 : args[1]? = some vx) (hs : Rep w Z Y L va s) (hx : Rep w Z Y L vx x) (hr : aAppend P rd k t xt s x = some eff) :
    ∃ v w', (Builtin.append_ ts ty args).run P w = .ok v w' ∧ Post w0 M0 k0 Y Z w L S w' v eff.val eff.ws := by
  unfold aAppend at hr
  cases he : elemT P t with
  | none => rw [he] at hr; simp at hr
  | some e =>
    rw [he] at hr
    obtain ⟨hu, hT⟩ := elemT_spec he
    simp only at hr
    cases hsrc : srcOf rd (szOf P e) x with
    | none => rw [hsrc] at hr; simp at hr
    | some ys =>
      rw [hsrc] at hr
      simp only at hr
      cases hb : (sizeOk (szOf P e) ys && growOk P e && notInt P xt) with
      | false => rw [hb] at hr; simp at hr
      | true =>
        rw [hb] at hr
        simp only [Bool.and_eq_true] at hb
        obtain ⟨⟨b1, b2⟩, b3⟩ := hb
        obtain ⟨g1, g2, g3, g4⟩ := growOk_spec b2
        obtain ⟨sl, ⟨arr, sf, sr⟩, sy⟩ := src_sound (P := P) h hrd hx hsrc b1 g1
        have hys : ∀ y ∈ ys, (cellsOf y).length = szOf P e := fun y hy => (sy y hy).2.1
        have hfl := flat_length hys
        have harr : arr.size = ys.length * szOf P e := by have := sr.1; rw [hfl] at this; simpa using this
        simp only [cond_true] at hr
        -- the same in the world that has been drawn from
        obtain ⟨hd, gd⟩ := h.drew
        obtain ⟨sl', ⟨arr', sf', sr'⟩, _⟩ := src_sound (P := P) hd hrd (hx.mono gd) hsrc b1 g1
        have harr' : arr'.size = ys.length * szOf P e := by have := sr'.1; rw [hfl] at this; simpa using this
        split at hr
        · -- an empty slice without room
          cases hb : Nat.ble (ys.length * bytesOf P e) 140737488355328 with
          | false => rw [hb] at hr; simp at hr
          | true =>
            rw [hb] at hr; simp at hr; subst hr
            cases hs with
            | nils A =>
              have hk : L k = none := hfresh (k, .arr 0 (szOf P e) ys) (by simp) (Nat.le_refl _)
              by_cases hm : ys.length = 0
              · have hy0 : ys = [] := List.eq_nil_of_length_eq_zero hm
                subst hy0
                have harr0 : arr.toList = [] := by have := harr; simp at this; simpa using this
                have hst : (match A with | some a => storeCells (a.add (0 * szOf P e)) arr.toList | none => pure ()).run P w = .ok () w := by
                  rw [harr0]; cases A <;> rfl
                have run := append_fits (ty := ty) h0 h1 a0 a1 hu hT b3 rfl sl sf (by simp) hst
                obtain ⟨sb, gb⟩ := h.bare (o := k) (loc := ⟨0, 0, 0, 0, 0, false⟩) Z (szOf P e) (.inl hk) (fun b hb => .inl hb) (fun b hb => hb) rfl rfl
                refine ⟨_, _, run, Z, _, sb, gb, fun _ hb => .inl hb, ?_⟩
                exact .own k 0 0 0 ⟨0, 0, 0, 0, 0, false⟩ _ _ _ (upd_same ..) rfl (Nat.le_refl _) fun _ => ⟨rfl, by simp, by simp, by simp⟩
              · have ho : (Builtin.firstCells (szOf P e) 0 (.slice A 0 0)).run P w.drew = .ok #[] w.drew := by
                  obtain ⟨a', f1, f2⟩ := slCells_load (P := P) (w := w.drew) (Z := Z) (Y := Y) (L := L) (A := A) (xs := []) (sz := szOf P e) (m := 0) (c := 0) ⟨by simp, by simp⟩
                  have : a' = #[] := by have := f2.1; simp [flat] at this; exact this
                  rw [this] at f1; exact f1
                obtain ⟨N, rest, n1, n2, run⟩ := append_grows (ty := ty) h0 h1 a0 a1 hu hT b3 b2 sl ho sf' (by omega) (by rw [Nat.zero_add]; exact Nat.le_of_ble_eq_true hb)
                rw [Nat.zero_add] at n1 n2 run
                refine ⟨_, _, run, (Post.after gd ?_)⟩
                refine arr_new hd (.inl hk) g1 (by simp [harr', n2]; rw [← Nat.add_mul]; exact Nat.mul_le_mul_right _ (by omega)) n1 sy ?_
                have := rowFlat (w := w.drew) (Z := Z) (Y := Y) (L := L) (base := 0) (f := fun i => (#[] ++ arr' ++ rest)[i]?) hys (fun k p hp => by
                  obtain ⟨c, c1, c2⟩ := reps_get sr' hp
                  have hlt : k < arr'.size := by have := (List.getElem?_eq_some_iff.1 c1).1; simpa using this
                  refine ⟨c, ?_, c2⟩
                  simp only [Nat.zero_add, Array.empty_append]
                  rw [Array.getElem?_append_left hlt]
                  simpa using c1)
                simpa using this
        · -- an array of the call's own
          rename_i o ver i n
          cases ho : rd o with
          | none => rw [ho] at hr; simp at hr
          | some obj =>
            rw [ho] at hr
            cases obj with
            | arr v' sz xs =>
              simp only at hr
              cases hb : (Nat.beq v' ver && Nat.ble (i + n) xs.length && (Nat.beq sz 0 || Nat.beq sz (szOf P e))) with
              | false => rw [hb] at hr; simp at hr
              | true =>
                rw [hb] at hr
                simp only [Bool.and_eq_true, Bool.or_eq_true] at hb
                obtain ⟨⟨q1, q2⟩, q3⟩ := hb
                have q1 := Nat.eq_of_beq_eq_true q1
                have q2 := Nat.le_of_ble_eq_true q2
                simp only [cond_true] at hr
                cases hs with
                | own _ _ _ _ loc A m c hl hf hv hA =>
                  have hso := hrd o _ ho
                  obtain ⟨hver, hm, hsl, hlen, hel⟩ := own_cells h hrd hl hA ho q1 q2
                  obtain ⟨e1, e2, e3, e4, e5, e6⟩ := h.objs o loc _ hl hso
                  obtain ⟨a1', a2, a3, a4⟩ := hA hver
                  have hm' := hm.symm
                  clear hm
                  subst hm'
                  have hszc : 0 < loc.cap → loc.sz = szOf P e := by
                    intro hc
                    obtain ⟨u1, u2⟩ := e3 hc
                    rcases q3 with q3 | q3
                    · have := Nat.eq_of_beq_eq_true q3; omega
                    · exact u1.trans (Nat.eq_of_beq_eq_true q3)
                  have hq : (flat ys).length = ys.length * szOf P e := hfl
                  have hxs : ∀ x ∈ xs, (cellsOf x).length = loc.sz := fun x hx => (e5 x hx).2.1
                  have hfx := flat_length hxs
                  have hoky : okCells (flat ys) = true := flat_cells (t := true) fun y hy => (sy y hy).2.2
                  by_cases hm0 : ys = []
                  · -- nothing is added
                    subst hm0
                    have hb : Nat.ble (i + n + ([] : List PV).length) xs.length = true := Nat.ble_eq_true_of_le (by simpa using q2)
                    rw [hb] at hr
                    simp only [cond_true, Option.some.injEq] at hr
                    subst hr
                    have harr0 : arr.toList = [] := by have := harr; simp at this; simpa using this
                    have hst : (match A with | some a => storeCells (a.add (n * szOf P e)) arr.toList | none => pure ()).run P w = .ok () w := by
                      rw [harr0]; cases A <;> rfl
                    have run := append_fits (ty := ty) h0 h1 a0 a1 hu hT b3 rfl sl sf (by simp; omega) hst
                    refine ⟨_, _, run, Z, L, ?_, Gr.refl .., fun _ hb => .inl hb, ?_⟩
                    · have : updW S [(o, AObj.arr ver sz (xs.take (i + n) ++ [] ++ xs.drop (i + n + ([] : List PV).length)))] = S := by
                        simp only [updW, List.append_nil, List.length_nil, Nat.add_zero, List.take_append_drop]
                        exact upd_self (by rw [hso, q1])
                      simp only [this]; exact h
                    · exact .own o ver i _ loc _ _ _ hl hf hv fun hvv => ⟨rfl, by simpa using (hA hvv).2.1, (hA hvv).2.2.1, (hA hvv).2.2.2⟩
                  · have hm1 : 0 < ys.length := List.length_pos_iff.2 hm0
                    cases hb1 : Nat.ble (i + n + ys.length) xs.length with
                    | true =>
                      -- over elements that lie there
                      rw [hb1] at hr
                      simp only [cond_true, Option.some.injEq] at hr
                      subst hr
                      have hle := Nat.le_of_ble_eq_true hb1
                      have hcap : 0 < loc.cap := by omega
                      obtain ⟨C, T, c1, c2, c3⟩ := e6 hcap
                      have hsz := hszc hcap
                      have hA' := a4 (by omega)
                      have hroom : loc.base + (i + n) * loc.sz + arr.toList.length ≤ C.size := by
                        have h1 : (i + n) * loc.sz + ys.length * loc.sz ≤ loc.cap * loc.sz := by rw [← Nat.add_mul]; exact Nat.mul_le_mul_right _ (by omega)
                        simp only [Array.length_toList, harr]; rw [← hsz]; omega
                      have hst := lay_over (P := P) c1 sr hoky hroom
                      generalize hw2 : w.setRow loc.block (C.toList.take (loc.base + (i + n) * loc.sz) ++ arr.toList ++ C.toList.drop (loc.base + (i + n) * loc.sz + arr.toList.length)).toArray = w2 at hst
                      have hst' : (match A with | some a => storeCells (a.add (n * szOf P e)) arr.toList | none => pure ()).run P w = .ok () w2 := by
                        rw [hA']
                        simp only [add_none]
                        rw [show loc.base + i * loc.sz + n * szOf P e = loc.base + (i + n) * loc.sz from by rw [Nat.add_mul, ← hsz]; omega]
                        exact hst
                      have run := append_fits (ty := ty) h0 h1 a0 a1 hu hT b3 rfl sl sf (by omega) hst'
                      have hel' : ∀ x ∈ xs.take (i + n) ++ ys ++ xs.drop (i + n + ys.length), x.frz false = true ∧ (cellsOf x).length = loc.sz ∧ okCells (cellsOf x) = true := by
                        intro x hx
                        simp only [List.mem_append] at hx
                        rcases hx with (hx | hx) | hx
                        · exact e5 x (List.mem_of_mem_take hx)
                        · rw [hsz]; exact sy x hx
                        · exact e5 x (List.mem_of_mem_drop hx)
                      obtain ⟨s', g'⟩ := arr_put (rs := xs.take (i + n) ++ ys ++ xs.drop (i + n + ys.length)) (ver := v') (sz := sz) h hl hso hcap c1 sr hroom (by simp; omega) hel' (fun k p hp => by
                        rw [flat_append, flat_append, flat_take _ hxs, flat_drop _ hxs] at hp
                        rw [show (i + n + ys.length) * loc.sz = (i + n) * loc.sz + (flat ys).length from by rw [Nat.add_mul (i + n), hq, hsz]] at hp
                        rw [splice_get (flat xs) (flat ys) ((i + n) * loc.sz) (by rw [hfx, hq, ← hsz, ← Nat.add_mul]; exact Nat.mul_le_mul_right _ hle)] at hp
                        split at hp
                        · rename_i hk; exact .inl ⟨hk.1, hk.2, hp⟩
                        · rename_i hk; exact .inr ⟨by omega, hp⟩)
                      rw [q1, hw2] at s'
                      rw [hw2] at g'
                      exact ⟨_, _, run, Z, L, s', g', fun _ hb => .inl hb, .own o ver i _ loc _ _ _ hl hf hv fun _ => ⟨rfl, by omega, a3, a4⟩⟩
                    | false =>
                      rw [hb1] at hr
                      simp only [cond_false] at hr
                      cases hb2 : (Nat.beq (i + n) xs.length && Nat.ble ((n + ys.length) * bytesOf P e) 140737488355328) with
                      | false => rw [hb2] at hr; simp at hr
                      | true =>
                        rw [hb2] at hr
                        simp only [cond_true, Option.some.injEq] at hr
                        subst hr
                        simp only [Bool.and_eq_true] at hb2
                        have hin := Nat.eq_of_beq_eq_true hb2.1
                        have hby := Nat.le_of_ble_eq_true hb2.2
                        have hdl : (xs.drop i).length = n := by simp; omega
                        have hdx : ∀ x ∈ xs.drop i, (cellsOf x).length = loc.sz := fun x hx => hxs x (List.mem_of_mem_drop hx)
                        have hll : (xs.drop i ++ ys).length = n + ys.length := by simp; omega
                        by_cases hfit : n + ys.length ≤ c
                        · -- behind the elements, where there is room
                          have hcap : 0 < loc.cap := by omega
                          obtain ⟨C, T, c1, c2, c3⟩ := e6 hcap
                          have hsz := hszc hcap
                          have hA' := a4 (by omega)
                          have hcapm : i * loc.sz + (loc.cap - i) * loc.sz = loc.cap * loc.sz := by rw [← Nat.add_mul]; congr 1; omega
                          have hroom : loc.base + i * loc.sz + n * loc.sz + arr.toList.length ≤ C.size := by
                            have h1 : (n + ys.length) * loc.sz ≤ (loc.cap - i) * loc.sz := Nat.mul_le_mul_right _ (by omega)
                            rw [Nat.add_mul] at h1
                            simp only [Array.length_toList, harr]; rw [← hsz]; omega
                          have hst := lay_over (P := P) c1 sr hoky hroom
                          generalize hw2 : w.setRow loc.block (C.toList.take (loc.base + i * loc.sz + n * loc.sz) ++ arr.toList ++ C.toList.drop (loc.base + i * loc.sz + n * loc.sz + arr.toList.length)).toArray = w2 at hst
                          have hst' : (match A with | some a => storeCells (a.add (n * szOf P e)) arr.toList | none => pure ()).run P w = .ok () w2 := by
                            rw [hA']
                            simp only [add_none]
                            rw [show loc.base + i * loc.sz + n * szOf P e = loc.base + i * loc.sz + n * loc.sz from by rw [← hsz]]
                            exact hst
                          have run := append_fits (ty := ty) h0 h1 a0 a1 hu hT b3 rfl sl sf hfit hst'
                          have hel' : ∀ x ∈ xs.drop i ++ ys, x.frz false = true ∧ (cellsOf x).length = loc.sz ∧ okCells (cellsOf x) = true := by
                            intro x hx
                            simp only [List.mem_append] at hx
                            rcases hx with hx | hx
                            · exact e5 x (List.mem_of_mem_drop hx)
                            · rw [hsz]; exact sy x hx
                          obtain ⟨s', g'⟩ := h.move (loc' := ⟨loc.block, loc.base + i * loc.sz, loc.sz, loc.cap - i, ver + 1, false⟩) (obj' := .arr (ver + 1) (szOf P e) (xs.drop i ++ ys)) hl hso hcap hf rfl (by simp only; omega) rfl
                            (w' := w.setRow loc.block (C.toList.take (loc.base + i * loc.sz + n * loc.sz) ++ arr.toList ++ C.toList.drop (loc.base + i * loc.sz + n * loc.sz + arr.toList.length)).toArray)
                            (by simp [World.setRow]) (fun b hb => setRow_other _ _ _ _ hb) rfl rfl rfl (fun g => ⟨rfl, rfl, fun _ => ⟨hsz, g1⟩, by rw [hll]; simp only; omega, hel', fun _ => ⟨_, T, setRow_heap _ _ _ _ _ _ c1, by
                              have : (C.toList.take (loc.base + i * loc.sz + n * loc.sz) ++ arr.toList ++ C.toList.drop (loc.base + i * loc.sz + n * loc.sz + arr.toList.length)).toArray.size = C.size := by simp; simp at hroom; omega
                              rw [this]; simp only; omega, by
                              refine rowFlat (fun x hx => (hel' x hx).2.1) (fun k p hp => ?_)
                              have hold : ∀ (k : Nat) (p : PV), (flat (xs.drop i))[k]? = some p → ∃ c, C[loc.base + i * loc.sz + k]? = some c ∧ Rep w Z Y L c p := by
                                intro k p hp
                                rw [flat_drop _ hxs, List.getElem?_drop] at hp
                                have := flatRow (w := w) (Z := Z) (Y := Y) (L := L) (base := loc.base) (f := fun i => C[i]?) hxs c3 _ p hp
                                rw [Nat.add_assoc]; exact this
                              have := row_over (w := w) (Z := Z) (Y := Y) (L := L) (base := loc.base + i * loc.sz) (at_ := n * loc.sz) (rs := flat (xs.drop i ++ ys)) hold sr hroom (fun k p hp => by
                                rw [flat_append] at hp
                                have hfd := flat_length hdx
                                rw [hdl] at hfd
                                by_cases hk : k < n * loc.sz
                                · rw [List.getElem?_append_left (by omega)] at hp
                                  exact .inr ⟨.inl hk, hp⟩
                                · rw [List.getElem?_append_right (by omega), hfd] at hp
                                  refine .inl ⟨by omega, ?_, hp⟩
                                  have := (List.getElem?_eq_some_iff.1 hp).1
                                  omega) rfl k p hp
                              obtain ⟨c', d1, d2⟩ := this
                              exact ⟨c', d1, d2.mono g⟩⟩⟩)
                          rw [hw2] at s' g'
                          refine ⟨_, _, run, Z, _, s', g', fun _ hb => .inl hb, .own o (ver + 1) 0 _ ⟨loc.block, loc.base + i * loc.sz, loc.sz, loc.cap - i, ver + 1, false⟩ _ _ _ (upd_same ..) rfl (Nat.le_refl _) fun _ => ⟨rfl, by simp only; omega, by simp only; omega, fun _ => by simp only [Nat.zero_mul, Nat.add_zero]; exact hA'⟩⟩
                        · -- in a new block
                          have hslc : SlCells w.drew Z Y L A (xs.drop i) (szOf P e) := by
                            refine ⟨fun x hx => ?_, fun hne => ?_⟩
                            · have hxm := List.mem_of_mem_drop hx
                              have : 0 < loc.cap := by have := List.length_pos_of_mem hxm; omega
                              rw [← hszc this]; exact hdx x hx
                            · have htk : (xs.drop i).take n = xs.drop i := List.take_of_length_le (by omega)
                              rw [htk] at hsl
                              obtain ⟨b, off, h3, h4⟩ := hsl.2 hne
                              have : 0 < loc.cap := by
                                have : 0 < (xs.drop i).length := List.length_pos_iff.2 hne
                                simp at this; omega
                              rw [← hszc this]
                              exact ⟨b, off, h3, fun i' x j p q r => by obtain ⟨c', u1, u2⟩ := h4 i' x j p q r; exact ⟨c', u1, u2.mono gd⟩⟩
                          obtain ⟨old, o1, o2⟩ := slCells_load (P := P) (m := n) (c := c) hslc
                          rw [hdl] at o1
                          obtain ⟨N, rest, n1, n2, run⟩ := append_grows (ty := ty) h0 h1 a0 a1 hu hT b3 b2 sl o1 sf' hfit hby
                          have hdx' : ∀ x ∈ xs.drop i, (cellsOf x).length = szOf P e := hslc.1
                          have hfd := flat_length hdx'
                          rw [hdl] at hfd
                          have hosz : old.size = n * szOf P e := by have := o2.1; rw [hfd] at this; simpa using this
                          have hel' : ∀ x ∈ xs.drop i ++ ys, x.frz false = true ∧ (cellsOf x).length = szOf P e ∧ okCells (cellsOf x) = true := by
                            intro x hx
                            simp only [List.mem_append] at hx
                            rcases hx with hx | hx
                            · exact ⟨(e5 x (List.mem_of_mem_drop hx)).1, hdx' x hx, (e5 x (List.mem_of_mem_drop hx)).2.2⟩
                            · exact sy x hx
                          refine ⟨_, _, run, Post.after gd ?_⟩
                          rw [← hll]
                          refine arr_new hd (.inr ⟨loc, hl, hf, by omega⟩) g1 ?_ (by rw [hll]; exact n1) hel' ?_
                          · simp only [Array.size_append, hosz, harr', n2]
                            rw [← Nat.add_mul, ← Nat.add_mul]; exact Nat.mul_le_mul_right _ (by omega)
                          · have := rowFlat (w := w.drew) (Z := Z) (Y := Y) (L := L) (base := 0) (f := fun i => (old ++ arr' ++ rest)[i]?) (fun x hx => (hel' x hx).2.1) (fun k p hp => by
                              rw [flat_append] at hp
                              simp only [Nat.zero_add]
                              have hlt := (List.getElem?_eq_some_iff.1 hp).1
                              rw [List.length_append, hfd, hfl] at hlt
                              rw [Array.getElem?_append_left (by rw [Array.size_append, hosz, harr']; exact hlt)]
                              by_cases hk : k < n * szOf P e
                              · rw [List.getElem?_append_left (by omega)] at hp
                                rw [Array.getElem?_append_left (by omega)]
                                obtain ⟨c', u1, u2⟩ := reps_get o2 hp
                                exact ⟨c', by simpa using u1, u2⟩
                              · rw [List.getElem?_append_right (by omega), hfd] at hp
                                rw [Array.getElem?_append_right (by omega), hosz]
                                obtain ⟨c', u1, u2⟩ := reps_get sr' hp
                                exact ⟨c', by simpa using u1, u2⟩)
                            simpa using this
            | _ => simp at hr
        · simp at hr
end
end Go.Bb

namespace Go.Bb
section
variable {P : Program} {w0 : World} {M0 : Nat → Nat → Prop} {k0 : Nat} {Y Z : Nat → Prop} {w : World} {L : Nat → Option Loc} {S : Nat → Option AObj} {rd : Rd}

theorem updW_append : ∀ (a b : Ws) (S : Nat → Option AObj), updW S (a ++ b) = updW (updW S a) b
  | [], b, S => rfl
  | (o, x) :: r, b, S => by simp only [List.cons_append, updW]; exact updW_append r b _

theorem thawCells_ids : ∀ (xs : List PV) (k : Nat), ∀ p ∈ (thawCells k xs).2, k ≤ p.1
  | [], k, p, h => by simp [thawCells] at h
  | x :: r, k, p, h => by
    cases x <;> simp only [thawCells] at h <;> first
      | exact thawCells_ids r k p h
      | (rcases List.mem_cons.1 h with rfl | h
         · exact Nat.le_refl _
         · have := thawCells_ids r (k + 1) p h; omega)

theorem thawCells_ok : ∀ (xs : List PV) (k : Nat), okCells xs = true → okCells (thawCells k xs).1 = true
  | [], _, _ => rfl
  | x :: r, k, h => by
    simp only [okCells, Bool.and_eq_true] at h
    cases x <;> simp only [thawCells, okCells, Bool.and_eq_true] <;> first
      | exact ⟨h.1, thawCells_ok r k h.2⟩
      | exact ⟨rfl, thawCells_ok r (k + 1) h.2⟩

theorem thawCells_length : ∀ (xs : List PV) (k : Nat), (thawCells k xs).1.length = xs.length
  | [], _ => rfl
  | x :: r, k => by cases x <;> simp only [thawCells, List.length_cons, thawCells_length r]

theorem thawCells_sound : ∀ (xs : List PV) (cs : List Value) (k : Nat) {L : Nat → Option Loc} {S : Nat → Option AObj}, Sim w0 M0 k0 Y Z w L S → Reps w Z Y L cs xs → (∀ p ∈ (thawCells k xs).2, L p.1 = none) →
    ∃ L', Sim w0 M0 k0 Y Z w L' (updW S (thawCells k xs).2) ∧ Gr Y w Z L w Z L' ∧ Reps w Z Y L' cs (thawCells k xs).1 ∧ ∀ i, (∀ p ∈ (thawCells k xs).2, p.1 ≠ i) → L' i = L i
  | [], cs, k, L, S, h, hc, _ => ⟨L, h, Gr.refl .., by simpa [thawCells] using hc, fun _ _ => rfl⟩
  | x :: r, [], k, L, S, h, hc, _ => by have := hc.1; simp at this
  | x :: r, c :: cs, k, L, S, h, hc, hf => by
    have hcr : Reps w Z Y L cs r := ⟨by have := hc.1; simpa using this, fun j c' p a b => hc.2 (j + 1) c' p (by simpa using a) (by simpa using b)⟩
    have hx := hc.2 0 c x rfl rfl
    have cons : ∀ {L' : Nat → Option Loc} {y : PV} {s : List PV}, Rep w Z Y L' c y → Reps w Z Y L' cs s → Reps w Z Y L' (c :: cs) (y :: s) := by
      intro L' y s h1 h2
      refine ⟨by simp [h2.1], fun j c' p a b => ?_⟩
      cases j with
      | zero => simp at a b; subst a b; exact h1
      | succ j => exact h2.2 j c' p (by simpa using a) (by simpa using b)
    by_cases hn : x = .nils
    · subst hn
      simp only [thawCells] at hf ⊢
      have hk : L k = none := hf (k, .arr 0 0 []) (by simp)
      obtain ⟨s1, g1⟩ := h.bare (o := k) (loc := ⟨0, 0, 0, 0, 0, false⟩) Z 0 (.inl hk) (fun b hb => .inl hb) (fun b hb => hb) rfl rfl
      obtain ⟨L', s2, g2, r2, l2⟩ := thawCells_sound r cs (k + 1) s1 (hcr.mono g1) (fun p hp => by
        have h1 := thawCells_ids r (k + 1) p hp
        rw [upd_ne _ _ (by omega)]
        exact hf p (List.mem_cons_of_mem _ hp))
      refine ⟨L', s2, g1.trans g2, cons ?_ r2, fun i hi => (l2 i (fun p hp => hi p (List.mem_cons_of_mem _ hp))).trans (upd_ne _ _ (fun e => hi (k, .arr 0 0 []) (by simp) e.symm))⟩
      cases hx with
      | nils A => exact (Rep.own k 0 0 0 ⟨0, 0, 0, 0, 0, false⟩ A 0 0 (upd_same ..) rfl (Nat.le_refl _) fun _ => ⟨rfl, by simp, by simp, by simp⟩ : Rep w Z Y (upd L k ⟨0, 0, 0, 0, 0, false⟩) _ _).mono g2
    · have e : thawCells k (x :: r) = (x :: (thawCells k r).1, (thawCells k r).2) := by cases x <;> first | rfl | exact absurd rfl hn
      rw [e] at hf ⊢
      obtain ⟨L', s2, g2, r2, l2⟩ := thawCells_sound r cs k h hcr hf
      exact ⟨L', s2, g2, cons (hx.mono g2) r2, l2⟩

theorem thaw_cells (k : Nat) (x : PV) : cellsOf (thaw k x).1 = (thawCells k (cellsOf x)).1 ∧ (thaw k x).2 = (thawCells k (cellsOf x)).2 := by
  cases x <;> simp [thaw, cellsOf, thawCells]

theorem thaw_sound (h : Sim w0 M0 k0 Y Z w L S) {k : Nat} {x : PV} {v : Value} (hx : Rep w Z Y L v x) (hf : ∀ p ∈ (thaw k x).2, L p.1 = none) :
    ∃ L', Sim w0 M0 k0 Y Z w L' (updW S (thaw k x).2) ∧ Gr Y w Z L w Z L' ∧ Rep w Z Y L' v (thaw k x).1 ∧ ∀ i, (∀ p ∈ (thaw k x).2, p.1 ≠ i) → L' i = L i := by
  have hx' := hx
  cases hx with
  | agg cs xs hs hc =>
    obtain ⟨L', s, g, r, l⟩ := thawCells_sound xs cs.toList k h ⟨by simpa using hs, fun j c p a b => hc j c p (by simpa using a) b⟩ hf
    exact ⟨L', s, g, .agg cs _ (by have := r.1; simpa using this) (fun i c x a b => r.2 i c x (by simpa using a) b), l⟩
  | nils A =>
    have hk : L k = none := hf (k, .arr 0 0 []) (by simp [thaw])
    obtain ⟨s1, g1⟩ := h.bare (o := k) (loc := ⟨0, 0, 0, 0, 0, false⟩) Z 0 (.inl hk) (fun b hb => .inl hb) (fun b hb => hb) rfl rfl
    exact ⟨_, s1, g1, .own k 0 0 0 ⟨0, 0, 0, 0, 0, false⟩ A 0 0 (upd_same ..) rfl (Nat.le_refl _) (fun _ => ⟨rfl, by simp, by simp, by simp⟩), fun i hi => upd_ne _ _ (Ne.symm (hi (k, .arr 0 0 []) (by simp [thaw])))⟩
  | _ => exact ⟨L, h, Gr.refl .., hx', fun _ _ => rfl⟩

theorem Post.of_gr {w1 w' : World} {L1 : Nat → Option Loc} {v : Value} {p : PV} {ws1 ws : Ws} (g : Gr Y w Z L w1 Z L1) (h : Post w0 M0 k0 Y Z w1 L1 (updW S ws1) w' v p ws) : Post w0 M0 k0 Y Z w L S w' v p (ws1 ++ ws) := by
  obtain ⟨Z', L', a, b, c, d⟩ := h
  exact ⟨Z', L', by rw [updW_append]; exact a, g.trans b, c, d⟩

theorem thaw_ids (k : Nat) (x : PV) : ∀ p ∈ (thaw k x).2, k ≤ p.1 := by
  rw [(thaw_cells k x).2]; exact thawCells_ids _ _

/-- How many there are, and that they are told in a row. -/
theorem thawCells_row : ∀ (xs : List PV) (k : Nat), ∀ p ∈ (thawCells k xs).2, p.1 < k + (thawCells k xs).2.length
  | [], k, p, h => by simp [thawCells] at h
  | x :: r, k, p, h => by
    cases x <;> simp only [thawCells] at h ⊢ <;> first
      | exact thawCells_row r k p h
      | (rcases List.mem_cons.1 h with rfl | h
         · simp
         · have := thawCells_row r (k + 1) p h; simp only [List.length_cons]; omega)

theorem alloc_sound (h : Sim w0 M0 k0 Y Z w L S) {t : TypeId} {k : Nat} (hz : okCells (cellsOf (zeroP P t)) = true)
    (hf : ∀ p ∈ (thaw k (zeroP P t)).2 ++ [(k + (thaw k (zeroP P t)).2.length, AObj.var (thaw k (zeroP P t)).1)], L p.1 = none) :
    ∃ u w', (Instr.alloc t true (.tuple #[])).run P w = .ok u w' ∧
      Post w0 M0 k0 Y Z w L S w' u (.refv (k + (thaw k (zeroP P t)).2.length) 0) ((thaw k (zeroP P t)).2 ++ [(k + (thaw k (zeroP P t)).2.length, .var (thaw k (zeroP P t)).1)]) := by
  obtain ⟨v, v1, v2, v3⟩ := zero_reps (P := P) (w := w) (Z := Z) (Y := Y) (L := L) hz w
  obtain ⟨L', s, g, r, l⟩ := thaw_sound h v2 (fun p hp => hf p (List.mem_append_left _ hp))
  have hnew : L' (k + (thaw k (zeroP P t)).2.length) = none := by
    rw [l _ (fun p hp => by
      rw [(thaw_cells k _).2] at hp ⊢
      exact Nat.ne_of_lt (thawCells_row _ _ p hp))]
    exact hf _ (List.mem_append_right _ (List.mem_singleton.2 rfl))
  have hok : okCells (cellsOf (thaw k (zeroP P t)).1) = true := by rw [(thaw_cells k _).1]; exact thawCells_ok _ _ hz
  refine ⟨.pointer (some ⟨w.heap.size, 0, none⟩), w.alloc (.cells v.cells t), by simp [Instr.alloc, v1, newVar, newRow, World.alloc_eq], Post.of_gr g (var_new s hnew hok (r.cells hok))⟩
theorem updW_ne : ∀ (ws : Ws) (S : Nat → Option AObj) (o : Nat), (∀ p ∈ ws, p.1 ≠ o) → updW S ws o = S o
  | [], S, o, _ => rfl
  | (a, x) :: r, S, o, h => by
    simp only [updW]
    rw [updW_ne r _ o (fun p hp => h p (List.mem_cons_of_mem _ hp)), upd_ne _ _ (Ne.symm (h (a, x) (by simp)))]

theorem rest1_rep {v : Value} {x : PV} (h : Rep w Z Y L v x) : Rep w Z Y L v (rest1 x) := by
  cases h with
  | nils A => exact .list false [] A 0 0 0 0 (fun _ _ => undef) (Nat.le_refl _) (by simp) (by simp) (by simp) (by simp)
  | int k n => exact .int k n
  | bool b => exact .bool b
  | str s => exact .str s
  | nilf => exact .nilf
  | nili => exact .nili
  | nilp => exact .nilp
  | agg cs xs hs hc => exact .agg cs xs hs hc
  | tup cs xs hs hc => exact .tup cs xs hs hc
  | list y xs A b off c sz cv hl hA hx hv hc => exact .list y xs A b off c sz cv hl hA hx hv hc
  | ro y x b off cv hz hx hv hc => exact .ro y x b off cv hz hx hv hc
  | rom y ks vs r es clock hz hr hk hn hf hkf h1 h2 => exact .rom y ks vs r es clock hz hr hk hn hf hkf h1 h2
  | refv o off loc hl hf => exact .refv o off loc hl hf
  | refa o ver i off loc b a hl hf hv hA => exact .refa o ver i off loc b a hl hf hv hA
  | own o ver i n loc A m c hl hf hv hA => exact .own o ver i n loc A m c hl hf hv hA
  | map o loc hl hf => exact .map o loc hl hf
  | iter o loc hl hf => exact .iter o loc hl hf
  | clo f cs caps hs hc => exact .clo f cs caps hs hc
  | dead v => exact .dead v

theorem rest_rep {v : Value} {x : PV} (h : Rep w Z Y L v x) : Rep w Z Y L v (rest x) := by
  by_cases ha : ∃ cs, x = .agg cs
  · obtain ⟨xs, rfl⟩ := ha
    cases h with
    | agg cs _ hs hc =>
      refine .agg cs _ (by simpa using hs) fun i c x h1 h2 => ?_
      rw [List.getElem?_map] at h2
      obtain ⟨y, h3, rfl⟩ := Option.map_eq_some_iff.1 h2
      exact rest1_rep (hc i c y h1 h3)
  · have : rest x = rest1 x := by cases x <;> first | rfl | exact absurd ⟨_, rfl⟩ ha
    rw [this]; exact rest1_rep h

theorem rest1_ok {x : PV} (h : okCell x = true) : okCell (rest1 x) = true := by cases x <;> simp_all [rest1, okCell]
theorem rest_cells (x : PV) : (cellsOf (rest x)).length = (cellsOf x).length ∧ (okCells (cellsOf x) = true → okCells (cellsOf (rest x)) = true) := by
  by_cases ha : ∃ cs, x = .agg cs
  · obtain ⟨xs, rfl⟩ := ha
    refine ⟨by simp [rest, cellsOf], fun h => ?_⟩
    simp only [rest, cellsOf] at h ⊢
    rw [okCells_all] at h ⊢
    intro p hp
    obtain ⟨q, hq, rfl⟩ := List.mem_map.1 hp
    exact rest1_ok (h q hq)
  · cases x <;> first | exact absurd ⟨_, rfl⟩ ha | simp [rest, rest1, cellsOf, okCells, okCell]

theorem relike_cells {x : PV} {vs r : List PV} {off : Nat} (hx : okCells (cellsOf x) = true) (hv : okCells vs = true) (h : putCells (cellsOf x) off vs = some r) :
    cellsOf (relike x r) = r ∧ okCells r = true ∧ r.length = (cellsOf x).length := by
  obtain ⟨hle, rfl⟩ := putCells_spec h
  have hok : okCells ((cellsOf x).take off ++ vs ++ (cellsOf x).drop (off + vs.length)) = true := by
    rw [okCells_all] at hx hv ⊢
    intro p hp
    simp only [List.mem_append] at hp
    rcases hp with (hp | hp) | hp
    · exact hx p (List.mem_of_mem_take hp)
    · exact hv p hp
    · exact hx p (List.mem_of_mem_drop hp)
  have hlen : ((cellsOf x).take off ++ vs ++ (cellsOf x).drop (off + vs.length)).length = (cellsOf x).length := by simp; omega
  refine ⟨?_, hok, hlen⟩
  by_cases ha : ∃ cs, x = .agg cs
  · obtain ⟨xs, rfl⟩ := ha; rfl
  · have hc1 : cellsOf x = [x] := by cases x <;> first | rfl | exact absurd ⟨_, rfl⟩ ha
    have hr : relike x ((cellsOf x).take off ++ vs ++ (cellsOf x).drop (off + vs.length)) = ((cellsOf x).take off ++ vs ++ (cellsOf x).drop (off + vs.length)).headD .dead := by
      cases x <;> first | rfl | exact absurd ⟨_, rfl⟩ ha
    rw [hr]
    generalize (cellsOf x).take off ++ vs ++ (cellsOf x).drop (off + vs.length) = r at *
    rw [hc1] at hlen
    match r, hlen with
    | [q], _ =>
      simp only [okCells, Bool.and_true] at hok
      cases q <;> first | rfl | simp [okCell] at hok

theorem flat_set {sz : Nat} {xs : List PV} {i : Nat} {e e' : PV} (hs : ∀ x ∈ xs, (cellsOf x).length = sz) (hi : xs[i]? = some e) (he : (cellsOf e').length = sz) (k : Nat) :
    (flat (xs.set i e'))[k]? = if i * sz ≤ k ∧ k < i * sz + sz then (cellsOf e')[k - i * sz]? else (flat xs)[k]? := by
  have hlt := (List.getElem?_eq_some_iff.1 hi).1
  have e1 : xs.set i e' = xs.take i ++ [e'] ++ xs.drop (i + [e'].length) := by
    rw [List.set_eq_take_append_cons_drop, if_pos hlt]; simp
  rw [e1, flat_append, flat_append, flat_take _ hs, flat_drop _ hs]
  have e2 : flat [e'] = cellsOf e' := by simp [flat]
  rw [e2, show (i + [e'].length) * sz = i * sz + (cellsOf e').length from by rw [he, List.length_singleton, Nat.add_mul]; omega]
  rw [splice_get _ _ _ (by rw [he, flat_length hs]; have := Nat.mul_le_mul_right sz (show i + 1 ≤ xs.length by omega); rw [Nat.add_mul] at this; omega), he]

theorem store_sound (h : Sim w0 M0 k0 Y Z w L S) (hrd : ∀ i obj, rd i = some obj → S i = some obj) {k : Nat} {t : TypeId} {a x : PV} {va vx : Value} {eff : Eff}
    (ha : Rep w Z Y L va a) (hx : Rep w Z Y L vx x) (hr : aStore P rd k t a x = some eff) (hf' : ∀ p ∈ eff.ws, k ≤ p.1 → L p.1 = none) :
    ∃ w', (Instr.storeAt t va vx).run P w = .ok () w' ∧ Post w0 M0 k0 Y Z w L S w' (.tuple #[]) eff.val eff.ws := by
  unfold aStore at hr
  cases hb : (hasT P t && Nat.blt 0 (szOf P t) && Nat.beq (cellsOf x).length (szOf P t) && okCells (cellsOf x)) with
  | false => rw [hb] at hr; simp at hr
  | true =>
    rw [hb] at hr
    simp only [Bool.and_eq_true] at hb
    obtain ⟨⟨⟨hT, hpos⟩, hlen⟩, hok⟩ := hb
    have hlen := Nat.eq_of_beq_eq_true hlen
    have hpos : 0 < szOf P t := by simpa [Nat.blt_eq] using hpos
    have hcx := hx.cells hok
    have hvs : vx.cells.size = szOf P t := by have := hcx.1; simp at this; omega
    simp only [cond_true] at hr
    have run : ∀ b o w', (storeCells ⟨b, o, none⟩ vx.cells.toList).run P w = .ok () w' → (Instr.storeAt t (.pointer (some ⟨b, o, none⟩)) vx).run P w = .ok () w' := by
      intro b o w' hst
      simp [Instr.storeAt, Instr.sureAddr, storeVar, run_sizeOf' hT, hvs, hst]
    have tupU : ∀ {w' : World} {Z' : Nat → Prop} {L' : Nat → Option Loc}, Rep w' Z' Y L' (.tuple #[]) (.tup []) := .tup #[] [] rfl (by simp)
    cases ha with
    | refv o off loc hl hfx =>
      simp only at hr
      cases ho : rd o with
      | none => rw [ho] at hr; simp at hr
      | some obj =>
        rw [ho] at hr
        cases obj with
        | var v =>
          simp only at hr
          cases hp : putCells (cellsOf v) off (cellsOf (thaw k x).1) with
          | none => rw [hp] at hr; simp at hr
          | some cs =>
            rw [hp] at hr; simp only [Option.some.injEq] at hr; subst hr
            have hso := hrd o _ ho
            have hf : ∀ p ∈ (thaw k x).2, L p.1 = none := fun p hp => hf' p (List.mem_append_left _ hp) (thaw_ids k x p hp)
            obtain ⟨L1, s1, g1, r1, l1⟩ := thaw_sound h hx hf
            have hne : ∀ p ∈ (thaw k x).2, p.1 ≠ o := fun p hp e => by have := hf p hp; rw [e, hl] at this; cases this
            have hl1 : L1 o = some loc := (l1 o hne).trans hl
            have hso1 : updW S (thaw k x).2 o = some (.var v) := (updW_ne _ _ _ hne).trans hso
            have hok1 : okCells (cellsOf (thaw k x).1) = true := by rw [(thaw_cells k x).1]; exact thawCells_ok _ _ hok
            have hlen1 : (cellsOf (thaw k x).1).length = szOf P t := by rw [(thaw_cells k x).1, thawCells_length, hlen]
            obtain ⟨q1, q2, C, T, q3, q4⟩ := s1.objs o loc _ hl1 hso1
            have hcx1 := r1.cells hok1
            obtain ⟨hle, hcs⟩ := putCells_spec hp
            obtain ⟨rc1, rc2, rc3⟩ := relike_cells q2 hok1 hp
            have hlt : off + szOf P t - 1 < (cellsOf v).length := by omega
            obtain ⟨c', d1, d2⟩ := q4 _ _ (List.getElem?_eq_getElem hlt)
            have hroom : loc.base + off + vx.cells.toList.length ≤ C.size := by
              have := (Array.getElem?_eq_some_iff.1 d1).1
              simp [hvs]; omega
            have hst := lay_over (P := P) q3 hcx1 hok1 hroom
            refine ⟨_, run _ _ _ hst, Post.of_gr g1 ?_⟩
            obtain ⟨s2, g2⟩ := s1.put (obj' := .var (relike v cs)) hl1 hso1 trivial (w' := w.setRow loc.block (C.toList.take (loc.base + off) ++ vx.cells.toList ++ C.toList.drop (loc.base + off + vx.cells.toList.length)).toArray)
              (by simp [World.setRow]) (fun b hb => setRow_other _ _ _ _ hb) rfl rfl rfl (fun g => ⟨q1, by rw [rc1]; exact rc2, _, T, setRow_heap _ _ _ _ _ _ q3, fun j p hj => by
                rw [rc1, hcs] at hj
                obtain ⟨c2, u1, u2⟩ := row_over (w := w) (Z := Z) (Y := Y) (L := L1) (base := loc.base) (at_ := off) (rs := (cellsOf v).take off ++ cellsOf (thaw k x).1 ++ (cellsOf v).drop (off + (cellsOf (thaw k x).1).length)) q4 hcx1 hroom (fun k' p' hk' => by
                  rw [splice_get _ _ _ hle] at hk'
                  split at hk'
                  · rename_i hh; exact .inl ⟨hh.1, hh.2, hk'⟩
                  · rename_i hh; exact .inr ⟨by omega, hk'⟩) rfl j p hj
                exact ⟨c2, u1, u2.mono g⟩⟩)
            exact ⟨Z, L1, s2, g2, fun _ hb => .inl hb, tupU⟩
        | _ => simp at hr
    | refa o ver i off loc b adr hl hfx hvv hA =>
      simp only at hr
      cases ho : rd o with
      | none => rw [ho] at hr; simp at hr
      | some obj =>
        rw [ho] at hr
        cases obj with
        | arr v' sz xs =>
          simp only at hr
          cases hb : (Nat.beq v' ver && (rest x).frz false) with
          | false => rw [hb] at hr; simp at hr
          | true =>
            rw [hb] at hr
            simp only [Bool.and_eq_true] at hb
            have hvq := Nat.eq_of_beq_eq_true hb.1
            simp only [cond_true] at hr
            cases hxi : xs[i]? with
            | none => rw [hxi] at hr; simp at hr
            | some e =>
              rw [hxi] at hr
              simp only at hr
              cases hp : putCells (cellsOf e) off (cellsOf (rest x)) with
              | none => rw [hp] at hr; simp at hr
              | some cs =>
                rw [hp] at hr; simp only [Option.some.injEq] at hr; subst hr
                have hso := hrd o _ ho
                obtain ⟨e1, e2, e3, e4, e5, e6⟩ := h.objs o loc _ hl hso
                have hlti := (List.getElem?_eq_some_iff.1 hxi).1
                have hcap : 0 < loc.cap := by omega
                obtain ⟨C, T, c1, c2, c3⟩ := e6 hcap
                obtain ⟨rfl, rfl⟩ := hA (e2.trans hvq)
                have hrest := rest_cells x
                have hokr := hrest.2 hok
                have hlenr : (cellsOf (rest x)).length = szOf P t := by rw [hrest.1, hlen]
                have hcr := (rest_rep hx).cells hokr
                have he := e5 e (List.mem_of_getElem? hxi)
                obtain ⟨hle, hcs⟩ := putCells_spec hp
                obtain ⟨rc1, rc2, rc3⟩ := relike_cells he.2.2 hokr hp
                have hxs : ∀ x ∈ xs, (cellsOf x).length = loc.sz := fun x hx => (e5 x hx).2.1
                have hmul : i * loc.sz + loc.sz ≤ loc.cap * loc.sz := by
                  have := Nat.mul_le_mul_right loc.sz (show i + 1 ≤ loc.cap by omega)
                  rw [Nat.add_mul] at this; omega
                have hroom : loc.base + (i * loc.sz + off) + vx.cells.toList.length ≤ C.size := by
                  have := he.2.1
                  simp [hvs]; omega
                have hst := lay_over (P := P) c1 hcr hokr hroom
                have hfrz : (relike e cs).frz false = true := by
                  have hall : ∀ p ∈ cs, p.frz false = true := by
                    intro p hp'
                    rw [hcs] at hp'
                    simp only [List.mem_append] at hp'
                    rcases hp' with (hp' | hp') | hp'
                    · exact frz_cells he.1 p (List.mem_of_mem_take hp')
                    · exact frz_cells hb.2 p hp'
                    · exact frz_cells he.1 p (List.mem_of_mem_drop hp')
                  by_cases ha : ∃ ds, e = .agg ds
                  · obtain ⟨ds, rfl⟩ := ha
                    simp only [relike, PV.frz, frzs_all]; exact hall
                  · have hc1 : cellsOf e = [e] := by cases e <;> first | rfl | exact absurd ⟨_, rfl⟩ ha
                    have hr : relike e cs = cs.headD .dead := by cases e <;> first | rfl | exact absurd ⟨_, rfl⟩ ha
                    rw [hr]
                    rw [hc1] at rc3
                    match cs, rc3, hall with
                    | [q], _, hall => exact hall q (by simp)
                rw [Nat.add_assoc]
                refine ⟨_, run _ _ _ hst, ?_⟩
                obtain ⟨s2, g2⟩ := arr_put (rs := xs.set i (relike e cs)) h hl hso hcap c1 hcr hroom (by simpa using e4) (fun y hy => by
                  rcases List.mem_or_eq_of_mem_set hy with hy | rfl
                  · exact e5 y hy
                  · exact ⟨hfrz, by rw [rc1, rc3]; exact he.2.1, by rw [rc1]; exact rc2⟩) (fun k' p' hk' => by
                  rw [flat_set hxs hxi (by rw [rc1, rc3]; exact he.2.1)] at hk'
                  split at hk'
                  · rename_i hh
                    rw [rc1, hcs, splice_get _ _ _ hle] at hk'
                    split at hk'
                    · rename_i h2
                      exact .inl ⟨by omega, by omega, by rw [← hk']; congr 1; omega⟩
                    · rename_i h2
                      refine .inr ⟨by omega, ?_⟩
                      have hj : k' - i * loc.sz < loc.sz := by omega
                      have := flat_get hxs hxi hj
                      rw [show i * loc.sz + (k' - i * loc.sz) = k' from by omega] at this
                      rw [this]; exact hk'
                  · rename_i hh
                    refine .inr ⟨?_, hk'⟩
                    have := he.2.1
                    omega)
                rw [hvq] at s2
                exact ⟨Z, L, s2, g2, fun _ hb => .inl hb, tupU⟩
        | _ => simp at hr
    | _ => simp at hr
end
end Go.Bb

namespace Go.Bb
section
variable {P : Program} {w0 : World} {M0 : Nat → Nat → Prop} {k0 : Nat} {Y Z : Nat → Prop} {w : World} {L : Nat → Option Loc} {S : Nat → Option AObj} {rd : Rd}

theorem tupU {w' : World} {Z' : Nat → Prop} {L' : Nat → Option Loc} : Rep w' Z' Y L' (.tuple #[]) (.tup []) := .tup #[] [] rfl (by simp)

/-- An array's elements from i on, written over in place. -/
theorem arr_over (h : Sim w0 M0 k0 Y Z w L S) {o ver sz i : Nat} {loc : Loc} {xs ys : List PV} {vs : List Value}
    (hl : L o = some loc) (hs : S o = some (.arr ver sz xs)) (hle : i + ys.length ≤ xs.length) (hne : ys ≠ []) (hv : Reps w Z Y L vs (flat ys))
    (hy : ∀ y ∈ ys, y.frz false = true ∧ (cellsOf y).length = loc.sz ∧ okCells (cellsOf y) = true) :
    ∃ w', (storeCells ⟨loc.block, loc.base + i * loc.sz, none⟩ vs).run P w = .ok () w' ∧
      Sim w0 M0 k0 Y Z w' L (upd S o (.arr ver sz (xs.take i ++ ys ++ xs.drop (i + ys.length)))) ∧ Gr Y w Z L w' Z L := by
  obtain ⟨e1, e2, e3, e4, e5, e6⟩ := h.objs o loc _ hl hs
  have hpos : 0 < ys.length := List.length_pos_iff.2 hne
  have hcap : 0 < loc.cap := by omega
  obtain ⟨C, T, c1, c2, c3⟩ := e6 hcap
  have hxs : ∀ x ∈ xs, (cellsOf x).length = loc.sz := fun x hx => (e5 x hx).2.1
  have hys : ∀ x ∈ ys, (cellsOf x).length = loc.sz := fun x hx => (hy x hx).2.1
  have hfx := flat_length hxs
  have hfy := flat_length hys
  have hoky : okCells (flat ys) = true := flat_cells (t := true) fun y hy' => (hy y hy').2.2
  have hvl : vs.length = ys.length * loc.sz := hv.1.trans hfy
  have hroom : loc.base + i * loc.sz + vs.length ≤ C.size := by
    have h1 : i * loc.sz + ys.length * loc.sz ≤ loc.cap * loc.sz := by rw [← Nat.add_mul]; exact Nat.mul_le_mul_right _ (by omega)
    omega
  have hst := lay_over (P := P) c1 hv hoky hroom
  obtain ⟨s', g'⟩ := arr_put (rs := xs.take i ++ ys ++ xs.drop (i + ys.length)) h hl hs hcap c1 hv hroom (by simp; omega) (fun x hx => by
    simp only [List.mem_append] at hx
    rcases hx with (hx | hx) | hx
    · exact e5 x (List.mem_of_mem_take hx)
    · exact hy x hx
    · exact e5 x (List.mem_of_mem_drop hx)) (fun k p hp => by
    rw [flat_append, flat_append, flat_take _ hxs, flat_drop _ hxs] at hp
    rw [show (i + ys.length) * loc.sz = i * loc.sz + (flat ys).length from by rw [Nat.add_mul, hfy]] at hp
    rw [splice_get (flat xs) (flat ys) (i * loc.sz) (by rw [hfx, hfy, ← Nat.add_mul]; exact Nat.mul_le_mul_right _ hle)] at hp
    split at hp
    · rename_i hk; exact .inl ⟨hk.1, hk.2, hp⟩
    · rename_i hk; exact .inr ⟨by omega, hp⟩)
  exact ⟨_, hst, s', g'⟩

theorem copy_sound (h : Sim w0 M0 k0 Y Z w L S) (hrd : ∀ i obj, rd i = some obj → S i = some obj) {t : TypeId} {d x : PV} {eff : Eff} {ts : Array TypeId} {ty : TypeId} {args : Array Value} {vd vx : Value}
    (h0 : ts[0]? = some t) (a0 : args[0]? = some vd) (a1 : args[1]? = some vx) (hd : Rep w Z Y L vd d) (hx : Rep w Z Y L vx x) (hr : aCopy P rd t d x = some eff) :
    ∃ v w', (Builtin.copy_ ts ty args).run P w = .ok v w' ∧ Post w0 M0 k0 Y Z w L S w' v eff.val eff.ws := by
  unfold aCopy at hr
  cases he : elemT P t with
  | none => rw [he] at hr; simp at hr
  | some e =>
    rw [he] at hr
    obtain ⟨hu, hT⟩ := elemT_spec he
    simp only at hr
    cases hsrc : srcOf rd (szOf P e) x with
    | none => rw [hsrc] at hr; simp at hr
    | some ys =>
      rw [hsrc] at hr
      simp only at hr
      cases hb : (sizeOk (szOf P e) ys && Nat.blt 0 (szOf P e)) with
      | false => rw [hb] at hr; simp at hr
      | true =>
        rw [hb] at hr
        simp only [Bool.and_eq_true] at hb
        have g1 : 0 < szOf P e := by simpa [Nat.blt_eq] using hb.2
        obtain ⟨sl, ⟨arr, sf, sr⟩, sy⟩ := src_sound (P := P) h hrd hx hsrc hb.1 g1
        simp only [cond_true] at hr
        cases hd with
        | own o ver i n loc A m c hl hf hv hA =>
          simp only at hr
          cases ho : rd o with
          | none => rw [ho] at hr; simp at hr
          | some obj =>
            rw [ho] at hr
            cases obj with
            | arr v' sz xs =>
              simp only at hr
              cases hb2 : (Nat.beq v' ver && Nat.ble (i + n) xs.length && Nat.beq sz (szOf P e) && Nat.ble ys.length n) with
              | false => rw [hb2] at hr; simp at hr
              | true =>
                rw [hb2] at hr
                simp only [cond_true, Option.some.injEq] at hr
                subst hr
                simp only [Bool.and_eq_true] at hb2
                obtain ⟨⟨⟨q1, q2⟩, q3⟩, q4⟩ := hb2
                have q1 := Nat.eq_of_beq_eq_true q1
                have q2 := Nat.le_of_ble_eq_true q2
                have q3 := Nat.eq_of_beq_eq_true q3
                have q4 := Nat.le_of_ble_eq_true q4
                have hso := hrd o _ ho
                obtain ⟨hver, hm, hsl, hlen, hel⟩ := own_cells h hrd hl hA ho q1 q2
                obtain ⟨_, a2, a3, a4⟩ := hA hver
                have e3 := (h.objs o loc _ hl hso).2.2.1
                have run : ∀ w', (match A with | some a => storeCells a arr.toList | none => pure ()).run P w = .ok () w' → (Builtin.copy_ ts ty args).run P w = .ok (goInt ys.length) w' := by
                  intro w' hst
                  have hmin : Nat.min ys.length m = ys.length := Nat.min_eq_left (by omega)
                  cases A with
                  | none => simp [Builtin.copy_, h0, a0, a1, run_underlying hu, sl, run_sizeOf' hT, hmin, sf] at hst ⊢; exact hst
                  | some a => simp [Builtin.copy_, h0, a0, a1, run_underlying hu, sl, run_sizeOf' hT, hmin, sf, hst]
                by_cases hm0 : ys = []
                · subst hm0
                  have harr0 : arr.toList = [] := by have := sr.1; simp [flat] at this; simpa using this
                  refine ⟨_, w, run w (by rw [harr0]; cases A <;> rfl), Z, L, ?_, Gr.refl .., fun _ hb => .inl hb, .int _ _⟩
                  have : updW S [(o, AObj.arr ver sz (xs.take i ++ [] ++ xs.drop (i + ([] : List PV).length)))] = S := by
                    simp only [updW, List.append_nil, List.length_nil, Nat.add_zero, List.take_append_drop]
                    exact upd_self (by rw [hso, q1])
                  simp only [this]; exact h
                · have hpos : 0 < ys.length := List.length_pos_iff.2 hm0
                  have hcap : 0 < loc.cap := by omega
                  have hsz : loc.sz = szOf P e := (e3 hcap).1.trans q3
                  obtain ⟨w', s1, s2, s3⟩ := arr_over (P := P) (i := i) h hl hso (by omega) hm0 sr (by rw [hsz]; exact sy)
                  rw [q1] at s2
                  exact ⟨_, w', run w' (by rw [a4 (by omega)]; exact s1), Z, L, s2, s3, fun _ hb => .inl hb, .int _ _⟩
            | _ => simp at hr
        | _ => simp at hr

theorem flat_replicate (n : Nat) (z : PV) : flat (List.replicate n z) = (List.replicate n (cellsOf z)).flatten := by
  induction n with
  | zero => rfl
  | succ n ih => rw [List.replicate_succ, List.replicate_succ, List.flatten_cons, flat, ih]

/-- Rows of zero values, as the model writes them. -/
theorem zeros_reps {zs : Array Value} {q : PV} {sz : Nat} (hz : Reps w Z Y L zs.toList (cellsOf q)) (hs : zs.size = sz) (hpos : 0 < sz) (n : Nat) :
    Reps w Z Y L ((Array.range (n * sz)).map (fun i => zs[i % zs.size]!)).toList (flat (List.replicate n q)) := by
  have hl : (flat (List.replicate n q)).length = n * sz := by
    rw [flat_length (sz := sz) (fun x hx => by rw [List.eq_of_mem_replicate hx, ← hz.1]; simpa using hs)]; simp
  have hq : (cellsOf q).length = sz := by rw [← hz.1]; simpa using hs
  refine ⟨by simp [hl], fun j c p a b => ?_⟩
  have hj : j < n * sz := by have := (List.getElem?_eq_some_iff.1 b).1; omega
  have hjm : j % sz < sz := Nat.mod_lt _ hpos
  have hjd : j / sz < n := Nat.div_lt_of_lt_mul (by rw [Nat.mul_comm]; exact hj)
  have e := flat_get (xs := List.replicate n q) (sz := sz) (fun x hx => by rw [List.eq_of_mem_replicate hx]; exact hq) (i := j / sz) (x := q) (j := j % sz) (by simp [hjd]) hjm
  rw [show j / sz * sz + j % sz = j from by rw [Nat.mul_comm]; exact Nat.div_add_mod j sz] at e
  rw [e] at b
  have hc : zs.toList[j % sz]? = some c := by
    have hlt : j % sz < zs.size := by omega
    simp [hj, hs] at a
    rw [← a]
    simp [hlt]
  exact hz.2 _ c p hc b

theorem elemsOk_spec {sz : Nat} : ∀ {xs : List PV}, elemsOk sz xs = true → ∀ x ∈ xs, x.frz false = true ∧ (cellsOf x).length = sz ∧ okCells (cellsOf x) = true
  | [], _, x, h => by simp at h
  | y :: r, h, x, hx => by
    simp only [elemsOk, Bool.and_eq_true] at h
    obtain ⟨⟨⟨h1, h2⟩, h3⟩, h4⟩ := h
    rcases List.mem_cons.1 hx with rfl | hx
    · exact ⟨h1, Nat.eq_of_beq_eq_true h2, h3⟩
    · exact elemsOk_spec h4 x hx

/-- The zero value of an element, at rest. -/
theorem zero_elem {e : TypeId} (h : elemsOk (szOf P e) [rest (zeroP P e)] = true) (w' : World) :
    ∃ z, (zeroValue e).run P w' = .ok z w' ∧ z.cells.size = szOf P e ∧ Reps w Z Y L z.cells.toList (cellsOf (rest (zeroP P e))) ∧
      (rest (zeroP P e)).frz false = true ∧ (cellsOf (rest (zeroP P e))).length = szOf P e ∧ okCells (cellsOf (rest (zeroP P e))) = true := by
  obtain ⟨h1, h2, h3⟩ := elemsOk_spec h _ (List.mem_singleton.2 rfl)
  have hok : okCells (cellsOf (zeroP P e)) = true := by
    cases hz : zeroP P e <;> rw [hz] at h3 <;> first
      | (simp [rest, rest1, cellsOf, okCells, okCell] at h3 ⊢; done)
      | skip
    rename_i cs
    simp only [rest, cellsOf, okCells_all] at h3 ⊢
    intro p hp
    have := h3 _ (List.mem_map.2 ⟨p, hp, rfl⟩)
    cases p <;> simp_all [rest1, okCell]
  obtain ⟨z, z1, z2, z3⟩ := zero_reps (P := P) (w := w) (Z := Z) (Y := Y) (L := L) hok w'
  have hr := (rest_rep z2).cells h3
  exact ⟨z, z1, by have := hr.1; simp at this; omega, hr, h1, h2, h3⟩

theorem clear_sound (h : Sim w0 M0 k0 Y Z w L S) (hrd : ∀ i obj, rd i = some obj → S i = some obj) {t : TypeId} {d : PV} {eff : Eff} {ts : Array TypeId} {ty : TypeId} {args : Array Value} {vd : Value}
    (h0 : ts[0]? = some t) (a0 : args[0]? = some vd) (hd : Rep w Z Y L vd d) (hr : aClear P rd t d = some eff) :
    ∃ v w', (Builtin.clear_ ts ty args).run P w = .ok v w' ∧ Post w0 M0 k0 Y Z w L S w' v eff.val eff.ws := by
  unfold aClear at hr
  cases he : elemT P t with
  | none => rw [he] at hr; simp at hr
  | some e =>
    rw [he] at hr
    obtain ⟨hu, hT⟩ := elemT_spec he
    cases hd with
    | own o ver i n loc A m c hl hf hv hA =>
      simp only at hr
      cases ho : rd o with
      | none => rw [ho] at hr; simp at hr
      | some obj =>
        rw [ho] at hr
        cases obj with
        | arr v' sz xs =>
          simp only at hr
          cases hb2 : (Nat.beq v' ver && Nat.ble (i + n) xs.length && (Nat.beq n 0 || Nat.beq sz (szOf P e)) && elemsOk (szOf P e) [rest (zeroP P e)]) with
          | false => rw [hb2] at hr; simp at hr
          | true =>
            rw [hb2] at hr
            simp only [cond_true, Option.some.injEq] at hr
            subst hr
            simp only [Bool.and_eq_true, Bool.or_eq_true] at hb2
            obtain ⟨⟨⟨q1, q2⟩, q3⟩, q4⟩ := hb2
            have q1 := Nat.eq_of_beq_eq_true q1
            have q2 := Nat.le_of_ble_eq_true q2
            have hso := hrd o _ ho
            obtain ⟨hver, hm, hsl, hlen, hel⟩ := own_cells h hrd hl hA ho q1 q2
            have hm' := hm.symm
            clear hm
            subst hm'
            obtain ⟨_, a2, a3, a4⟩ := hA hver
            have e3 := (h.objs o loc _ hl hso).2.2.1
            by_cases hn0 : n = 0
            · subst hn0
              refine ⟨_, w, ?_, Z, L, ?_, Gr.refl .., fun _ hb => .inl hb, tupU⟩
              · cases A <;> simp [Builtin.clear_, h0, a0, run_underlying hu]
              · have : updW S [(o, AObj.arr ver sz (xs.take i ++ List.replicate 0 (rest (zeroP P e)) ++ xs.drop (i + 0)))] = S := by
                  simp only [updW, List.replicate_zero, List.append_nil, Nat.add_zero, List.take_append_drop]
                  exact upd_self (by rw [hso, q1])
                simp only [this]; exact h
            · have hcap : 0 < loc.cap := by omega
              have hsz : loc.sz = szOf P e := (e3 hcap).1.trans (by
                rcases q3 with q3 | q3
                · exact absurd (Nat.eq_of_beq_eq_true q3) hn0
                · exact Nat.eq_of_beq_eq_true q3)
              have hpos : 0 < szOf P e := by rw [← hsz]; have := e3 hcap; omega
              obtain ⟨z, z1, z2, z3, z4, z5, z6⟩ := zero_elem (w := w) (Z := Z) (Y := Y) (L := L) q4 w
              have zr := zeros_reps z3 z2 hpos n
              obtain ⟨w', s1, s2, s3⟩ := arr_over (P := P) (i := i) (ys := List.replicate n (rest (zeroP P e))) h hl hso (by simpa using q2) (by simp [hn0]) zr (fun y hy => by
                rw [List.eq_of_mem_replicate hy, hsz]; exact ⟨z4, z5, z6⟩)
              rw [q1, List.length_replicate] at s2
              refine ⟨_, w', ?_, Z, L, s2, s3, fun _ hb => .inl hb, tupU⟩
              rw [a4 (by omega)] at a0
              have hzc : Builtin.zeroCells z.cells n = (Array.range (n * szOf P e)).map (fun i => z.cells[i % z.cells.size]!) := by
                unfold Builtin.zeroCells; rw [z2]
              rw [← hzc] at s1
              simp [Builtin.clear_, h0, a0, run_underlying hu, hn0, z1, s1]
        | _ => simp at hr
    | _ => simp at hr

theorem wrap_small {n : Int} (h0 : -9223372036854775808 ≤ n) (h1 : n ≤ 9223372036854775807) : IntKind.i64.wrap n = n := by
  simp only [IntKind.wrap, IntKind.bits, IntKind.signed]; simp; split <;> omega

theorem makeSlice_sound (h : Sim w0 M0 k0 Y Z w L S) {t e : TypeId} {k : Nat} {l c : Int} (he : elemT P t = some e) (hk : L k = none)
    (hb : (decide (0 ≤ l) && decide (l ≤ c) && decide (c * bytesOf P e ≤ 140737488355328) && decide (c ≤ 140737488355328) && Nat.blt 0 (szOf P e) && elemsOk (szOf P e) [rest (zeroP P e)]) = true) :
    ∃ v w', (Instr.makeSlice t (.int .i64 l) (.int .i64 c)).run P w = .ok v w' ∧
      Post w0 M0 k0 Y Z w L S w' v (.own k 0 0 l.toNat) [(k, .arr 0 (szOf P e) (List.replicate l.toNat (rest (zeroP P e))))] := by
  simp only [Bool.and_eq_true, decide_eq_true_eq] at hb
  obtain ⟨⟨⟨⟨⟨b1, b2⟩, b3⟩, b4⟩, b5⟩, b6⟩ := hb
  obtain ⟨hu, hT⟩ := elemT_spec he
  have hpos : 0 < szOf P e := by simpa [Nat.blt_eq] using b5
  obtain ⟨z, z1, z2, z3, z4, z5, z6⟩ := zero_elem (w := w) (Z := Z) (Y := Y) (L := L) b6 w
  obtain ⟨dd, i, hd', hi⟩ := hasT_spec hT
  have hby : bytesOf P e = i.bytes := by simp [bytesOf, hi]
  have wl := wrap_small (n := l) (by omega) (by omega)
  have wc := wrap_small (n := c) (by omega) (by omega)
  have hnl : ¬ (281474976710656 < (i.bytes : Int) * c) := by
    rw [hby, Int.mul_comm] at b3; omega
  have h1 : ¬ c < 0 := by omega
  have h2 : ¬ l < 0 := by omega
  have h3 : ¬ l > c := by omega
  have zr := zeros_reps z3 z2 hpos c.toNat
  refine ⟨.slice (some ⟨w.heap.size, 0, none⟩) l.toNat c.toNat, w.alloc (.cells ((Array.range (c.toNat * szOf P e)).map (fun i => z.cells[i % z.cells.size]!)) e), ?_, ?_⟩
  rotate_left
  · have key : Post w0 M0 k0 Y Z w L S (w.alloc (.cells ((Array.range (c.toNat * szOf P e)).map (fun i => z.cells[i % z.cells.size]!)) e)) (.slice (some ⟨w.heap.size, 0, none⟩) (List.replicate l.toNat (rest (zeroP P e))).length c.toNat)
        (.own k 0 0 (List.replicate l.toNat (rest (zeroP P e))).length) [(k, .arr 0 (szOf P e) (List.replicate l.toNat (rest (zeroP P e))))] := ?_
    · simpa using key
    refine arr_new (cap := c.toNat) (C := (Array.range (c.toNat * szOf P e)).map (fun i => z.cells[i % z.cells.size]!)) (T := e) h (.inl hk) hpos (by simp) (by simp; omega) (fun x hx => by
      rw [List.eq_of_mem_replicate hx]; exact ⟨z4, z5, z6⟩) ?_
    have := rowFlat (w := w) (Z := Z) (Y := Y) (L := L) (base := 0) (sz := szOf P e) (xs := List.replicate l.toNat (rest (zeroP P e))) (f := fun i => ((Array.range (c.toNat * szOf P e)).map (fun i => z.cells[i % z.cells.size]!))[i]?) (fun x hx => by
      rw [List.eq_of_mem_replicate hx]; exact z5) (fun k p hp => by
      have hp' : (flat (List.replicate c.toNat (rest (zeroP P e))))[k]? = some p := by
        rw [show c.toNat = l.toNat + (c.toNat - l.toNat) from by omega, ← List.replicate_append_replicate, flat_append, List.getElem?_append_left (List.getElem?_eq_some_iff.1 hp).1]
        exact hp
      obtain ⟨c', u1, u2⟩ := reps_get zr hp'
      rw [Array.getElem?_toList] at u1
      exact ⟨c', by rw [Nat.zero_add]; exact u1, u2⟩)
    simpa using this
  · simp only [Instr.makeSlice, Sem.run_bind, run_underlying hu, Result.andThen_ok, asInt, asIntOf, Sem.run_pure, run_typeInfo hi, wl, wc]
    simp only [gt_iff_lt] at h3
    by_cases h0 : c.toNat * szOf P e = 0
    · simp [h1, h2, h3, hnl, run_sizeOf' hT, h0, newRow, World.alloc_eq]
      rw [show Array.range 0 = #[] from rfl]; simp
    · simp [h1, h2, h3, hnl, run_sizeOf' hT, h0, newRow, World.alloc_eq, z1]
theorem bytes_eq {a b : ByteArray} (h : (a == b) = true) : a = b := by
  cases a with | mk x => cases b with | mk y =>
  have h' : (x == y) = true := h
  rw [eq_of_beq h']

theorem keyThatStays_same {a b : Value} {k q : PV} (ha : Rep w Z Y L a k) (hb : Rep w Z Y L b q) (h : sameK k q = some true) : a = b ∧ (Instr.keyThatStays a b).run P w = .ok b w := by
  have hab : a = b ∧ Instr.sameBits 10000 a b = true := by
    unfold sameK at h
    split at h
    · cases ha; cases hb
      split at h
      · rename_i hjk; subst hjk; simp at h; subst h; exact ⟨rfl, by simp [Instr.sameBits]⟩
      · simp at h
    · cases ha; cases hb; simp only [Option.some.injEq] at h; have h' := bytes_eq h; subst h'; exact ⟨rfl, by simp only [Instr.sameBits]; exact h⟩
    · cases ha; cases hb; simp at h; subst h; exact ⟨rfl, by simp [Instr.sameBits]⟩
    · simp at h
  refine ⟨hab.1, ?_⟩
  simp [Instr.keyThatStays, hab.2]

theorem sameK_symm {a b : PV} (h : sameK a b = some true) : sameK b a = some true := by
  unfold sameK at h
  split at h
  · split at h
    · rename_i hjk; subst hjk; simp at h; subst h; simp [sameK]
    · simp at h
  · simp only [Option.some.injEq] at h; have h' := bytes_eq h; subst h'; simp only [sameK, h]
  · simp at h; subst h; simp [sameK]
  · simp at h

theorem findP_at {k : PV} : ∀ (ks : List PV) (i j : Nat), findP k ks i = some (some j) → i ≤ j ∧ ∃ q, ks[j - i]? = some q ∧ sameK k q = some true
  | [], i, j, h => by simp [findP] at h
  | q :: ks, i, j, h => by
    unfold findP at h
    cases hs : sameK k q with
    | none => rw [hs] at h; simp at h
    | some b =>
      rw [hs] at h
      cases b with
      | true => simp at h; subst h; exact ⟨Nat.le_refl _, q, by simp, hs⟩
      | false =>
        obtain ⟨h1, q', h2, h3⟩ := findP_at ks (i + 1) j h
        exact ⟨by omega, q', by rw [show j - i = (j - (i + 1)) + 1 from by omega]; simpa using h2, h3⟩

theorem keyOk_frz {t : TypeId} {k : PV} (h : keyOk P t k = true) : k.frz false = true := by
  unfold keyOk at h
  split at h <;> first | rfl | simp at h

theorem mapUpdate_sound (h : Sim w0 M0 k0 Y Z w L S) (hrd : ∀ i obj, rd i = some obj → S i = some obj) {t : TypeId} {m k v : PV} {vm vk vv : Value} {eff : Eff}
    (hm : Rep w Z Y L vm m) (hk : Rep w Z Y L vk k) (hv : Rep w Z Y L vv v) (hr : aMapUpdate P rd t m k v = some eff) :
    ∃ w', (Instr.mapUpdate t vm vk vv).run P w = .ok () w' ∧ Post w0 M0 k0 Y Z w L S w' (.tuple #[]) eff.val eff.ws := by
  unfold aMapUpdate at hr
  cases hu : P.underlying t with
  | none => rw [hu] at hr; simp at hr
  | some d =>
    rw [hu] at hr
    cases d with
    | map kt e =>
      simp only at hr
      cases hb : (keyOk P kt k && (rest v).frz false) with
      | false => rw [hb] at hr; simp at hr
      | true =>
        rw [hb] at hr
        simp only [Bool.and_eq_true] at hb
        simp only [cond_true] at hr
        cases hm with
        | map o loc hl hf =>
          simp only at hr
          cases ho : rd o with
          | none => rw [ho] at hr; simp at hr
          | some obj =>
            rw [ho] at hr
            cases obj with
            | map ks vs =>
              simp only at hr
              have hso := hrd o _ ho
              obtain ⟨q0, es, clock, q1, q2, q3, q4, q5, q6, q7⟩ := h.objs o loc _ hl hso
              have hck : ∀ em, (Instr.checkKey em 10000 kt vk).run P w = .ok () w := fun em => keyOk_check (n := 9999) hk hb.1
              have hkf := keyOk_frz hb.1
              have put : ∀ {ks' vs' : List PV} {es' : Array MapEntry} {c' : Nat}, es'.size = ks'.length → es'.size = vs'.length → (∀ x ∈ vs', x.frz false = true) → (∀ x ∈ ks', x.frz false = true) →
                  (∀ (i : Nat) (e : MapEntry) (k : PV), es'[i]? = some e → ks'[i]? = some k → Rep w Z Y L e.key k) →
                  (∀ (i : Nat) (e : MapEntry) (x : PV), es'[i]? = some e → vs'[i]? = some x → Rep w Z Y L e.val x) →
                  Post w0 M0 k0 Y Z w L S { w with heap := w.heap.setIfInBounds loc.block (.map es' c') } (.tuple #[]) (.tup []) [(o, .map ks' vs')] := by
                intro ks' vs' es' c' a1 a2 a3 a4 a5 a6
                have hlt : loc.block < w.heap.size := (h.blk o loc _ hl hso trivial).1
                obtain ⟨s, g⟩ := h.put (obj' := .map ks' vs') hl hso trivial (w' := { w with heap := w.heap.setIfInBounds loc.block (.map es' c') }) (by simp) (fun b hb => by simp [Array.getElem?_setIfInBounds_ne (Ne.symm hb)]) rfl rfl rfl
                  (fun g => ⟨q0, es', c', by simp [hlt], a1, a2, a3, a4, fun i e k a b => (a5 i e k a b).mono g, fun i e x a b => (a6 i e x a b).mono g⟩)
                exact ⟨Z, L, s, g, fun _ hb => .inl hb, tupU⟩
              cases hf' : findP k ks 0 with
              | none => rw [hf'] at hr; simp at hr
              | some fr =>
                rw [hf'] at hr
                obtain ⟨fo, f1, f2, f3⟩ := find_sound hk hb.1 q2 q6 hf'
                have setObj_run : ∀ ob, (setObj loc.block ob).run P w = .ok () { w with heap := w.heap.setIfInBounds loc.block ob } := by
                  intro ob; simp [setObj, Sem.run, q1]
                cases fr with
                | some i =>
                  simp only [Option.some.injEq] at hr; subst hr
                  obtain ⟨en, g1, rfl⟩ := f3 i rfl
                  obtain ⟨_, q, g2, g3⟩ := findP_at ks 0 i hf'
                  simp only [Nat.sub_zero] at g2
                  obtain ⟨heq, hks⟩ := keyThatStays_same (P := P) (q6 i en q g1 g2) hk (sameK_symm g3)
                  refine ⟨{ w with heap := w.heap.setIfInBounds loc.block (.map (es.modify i fun e => { e with key := vk, val := vv }) clock) }, by simp [Instr.mapUpdate, run_underlying hu, run_getObj_map q1, hck, f1, g1, hks, setObj_run], put ?_ ?_ ?_ ?_ ?_ ?_⟩
                  · simp [q2]
                  · simp [q3]
                  · intro x hx
                    rcases List.mem_or_eq_of_mem_set hx with hx | rfl
                    · exact q4 x hx
                    · exact hb.2
                  · intro x hx
                    rcases List.mem_or_eq_of_mem_set hx with hx | rfl
                    · exact q5 x hx
                    · exact hkf
                  · intro j e' k' a b
                    rw [Array.getElem?_modify] at a
                    rw [List.getElem?_set] at b
                    by_cases hij : i = j
                    · subst hij
                      simp [g1] at a; simp at b
                      rw [← a, ← b.2]; exact hk
                    · rw [if_neg hij] at a b
                      exact q6 j e' k' a b
                  · intro j e' x' a b
                    rw [Array.getElem?_modify] at a
                    rw [List.getElem?_set] at b
                    by_cases hij : i = j
                    · subst hij
                      simp [g1] at a; simp at b
                      rw [← a, ← b.2]; exact rest_rep hv
                    · rw [if_neg hij] at a b
                      exact q7 j e' x' a b
                | none =>
                  simp only [Option.some.injEq] at hr; subst hr
                  have := f2 rfl
                  subst this
                  refine ⟨{ w with heap := w.heap.setIfInBounds loc.block (.map (es.push { key := vk, val := vv, born := clock }) (clock + 1)) }, by simp [Instr.mapUpdate, run_underlying hu, run_getObj_map q1, hck, f1, setObj_run], put ?_ ?_ ?_ ?_ ?_ ?_⟩
                  · simp [q2]
                  · simp [q3]
                  · intro x hx
                    simp only [List.mem_append, List.mem_singleton] at hx
                    rcases hx with hx | rfl
                    · exact q4 x hx
                    · exact hb.2
                  · intro x hx
                    simp only [List.mem_append, List.mem_singleton] at hx
                    rcases hx with hx | rfl
                    · exact q5 x hx
                    · exact hkf
                  · intro j e' k' a b
                    rw [Array.getElem?_push] at a
                    by_cases hj : j = es.size
                    · rw [if_pos hj] at a
                      rw [List.getElem?_append_right (by omega), show j - ks.length = 0 from by omega] at b
                      simp at a b
                      rw [← a, ← b]; exact hk
                    · rw [if_neg hj] at a
                      have hlt := (Array.getElem?_eq_some_iff.1 a).1
                      rw [List.getElem?_append_left (by omega)] at b
                      exact q6 j e' k' a b
                  · intro j e' x' a b
                    rw [Array.getElem?_push] at a
                    by_cases hj : j = es.size
                    · rw [if_pos hj] at a
                      rw [List.getElem?_append_right (by omega), show j - vs.length = 0 from by omega] at b
                      simp at a b
                      rw [← a, ← b]; exact rest_rep hv
                    · rw [if_neg hj] at a
                      have hlt := (Array.getElem?_eq_some_iff.1 a).1
                      rw [List.getElem?_append_left (by omega)] at b
                      exact q7 j e' x' a b
            | _ => simp at hr
        | _ => simp at hr
    | _ => simp at hr

theorem next_sound (h : Sim w0 M0 k0 Y Z w L S) (hrd : ∀ i obj, rd i = some obj → S i = some obj) {it : PV} {vi : Value} {t : TypeId} {eff : Eff}
    (hi : Rep w Z Y L vi it) (hr : aNext rd it = some eff) : ∃ v w', (Instr.next vi true t).run P w = .ok v w' ∧ Post w0 M0 k0 Y Z w L S w' v eff.val eff.ws := by
  unfold aNext at hr
  cases hi with
  | iter o loc hl hf =>
    simp only at hr
    cases ho : rd o with
    | none => rw [ho] at hr; simp at hr
    | some obj =>
      rw [ho] at hr
      cases obj with
      | iter s pos =>
        simp only at hr
        have hso := hrd o _ ho
        obtain ⟨q0, q1⟩ := h.objs o loc _ hl hso
        have hlt : loc.block < w.heap.size := (h.blk o loc _ hl hso trivial).1
        have hget : (getObj loc.block).run P w = .ok (.stringIter s pos) w := by simp [getObj, Sem.run, q1]
        cases hb : Nat.blt pos s.size with
        | true =>
          rw [hb] at hr
          simp only [cond_true, Option.some.injEq] at hr; subst hr
          have hb' : pos < s.size := by simpa [Nat.blt_eq] using hb
          have hset : ∀ ob, (setObj loc.block ob).run P w = .ok () { w with heap := w.heap.setIfInBounds loc.block ob } := by
            intro ob; simp [setObj, Sem.run, q1]
          refine ⟨.tuple #[.bool true, goInt pos, .int .i32 (Utf8.decode s pos).1], { w with heap := w.heap.setIfInBounds loc.block (.stringIter s (pos + (Utf8.decode s pos).2)) }, by simp [Instr.next, hget, hb', hset], ?_⟩
          obtain ⟨s', g⟩ := h.put (obj' := .iter s (pos + (Utf8.decode s pos).2)) hl hso trivial (w' := { w with heap := w.heap.setIfInBounds loc.block (.stringIter s (pos + (Utf8.decode s pos).2)) }) (by simp) (fun b hb => by simp [Array.getElem?_setIfInBounds_ne (Ne.symm hb)]) rfl rfl rfl
            (fun g => ⟨q0, by simp [hlt]⟩)
          refine ⟨Z, L, s', g, fun _ hb => .inl hb, .tup _ _ rfl fun i c x a b => ?_⟩
          match i with
          | 0 => simp at a b; subst a b; exact .bool true
          | 1 => simp at a b; subst a b; exact .int _ _
          | 2 => simp at a b; subst a b; exact .int _ _
          | i + 3 => simp at a
        | false =>
          rw [hb] at hr
          simp only [cond_false, Option.some.injEq] at hr; subst hr
          have hb' : ¬ pos < s.size := fun hlt => by have : Nat.blt pos s.size = true := by simpa [Nat.blt_eq] using hlt
                                                     rw [hb] at this; cases this
          refine ⟨.tuple #[.bool false], w, by simp [Instr.next, hget, hb'], Post.quiet h (.tup _ _ rfl fun i c x a b => ?_)⟩
          match i with
          | 0 => simp at a b; subst a b; exact .bool false
          | i + 1 => simp at a
      | _ => simp at hr
  | _ => simp at hr
end
end Go.Bb

namespace Go.Bb
section
variable {P : Program} {w0 : World} {M0 : Nat → Nat → Prop} {k0 : Nat} {Y Z : Nat → Prop} {w : World} {L : Nat → Option Loc} {S : Nat → Option AObj} {rd : Rd}

theorem memN_iff : ∀ (l : List Nat) (o : Nat), memN l o = true ↔ o ∈ l
  | [], o => by simp [memN]
  | a :: r, o => by
    simp only [memN, Bool.or_eq_true, memN_iff r o, List.mem_cons]
    constructor
    · rintro (h | h)
      · exact .inl (Nat.eq_of_beq_eq_true h).symm
      · exact .inr h
    · rintro (rfl | h)
      · exact .inl (Nat.beq_refl _)
      · exact .inr h

theorem newIds_spec {k0 : Nat} : ∀ (l acc : List Nat), acc.Nodup → (∀ o ∈ acc, k0 ≤ o) →
    (newIds k0 l acc).Nodup ∧ (∀ o, o ∈ newIds k0 l acc ↔ (o ∈ acc ∨ (o ∈ l ∧ k0 ≤ o)))
  | [], acc, h, hk => ⟨h, fun o => by simp [newIds]⟩
  | a :: r, acc, h, hk => by
    unfold newIds
    cases hb : (Nat.ble k0 a && !memN acc a) with
    | true =>
      simp only [cond_true]
      simp only [Bool.and_eq_true, Bool.not_eq_true'] at hb
      have hka := Nat.le_of_ble_eq_true hb.1
      have hna : a ∉ acc := fun hm => by rw [(memN_iff acc a).2 hm] at hb; cases hb.2
      obtain ⟨h1, h2⟩ := newIds_spec r (acc ++ [a]) (by
        rw [List.nodup_append]; exact ⟨h, by simp, fun x hx y hy => by simp at hy; subst hy; rintro rfl; exact hna hx⟩) (fun o ho => by
        simp only [List.mem_append, List.mem_singleton] at ho
        rcases ho with ho | rfl
        · exact hk o ho
        · exact hka)
      refine ⟨h1, fun o => ?_⟩
      rw [h2]
      simp only [List.mem_append, List.mem_cons, List.not_mem_nil, or_false]
      constructor
      · rintro ((h | rfl) | ⟨h, h'⟩)
        · exact .inl h
        · exact .inr ⟨.inl rfl, hka⟩
        · exact .inr ⟨.inr h, h'⟩
      · rintro (h | ⟨rfl | h, h'⟩)
        · exact .inl (.inl h)
        · exact .inl (.inr rfl)
        · exact .inr ⟨h, h'⟩
    | false =>
      simp only [cond_false]
      obtain ⟨h1, h2⟩ := newIds_spec r acc h hk
      refine ⟨h1, fun o => ?_⟩
      rw [h2]
      simp only [List.mem_cons]
      constructor
      · rintro (h | ⟨h, h'⟩)
        · exact .inl h
        · exact .inr ⟨.inr h, h'⟩
      · rintro (h | ⟨rfl | h, h'⟩)
        · exact .inl h
        · left
          rw [Nat.ble_eq_true_of_le h'] at hb
          simp at hb
          exact (memN_iff acc o).1 hb
        · exact .inr ⟨h, h'⟩

theorem mapO_spec {α β : Type} {f : α → Option β} : ∀ {xs : List α} {ys : List β}, mapO f xs = some ys → ys.length = xs.length ∧ ∀ (i : Nat) (x : α) (y : β), xs[i]? = some x → ys[i]? = some y → f x = some y
  | [], ys, h => by simp [mapO] at h; subst h; exact ⟨rfl, by simp⟩
  | x :: r, ys, h => by
    unfold mapO at h
    cases hx : f x with
    | none => rw [hx] at h; simp at h
    | some y =>
      rw [hx] at h
      cases hr : mapO f r with
      | none => rw [hr] at h; simp at h
      | some s =>
        rw [hr] at h; simp at h; subst h
        obtain ⟨h1, h2⟩ := mapO_spec hr
        refine ⟨by simp [h1], fun i x' y' a b => ?_⟩
        cases i with
        | zero => simp at a b; subst a b; exact hx
        | succ i => exact h2 i x' y' (by simpa using a) (by simpa using b)

theorem free_sound : ∀ (F : List Nat) (ws : Ws) {Z : Nat → Prop} {L : Nat → Option Loc} {S : Nat → Option AObj}, Sim w0 M0 k0 Y Z w L S → F.Nodup → (∀ o ∈ F, k0 ≤ o) → (∀ o ∈ F, ∀ obj, rd o = some obj → S o = some obj) →
    mapO (bump rd) F = some ws →
    ∃ Z' L', Sim w0 M0 k0 Y Z' w L' (updW S ws) ∧ Gr Y w Z L w Z' L' ∧ (∀ b, Z' b → Z b ∨ w0.heap.size ≤ b) ∧
      (∀ o ∈ F, ∀ l, L o = some l → 0 < l.cap → Z' l.block) ∧ (∀ i, i ∉ F → L' i = L i) ∧ (∀ p ∈ ws, p.1 ∈ F)
  | [], ws, Z, L, S, h, _, _, _, hm => by
    simp [mapO] at hm; subst hm
    exact ⟨Z, L, h, Gr.refl .., fun _ hb => .inl hb, by simp, fun _ _ => rfl, by simp⟩
  | o :: F, ws, Z, L, S, h, hnd, hk, hrd, hm => by
    unfold mapO at hm
    cases hb : bump rd o with
    | none => rw [hb] at hm; simp at hm
    | some p =>
      rw [hb] at hm
      cases hr : mapO (bump rd) F with
      | none => rw [hr] at hm; simp at hm
      | some ws' =>
        rw [hr] at hm; simp at hm; subst hm
        unfold bump at hb
        cases ho : rd o with
        | none => rw [ho] at hb; simp at hb
        | some obj =>
          rw [ho] at hb
          cases obj with
          | arr v sz xs =>
            simp at hb; subst hb
            have hso := hrd o (by simp) _ ho
            obtain ⟨l, hl⟩ := h.some_of_S hso
            have ob := h.objs o l _ hl hso
            simp only [List.nodup_cons] at hnd
            obtain ⟨s1, g1⟩ := h.bare (o := o) (loc := ⟨0, 0, 0, 0, v + 1, false⟩) (fun b => Z b ∨ (0 < l.cap ∧ b = l.block)) 0 (.inr ⟨l, hl, ob.1, rfl, by rw [ob.2.1]; simp⟩)
              (fun b hb => hb.imp id fun hb => ⟨l, _, hl, hso, hb.1, hk o (by simp), hb.2⟩) (fun b hb => .inl hb) rfl rfl
            obtain ⟨Z', L', s2, g2, z2, f2, l2, i2⟩ := free_sound F ws' s1 hnd.2 (fun o' ho' => hk o' (by simp [ho'])) (fun o' ho' obj hobj => by
              rw [upd_ne _ _ (by rintro rfl; exact hnd.1 ho')]
              exact hrd o' (by simp [ho']) obj hobj) hr
            refine ⟨Z', L', s2, g1.trans g2, fun b hb => ?_, fun o' ho' l' hl' hc => ?_, fun i hi => ?_, fun p hp => ?_⟩
            · rcases z2 b hb with (hb | ⟨hcp, rfl⟩) | hb
              · exact .inl hb
              · right
                obtain ⟨b1, b2, b3, b4⟩ := h.blk o l _ hl hso hcp
                rcases b4 with b4 | b4
                · exact b4
                · have := hk o (by simp); omega
              · exact .inr hb
            · rcases List.mem_cons.1 ho' with rfl | ho2
              · rw [hl] at hl'; injection hl' with hl'; subst hl'
                exact g2.zz _ (.inr ⟨hc, rfl⟩)
              · exact f2 o' ho2 l' (by rw [upd_ne _ _ (by rintro rfl; exact hnd.1 ho2)]; exact hl') hc
            · simp only [List.mem_cons, not_or] at hi
              rw [l2 i hi.2, upd_ne _ _ hi.1]
            · rcases List.mem_cons.1 hp with rfl | hp
              · simp
              · exact List.mem_cons_of_mem _ (i2 p hp)
          | _ => simp at hb

theorem Rep.list_of {y : Bool} {xs : List PV} {A : Option Addr} {c sz : Nat} (hl : xs.length ≤ c) (hx : ∀ x ∈ xs, x.frz y = true ∧ (cellsOf x).length = sz ∧ okCells (cellsOf x) = true)
    (hc : SlCells w Z Y L A xs sz) (hz : xs ≠ [] → ∀ b off, A = some ⟨b, off, none⟩ → zone Z Y y b) : Rep w Z Y L (.slice A xs.length c) (.list y xs) := by
  by_cases hne : xs = []
  · subst hne
    exact .list y [] A 0 0 c 0 (fun _ _ => undef) hl (by simp) (by simp) (by simp) (by simp)
  · obtain ⟨b, off, h1, h2⟩ := hc.2 hne
    let f : Nat → Nat → Value := fun i j => if hi : i < xs.length then (if hj : j < (cellsOf xs[i]).length then (h2 i xs[i] j _ (List.getElem?_eq_getElem hi) (List.getElem?_eq_getElem hj)).choose else undef) else undef
    have hf : ∀ (i : Nat) (x : PV) (j : Nat) (p : PV), xs[i]? = some x → (cellsOf x)[j]? = some p → cellAt w b (off + i * sz + j) = some (f i j) ∧ Rep w Z Y L (f i j) p := by
      intro i x j p a1 a2
      obtain ⟨hi, rfl⟩ := List.getElem?_eq_some_iff.1 a1
      obtain ⟨hj, rfl⟩ := List.getElem?_eq_some_iff.1 a2
      have := (h2 i xs[i] j _ (List.getElem?_eq_getElem hi) (List.getElem?_eq_getElem hj)).choose_spec
      simp only [f, hi, hj, dif_pos]; exact this
    exact .list y xs A b off c sz f hl (fun _ => ⟨h1, hz hne b off h1⟩) hx (fun i x j p a1 a2 => (hf i x j p a1 a2).1) (fun i x j p a1 a2 => (hf i x j p a1 a2).2)

theorem SlCells.mono {w' : World} {Z' : Nat → Prop} {L' : Nat → Option Loc} (g : Gr Y w Z L w' Z' L') {A : Option Addr} {xs : List PV} {sz : Nat} (hc : SlCells w Z Y L A xs sz)
    (hk : xs ≠ [] → ∀ b off, A = some ⟨b, off, none⟩ → w'.heap[b]? = w.heap[b]?) : SlCells w' Z' Y L' A xs sz := by
  refine ⟨hc.1, fun hne => ?_⟩
  obtain ⟨b, off, h1, h2⟩ := hc.2 hne
  refine ⟨b, off, h1, fun i x j p a1 a2 => ?_⟩
  obtain ⟨c, c1, c2⟩ := h2 i x j p a1 a2
  exact ⟨c, by unfold cellAt at *; rw [hk hne b off h1]; exact c1, c2.mono g⟩

/-- A value whose own slices have come to rest. -/
theorem freeD_sound {Z1 : Nat → Prop} {L1 : Nat → Option Loc} {F : List Nat} (h : Sim w0 M0 k0 Y Z w L S) (hrd : ∀ i obj, rd i = some obj → S i = some obj) (g : Gr Y w Z L w Z1 L1)
    (hF : ∀ o ∈ F, ∀ l, L o = some l → 0 < l.cap → Z1 l.block) : ∀ (n : Nat) (x y : PV) (v : Value), Rep w Z Y L v x → (∀ o ∈ idsOf x, k0 ≤ o → isArr (rd o) = true → o ∈ F) → freeD k0 rd n x = some y → Rep w Z1 Y L1 v y
  | 0, x, y, v, _, _, hr => by simp [freeD] at hr
  | n + 1, x, y, v, hv, hin, hr => by
    have all : ∀ (xs ys : List PV) (cs : Array Value), cs.size = xs.length → (∀ (i : Nat) (c : Value) (x : PV), cs[i]? = some c → xs[i]? = some x → Rep w Z Y L c x) → (∀ o ∈ idssOf xs, k0 ≤ o → isArr (rd o) = true → o ∈ F) →
        mapO (freeD k0 rd n) xs = some ys → cs.size = ys.length ∧ ∀ (i : Nat) (c : Value) (x : PV), cs[i]? = some c → ys[i]? = some x → Rep w Z1 Y L1 c x := by
      intro xs ys cs hs hc hi hm
      obtain ⟨h1, h2⟩ := mapO_spec hm
      refine ⟨by omega, fun i c y' a b => ?_⟩
      have hlt : i < xs.length := by have := (List.getElem?_eq_some_iff.1 b).1; omega
      have hx := List.getElem?_eq_getElem hlt
      refine freeD_sound h hrd g hF n xs[i] y' c (hc i c _ a hx) (fun o ho => hi o ?_) (h2 i _ y' hx b)
      have : ∀ (l : List PV) (i : Nat) (x : PV), l[i]? = some x → ∀ o ∈ idsOf x, o ∈ idssOf l := by
        intro l
        induction l with
        | nil => intro i x h; simp at h
        | cons a r ih =>
          intro i x h o ho
          simp only [idssOf, List.mem_append]
          cases i with
          | zero => simp at h; subst h; exact .inl ho
          | succ i => exact .inr (ih i x (by simpa using h) o ho)
      exact this xs i _ hx o ho
    unfold freeD at hr
    have hv' := hv
    cases hv with
    | agg cs xs hs hc =>
      simp only at hr
      obtain ⟨ys, hm, rfl⟩ := Option.map_eq_some_iff.1 hr
      obtain ⟨a1, a2⟩ := all xs ys cs hs hc (fun o ho => hin o (by simpa [idsOf] using ho)) hm
      exact .agg cs ys a1 a2
    | tup cs xs hs hc =>
      simp only at hr
      obtain ⟨ys, hm, rfl⟩ := Option.map_eq_some_iff.1 hr
      obtain ⟨a1, a2⟩ := all xs ys cs hs hc (fun o ho => hin o (by simpa [idsOf] using ho)) hm
      exact .tup cs ys a1 a2
    | nils A =>
      simp at hr; subst hr
      exact .list false [] A 0 0 0 0 (fun _ _ => undef) (Nat.le_refl _) (by simp) (by simp) (by simp) (by simp)
    | own o ver i m loc A m' c hl hf hv hA =>
      simp only at hr
      cases hk : Nat.ble k0 o with
      | false => rw [hk] at hr; simp at hr; subst hr; exact hv'.mono g
      | true =>
        rw [hk] at hr
        simp only [cond_true] at hr
        obtain ⟨xs, hs, rfl⟩ := Option.map_eq_some_iff.1 hr
        have hs' := hs
        unfold rdSl at hs
        simp only at hs
        cases ho : rd o with
        | none => rw [ho] at hs; simp at hs
        | some obj =>
          rw [ho] at hs
          cases obj with
          | arr v' sz zs =>
            simp only at hs
            cases hb : (Nat.beq v' ver && Nat.ble (i + m) zs.length) with
            | false => rw [hb] at hs; simp at hs
            | true =>
              rw [hb] at hs
              simp only [cond_true, Option.some.injEq] at hs
              simp only [Bool.and_eq_true] at hb
              obtain ⟨b1, b2⟩ := hb
              have b2 := Nat.le_of_ble_eq_true b2
              obtain ⟨hver, hm, hsl, hlen, hel⟩ := own_cells h hrd hl hA ho (Nat.eq_of_beq_eq_true b1) b2
              obtain ⟨_, a2, a3, a4⟩ := hA hver
              have hxl : xs.length = m := by rw [← hs]; simp; omega
              rw [hm, ← hxl]
              rw [hs] at hsl
              refine Rep.list_of (sz := loc.sz) (c := c) (by omega) (fun x hx => ?_) (hsl.mono g (fun _ _ _ _ => rfl)) (fun hne b off hAb => .inl ?_)
              · rw [← hs] at hx
                exact hel x (List.mem_of_mem_drop (List.mem_of_mem_take hx))
              · have hpos : 0 < xs.length := List.length_pos_iff.2 hne
                have hcap : 0 < loc.cap := by omega
                rw [a4 (by omega)] at hAb
                simp at hAb
                rw [← hAb.1]
                exact hF o (hin o (by simp [idsOf]) (Nat.le_of_ble_eq_true hk) (by rw [ho]; rfl)) loc hl hcap
          | _ => simp at hs
    | _ => simp at hr; subst hr; exact hv'.mono g
end
end Go.Bb

namespace Go.Bb
section
variable {P : Program} {w0 : World} {M0 : Nat → Nat → Prop} {k0 : Nat} {Y Z : Nat → Prop} {w : World} {L : Nat → Option Loc} {S : Nat → Option AObj} {rd : Rd}

theorem setElems_length : ∀ (ps : List (Nat × PV)) (xs : List PV), (setElems xs ps).length = xs.length
  | [], _ => rfl
  | (i, v) :: r, xs => by rw [setElems, setElems_length r]; simp

theorem setElems_mem : ∀ (ps : List (Nat × PV)) (xs : List PV) (x : PV), x ∈ setElems xs ps → x ∈ xs ∨ x ∈ ps.map (·.2)
  | [], xs, x, h => .inl h
  | (i, v) :: r, xs, x, h => by
    rcases setElems_mem r _ x h with h | h
    · rcases List.mem_or_eq_of_mem_set h with h | rfl
      · exact .inl h
      · exact .inr (by simp)
    · exact .inr (by simp only [List.map_cons, List.mem_cons]; exact .inr h)

theorem fill_elems {sz : Nat} : ∀ (ps : List (Nat × PV)) (xs : List PV), (∀ x ∈ xs, (cellsOf x).length = sz) → elemsOk sz (ps.map (·.2)) = true → (∀ p ∈ ps, p.1 < xs.length) →
    fillP (fun i => some (i * sz, sz)) (flat xs) ps = some (flat (setElems xs ps))
  | [], xs, _, _, _ => rfl
  | (i, y) :: r, xs, hs, ho, hi => by
    simp only [List.map_cons] at ho
    have hy := elemsOk_spec ho y (by simp)
    have hor : elemsOk sz (r.map (·.2)) = true := by
      simp only [elemsOk, Bool.and_eq_true] at ho; exact ho.2
    have hlt : i < xs.length := hi (i, y) (by simp)
    have hx := List.getElem?_eq_getElem hlt
    unfold fillP
    simp only
    rw [show Nat.beq (cellsOf y).length sz = true from by rw [hy.2.1]; exact Nat.beq_refl _, hy.2.2]
    simp only [Bool.and_self, cond_true]
    have hle : i * sz + (cellsOf y).length ≤ (flat xs).length := by
      rw [hy.2.1, flat_length hs]
      have := Nat.mul_le_mul_right sz (show i + 1 ≤ xs.length by omega)
      rw [Nat.add_mul] at this; omega
    have hp : putCells (flat xs) (i * sz) (cellsOf y) = some (flat (xs.set i y)) := by
      unfold putCells
      rw [Nat.ble_eq_true_of_le hle]
      simp only [cond_true, Option.some.injEq]
      apply List.ext_getElem?
      intro k
      rw [splice_get _ _ _ hle, flat_set hs hx hy.2.1, hy.2.1]
    rw [hp]
    simp only [setElems]
    refine fill_elems r (xs.set i y) (fun x hx' => ?_) hor (fun p hp' => by simpa using hi p (by simp [hp']))
    rcases List.mem_or_eq_of_mem_set hx' with h | rfl
    · exact hs x h
    · exact hy.2.1

theorem mem_idssOf : ∀ (l : List PV) (x : PV), x ∈ l → ∀ o ∈ idsOf x, o ∈ idssOf l
  | [], x, h, _, _ => by simp at h
  | a :: r, x, h, o, ho => by
    simp only [idssOf, List.mem_append]
    rcases List.mem_cons.1 h with rfl | h
    · exact .inl ho
    · exact .inr (mem_idssOf r x h o ho)

theorem buildSlice_sound (h : Sim w0 M0 k0 Y Z w L S) (hrd : ∀ i obj, rd i = some obj → S i = some obj) {t e : TypeId} {k n : Nat} {parts ps : List (Nat × PV)} {vparts : Array (Nat × Value)} {ws : Ws}
    (he : elemT P t = some e) (hp : RepParts w Z Y L vparts.toList parts) (hfp : freePs k0 rd parts = some ps) (hws : mapO (bump rd) (freeIds k0 rd (idssOf (parts.map (·.2)))) = some ws)
    (hk : L k = none) (hkF : ∀ o, rd o ≠ none → o ≠ k)
    (hb : (Nat.blt 0 (szOf P e) && Nat.ble (n * szOf P e) 16777216 && elemsOk (szOf P e) [rest (zeroP P e)] && elemsOk (szOf P e) (ps.map (·.2)) && ps.all (fun p => Nat.blt p.1 n)) = true) :
    ∃ v w', (Instr.buildSlice t n vparts).run P w = .ok v w' ∧
      Post w0 M0 k0 Y Z w L S w' v (.own k 0 0 n) (ws ++ [(k, .arr 0 (szOf P e) (setElems (List.replicate n (rest (zeroP P e))) ps))]) := by
  simp only [Bool.and_eq_true, List.all_eq_true] at hb
  obtain ⟨⟨⟨⟨b1, b2⟩, b3⟩, b4⟩, b5⟩ := hb
  have hpos : 0 < szOf P e := by simpa [Nat.blt_eq] using b1
  have b2 := Nat.le_of_ble_eq_true b2
  have hidx : ∀ p ∈ ps, p.1 < n := fun p hp => by simpa [Nat.blt_eq] using b5 p hp
  obtain ⟨hu, hT⟩ := elemT_spec he
  obtain ⟨nd, ni⟩ := newIds_spec (k0 := k0) (idssOf (parts.map (·.2))) [] (by simp) (by simp)
  have hF : ∀ o, o ∈ freeIds k0 rd (idssOf (parts.map (·.2))) ↔ (o ∈ idssOf (parts.map (·.2)) ∧ k0 ≤ o) ∧ isArr (rd o) = true := by
    intro o; unfold freeIds; rw [List.mem_filter, ni]; simp
  obtain ⟨Z1, L1, s1, g1, z1, f1, l1, i1⟩ := free_sound _ ws h (List.Pairwise.filter _ nd) (fun o ho => ((hF o).1 ho).1.2) (fun o _ obj ho => hrd o obj ho) hws
  -- the freed parts
  obtain ⟨m1, m2⟩ := mapO_spec hfp
  have hp1 : RepParts w Z1 Y L1 vparts.toList ps := by
    refine ⟨by rw [hp.1, m1], fun j a b ha hb' => ?_⟩
    have hlt : j < parts.length := by have := (List.getElem?_eq_some_iff.1 hb').1; omega
    have hx := List.getElem?_eq_getElem hlt
    have hm := m2 j _ b hx hb'
    obtain ⟨y, hy, rfl⟩ := Option.map_eq_some_iff.1 hm
    obtain ⟨q1, q2⟩ := hp.2 j a _ ha hx
    refine ⟨q1, freeD_sound h hrd g1 f1 3 _ y a.2 q2 (fun o ho hko ha' => (hF o).2 ⟨⟨?_, hko⟩, ha'⟩) hy⟩
    exact mem_idssOf _ _ (List.mem_map.2 ⟨_, List.getElem_mem hlt, rfl⟩) o ho
  obtain ⟨z, zv1, zv2, zv3, zv4, zv5, zv6⟩ := zero_elem (w := w) (Z := Z1) (Y := Y) (L := L1) b3 w
  have zr := zeros_reps zv3 zv2 hpos n
  have hel : ∀ x ∈ List.replicate n (rest (zeroP P e)), (cellsOf x).length = szOf P e := fun x hx => by rw [List.eq_of_mem_replicate hx]; exact zv5
  have hfill := fill_elems (sz := szOf P e) ps (List.replicate n (rest (zeroP P e))) hel b4 (fun p hp => by simpa using hidx p hp)
  obtain ⟨C, c1, c2⟩ := fill_sound (place' := fun i => some (i * szOf P e, szOf P e)) (fun i => rfl) ps vparts.toList _ _ _ hp1.1 hp1.2 zr hfill
  have hC : C.size = n * szOf P e := by
    have := c2.1
    rw [flat_length (sz := szOf P e) (fun x hx => by
      rcases setElems_mem _ _ x hx with hx | hx
      · exact hel x hx
      · exact (elemsOk_spec b4 x hx).2.1), setElems_length, List.length_replicate] at this
    simpa using this
  have hels : ∀ x ∈ setElems (List.replicate n (rest (zeroP P e))) ps, x.frz false = true ∧ (cellsOf x).length = szOf P e ∧ okCells (cellsOf x) = true := by
    intro x hx
    rcases setElems_mem _ _ x hx with hx | hx
    · rw [List.eq_of_mem_replicate hx]; exact ⟨zv4, zv5, zv6⟩
    · exact elemsOk_spec b4 x hx
  have hk1 : L1 k = none := by
    rw [l1 k (fun hm => ?_)]; exact hk
    have h2 := ((hF k).1 hm).2
    have : rd k ≠ none := by intro h0; rw [h0] at h2; simp [isArr] at h2
    exact hkF k this rfl
  have hlen : (setElems (List.replicate n (rest (zeroP P e))) ps).length = n := by rw [setElems_length, List.length_replicate]
  have post := arr_new (o := k) (ver := 0) (cap := n) (T := e) s1 (.inl hk1) hpos (by rw [hC]; exact Nat.le_refl _) (by rw [hlen]; exact Nat.le_refl _) hels (C := C) (by
    have := rowFlat (w := w) (Z := Z1) (Y := Y) (L := L1) (base := 0) (f := fun i => C[i]?) (fun x hx => (hels x hx).2.1) (fun k p hp => by
      obtain ⟨c, u1, u2⟩ := reps_get c2 hp
      exact ⟨c, by simpa using u1, u2⟩)
    simpa using this)
  rw [hlen] at post
  refine ⟨.slice (some ⟨w.heap.size, 0, none⟩) n n, w.alloc (.cells C e), ?_, ?_⟩
  · have hbig : ¬ (n * szOf P e > 2 ^ 24) := by
      have : (2 : Nat) ^ 24 = 16777216 := by decide
      omega
    simp only [Instr.buildSlice, Sem.run_bind, run_underlying hu, Result.andThen_ok, run_sizeOf' hT]
    rw [if_neg hbig]
    by_cases h0 : n * szOf P e = 0
    · have hr0 : (Array.range (n * szOf P e)).map (fun i => z.cells[i % z.cells.size]!) = (Array.range (n * szOf P e)).map (fun i => (#[] : Array Value)[i % (#[] : Array Value).size]!) := by
        rw [h0, show Array.range 0 = #[] from rfl]; simp
      rw [hr0] at c1
      rw [if_pos h0]
      simp only [Sem.run_bind, Sem.run_pure, Result.andThen_ok]
      rw [c1]
      simp [newRow]
    · rw [if_neg h0]
      simp only [Sem.run_bind, Sem.run_pure, Result.andThen_ok, zv1]
      rw [c1]
      simp [newRow]
  · obtain ⟨Z', L', p1, p2, p3, p4⟩ := post
    refine ⟨Z', L', by rw [updW_append]; exact p1, g1.trans p2, fun b hb => ?_, p4⟩
    rcases p3 b hb with hb | hb
    · exact z1 b hb
    · exact .inr hb
end
end Go.Bb

