/- Reading slices, lengths, indexes, fields. Indexes and fields of values, reslicing, arithmetic, conversions. Reslicing, look-ups, structs that are built. Look-ups in maps; structs and arrays that are built. Structs and arrays that are built; new blocks. Rows of elements, flat; what a slice or a string adds; append. -/
import Derived.Test.YtpififklhcfcnaaDoorB1
import Derived.Laws.Append
namespace Go.Bb
section
variable {P : Program} {w0 : World} {M0 : Nat → Nat → Prop} {k0 : Nat} {Y Z : Nat → Prop} {w : World} {L : Nat → Option Loc} {S : Nat → Option AObj} {rd : Rd}

/-- The cells that a slice reads. -/
def SlCells (w : World) (Z Y : Nat → Prop) (L : Nat → Option Loc) (A : Option Addr) (xs : List PV) (sz : Nat) : Prop :=
  (∀ e ∈ xs, (cellsOf e).length = sz) ∧ (xs ≠ [] → ∃ b off, A = some ⟨b, off, none⟩ ∧
    ∀ (i : Nat) (e : PV) (j : Nat) (p : PV), xs[i]? = some e → (cellsOf e)[j]? = some p → ∃ c, cellAt w b (off + i * sz + j) = some c ∧ Rep w Z Y L c p)

theorem own_cells (h : Sim w0 M0 k0 Y Z w L S) (hrd : ∀ i obj, rd i = some obj → S i = some obj) {o ver i n : Nat} {loc : Loc} {A : Option Addr} {m c ver' sz : Nat} {xs : List PV}
    (hl : L o = some loc) (hA : loc.ver = ver → m = n ∧ i + n ≤ loc.cap ∧ c = loc.cap - i ∧ (i < loc.cap → A = some ⟨loc.block, loc.base + i * loc.sz, none⟩))
    (ho : rd o = some (.arr ver' sz xs)) (hv : ver' = ver) (hn : i + n ≤ xs.length) :
    loc.ver = ver ∧ m = n ∧ SlCells w Z Y L A ((xs.drop i).take n) loc.sz ∧ xs.length ≤ loc.cap ∧ ∀ e ∈ xs, e.frz false = true ∧ (cellsOf e).length = loc.sz ∧ okCells (cellsOf e) = true := by
  obtain ⟨_, e2, _, e3, e4, e5⟩ := h.objs o loc _ hl (hrd o _ ho)
  have hver : loc.ver = ver := e2.trans hv
  obtain ⟨a1, a2, a3, a4⟩ := hA hver
  refine ⟨hver, a1, ⟨fun e he => (e4 e (List.mem_of_mem_drop (List.mem_of_mem_take he))).2.1, fun hne => ?_⟩, e3, e4⟩
  have hpos : 0 < n := by
    rcases Nat.eq_zero_or_pos n with h0 | h0
    · subst h0; simp at hne
    · exact h0
  have hi : i < loc.cap := by omega
  obtain ⟨C, T, c1, c2, c3⟩ := e5 (by omega)
  refine ⟨_, _, a4 hi, fun i' e j p h1 h2 => ?_⟩
  have hi' : i' < n := by have := (List.getElem?_eq_some_iff.1 h1).1; simp at this; omega
  rw [List.getElem?_take_of_lt hi', List.getElem?_drop] at h1
  obtain ⟨cv, d1, d2⟩ := c3 (i + i') e j p h1 h2
  refine ⟨cv, ?_, d2⟩
  rw [cellAt_of c1, ← d1, Nat.add_mul]
  congr 1; omega

theorem rdSl_sound (h : Sim w0 M0 k0 Y Z w L S) (hrd : ∀ i obj, rd i = some obj → S i = some obj) {x : PV} {vx : Value} {xs : List PV}
    (hx : Rep w Z Y L vx x) (hr : rdSl rd x = some xs) : ∃ A c sz, vx = .slice A xs.length c ∧ xs.length ≤ c ∧ SlCells w Z Y L A xs sz := by
  unfold rdSl at hr
  cases hx with
  | nils A => simp at hr; subst hr; exact ⟨A, 0, 0, rfl, Nat.le_refl _, by simp, by simp⟩
  | list y ys A b off c sz cv hl hA hx hv hc =>
    simp at hr; subst hr
    exact ⟨A, c, sz, rfl, hl, fun e he => (hx e he).2.1, fun hne => ⟨b, off, (hA hne).1, fun i e j p h1 h2 => ⟨cv i j, hv i e j p h1 h2, hc i e j p h1 h2⟩⟩⟩
  | own o ver i n loc A m c hl hf hv hA =>
    simp only at hr
    cases ho : rd o with
    | none => rw [ho] at hr; simp at hr
    | some obj =>
      rw [ho] at hr
      cases obj with
      | arr v' sz ys =>
        simp only at hr
        cases hb : (Nat.beq v' ver && Nat.ble (i + n) ys.length) with
        | false => rw [hb] at hr; simp at hr
        | true =>
          rw [hb] at hr
          simp only [cond_true, Option.some.injEq] at hr
          rw [Bool.and_eq_true] at hb
          have hn := Nat.le_of_ble_eq_true hb.2
          obtain ⟨h1, h2, h3, h4, _⟩ := own_cells h hrd hl hA ho (Nat.eq_of_beq_eq_true hb.1) hn
          obtain ⟨a1, a2, a3, a4⟩ := hA h1
          have hlen : xs.length = n := by rw [← hr]; simp; omega
          subst hr
          exact ⟨A, c, loc.sz, by rw [hlen, h2], by rw [hlen]; omega, h3⟩
      | _ => simp at hr
  | _ => simp at hr

theorem len_sound (h : Sim w0 M0 k0 Y Z w L S) (hrd : ∀ i obj, rd i = some obj → S i = some obj) {t : TypeId} {x r : PV} {vx : Value} {ty : TypeId} {ts : Array TypeId} {vs : Array Value}
    (ht : ts[0]? = some t) (hvs : vs[0]? = some vx) (hx : Rep w Z Y L vx x) (hr : aLen P rd t x = some r) :
    ∃ v, (Builtin.len_ ts ty vs).run P w = .ok v w ∧ Rep w Z Y L v r := by
  unfold aLen at hr
  cases hu : P.underlying t with
  | none => rw [hu] at hr; simp at hr
  | some d =>
    rw [hu] at hr
    have slc : ∀ e, d = .slice e → (match rdSl rd x with | some xs => some (PV.int .i64 xs.length) | none => none) = some r →
        ∃ v, (Builtin.len_ ts ty vs).run P w = .ok v w ∧ Rep w Z Y L v r := by
      intro e he hq
      subst he
      clear hr
      cases hs : rdSl rd x with
      | none => rw [hs] at hq; simp at hq
      | some xs =>
        rw [hs] at hq; simp at hq; subst hq
        obtain ⟨A, c, sz, rfl, _, _⟩ := rdSl_sound h hrd hx hs
        exact ⟨goInt xs.length, by simp [Builtin.len_, ht, hvs, run_underlying hu], .int _ _⟩
    cases d with
    | array n e =>
      simp at hr; subst hr
      exact ⟨goInt n, by simp [Builtin.len_, ht, hvs, run_underlying hu], .int _ _⟩
    | string =>
      cases hx with
      | str s => simp at hr; subst hr; exact ⟨goInt s.size, by simp [Builtin.len_, ht, hvs, run_underlying hu], .int _ _⟩
      | _ => simp at hr
    | slice e => exact slc e rfl hr
    | map k e =>
      cases hx with
      | map o loc hl hf =>
        simp only at hr
        cases ho : rd o with
        | none => rw [ho] at hr; simp at hr
        | some obj =>
          rw [ho] at hr
          cases obj with
          | map ks xs =>
            simp at hr; subst hr
            obtain ⟨_, es, clock, h1, h2, _⟩ := h.objs o loc _ hl (hrd o _ ho)
            refine ⟨goInt es.size, by simp [Builtin.len_, ht, hvs, run_underlying hu, getObj, Sem.run, h1], ?_⟩
            rw [h2]; exact .int _ _
          | _ => simp at hr
      | rom y ks xs r es clock hz hr' hk hn hf hkf h1 h2 =>
        simp at hr; subst hr
        refine ⟨goInt es.size, by simp [Builtin.len_, ht, hvs, run_underlying hu, getObj, Sem.run, hr'], ?_⟩
        rw [hk]; exact .int _ _
      | _ => simp at hr
    | _ => simp at hr

theorem asIdx_spec {x : PV} {i : Int} (h : asIdx x = some i) : ∃ k, x = .int k i := by
  unfold asIdx at h; split at h <;> simp_all

theorem inB_spec {i : Int} {n : Nat} (h : inB i n = true) : 0 ≤ i ∧ i < n := by
  simpa [inB] using h

theorem indexAddr_sound (h : Sim w0 M0 k0 Y Z w L S) (hrd : ∀ i obj, rd i = some obj → S i = some obj) {t : TypeId} {x ix r : PV} {vx vi : Value}
    (hx : Rep w Z Y L vx x) (hi : Rep w Z Y L vi ix) (hr : aIndexAddr P rd t x ix = some r) : ∃ v, (Instr.indexAt t vx vi).run P w = .ok v w ∧ Rep w Z Y L v r := by
  unfold aIndexAddr at hr
  cases hii : asIdx ix with
  | none => rw [hii] at hr; simp at hr
  | some i =>
    rw [hii] at hr
    obtain ⟨k, rfl⟩ := asIdx_spec hii
    cases hi
    cases hu : P.underlying t with
    | none => rw [hu] at hr; simp at hr
    | some d =>
      rw [hu] at hr
      cases d with
      | slice e =>
        cases hx with
        | list y xs A b off c sz cv hl hA hx hv hc =>
          simp only at hr
          cases h0 : decide (0 ≤ i) with
          | false => rw [h0] at hr; simp at hr
          | true =>
            rw [h0] at hr
            have h0' : 0 ≤ i := of_decide_eq_true h0
            simp only [cond_true] at hr
            cases hxi : xs[i.toNat]? with
            | none => rw [hxi] at hr; simp at hr
            | some q =>
              rw [hxi] at hr
              simp only at hr
              cases hb : (hasT P e && Nat.beq (cellsOf q).length (szOf P e)) with
              | false => rw [hb] at hr; simp at hr
              | true =>
                rw [hb] at hr
                simp at hr; subst hr
                rw [Bool.and_eq_true] at hb
                have hlt := (List.getElem?_eq_some_iff.1 hxi).1
                have hne : xs ≠ [] := by intro h; subst h; simp at hlt
                have hq := hx q (List.mem_of_getElem? hxi)
                have hsz : szOf P e = sz := (Nat.eq_of_beq_eq_true hb.2).symm.trans hq.2.1
                have hin : i < (xs.length : Int) := by omega
                refine ⟨.pointer (some ⟨b, off + i.toNat * szOf P e, none⟩), ?_, ?_⟩
                · simp [Instr.indexAt, asIntOf, run_underlying hu, (hA hne).1, h0', hin, run_sizeOf' hb.1, add_none]
                · rw [hsz]
                  exact .ro y q b _ (fun j => cv i.toNat j) (hA hne).2 ⟨hq.1, hq.2.2⟩ (fun j p hp => hv _ q j p hxi hp) (fun j p hp => hc _ q j p hxi hp)
        | own o ver j n loc A m c hl hf hv hA =>
          simp only at hr
          cases ho : rd o with
          | none => rw [ho] at hr; simp at hr
          | some obj =>
            rw [ho] at hr
            cases obj with
            | arr v' sz ys =>
              simp only at hr
              cases hb : (Nat.beq v' ver && Nat.ble (j + n) ys.length && inB i n && Nat.beq sz (szOf P e) && hasT P e) with
              | false => rw [hb] at hr; simp at hr
              | true =>
                rw [hb] at hr
                simp at hr; subst hr
                simp only [Bool.and_eq_true] at hb
                obtain ⟨⟨⟨⟨b1, b2⟩, b3⟩, b4⟩, b5⟩ := hb
                obtain ⟨hver, hm, _, hlen, _⟩ := own_cells h hrd hl hA ho (Nat.eq_of_beq_eq_true b1) (Nat.le_of_ble_eq_true b2)
                obtain ⟨a1, a2, a3, a4⟩ := hA hver
                obtain ⟨i0, i1⟩ := inB_spec b3
                obtain ⟨_, _, hsz, _⟩ := h.objs o loc _ hl (hrd o _ ho)
                have hcap : 0 < loc.cap := by omega
                have hsz' := (hsz hcap).1.trans (Nat.eq_of_beq_eq_true b4)
                refine ⟨.pointer (some ⟨loc.block, loc.base + j * loc.sz + i.toNat * szOf P e, none⟩), ?_, ?_⟩
                · simp [Instr.indexAt, asIntOf, run_underlying hu, a4 (by omega), hm, i0, i1, run_sizeOf' b5, add_none]
                · refine .refa o ver _ 0 loc _ _ hl hf hv fun _ => ⟨rfl, ?_⟩
                  rw [hsz', Nat.add_mul]; omega
            | _ => simp at hr
        | _ => simp at hr
      | array n e =>
        cases hx with
        | refv o off loc hl hf =>
          simp only at hr
          cases hb : (inB i n && hasT P e) with
          | false => rw [hb] at hr; simp at hr
          | true =>
            rw [hb] at hr
            simp at hr; subst hr
            rw [Bool.and_eq_true] at hb
            obtain ⟨i0, i1⟩ := inB_spec hb.1
            refine ⟨.pointer (some ⟨loc.block, loc.base + off + i.toNat * szOf P e, none⟩), ?_, by rw [Nat.add_assoc]; exact .refv o _ loc hl hf⟩
            simp [Instr.indexAt, asIntOf, run_underlying hu, Instr.sureAddr, i0, i1, run_sizeOf' hb.2, add_none]
        | ro y q b off cv hz hx hv hc =>
          simp only at hr
          cases hb : inB i n with
          | false => rw [hb] at hr; simp at hr
          | true =>
            rw [hb] at hr
            simp only [cond_true] at hr
            cases hs : sub P e (cellsOf q) (i.toNat * szOf P e) with
            | none => rw [hs] at hr; simp at hr
            | some q' =>
              rw [hs] at hr
              simp at hr; subst hr
              obtain ⟨i0, i1⟩ := inB_spec hb
              have hT : hasT P e = true := by
                unfold sub at hs
                cases hT : hasT P e with
                | false => rw [hT] at hs; simp at hs
                | true => rfl
              refine ⟨.pointer (some ⟨b, off + i.toNat * szOf P e, none⟩), ?_, sub_ro hz hx hv hc hs⟩
              simp [Instr.indexAt, asIntOf, run_underlying hu, Instr.sureAddr, i0, i1, run_sizeOf' hT, add_none]
        | _ => simp at hr
      | _ => simp at hr
end
end Go.Bb

namespace Go.Bb
section
variable {P : Program} {w0 : World} {M0 : Nat → Nat → Prop} {k0 : Nat} {Y Z : Nat → Prop} {w : World} {L : Nat → Option Loc} {S : Nat → Option AObj} {rd : Rd}

theorem part_sound {t : TypeId} {cs : Array Value} {ps : List PV} {off : Nat} {r : PV} (hs : cs.size = ps.length)
    (hc : ∀ (i : Nat) (c : Value) (x : PV), cs[i]? = some c → ps[i]? = some x → Rep w Z Y L c x) (h : sub P t ps off = some r) :
    ∃ v, (part t cs off).run P w = .ok v w ∧ Rep w Z Y L v r := by
  unfold sub at h
  cases hT : hasT P t with
  | false => rw [hT] at h; simp at h
  | true =>
    rw [hT] at h
    simp only [cond_true] at h
    cases ha : aggT P t with
    | true =>
      rw [ha] at h
      simp only [cond_true] at h
      cases hle : Nat.ble (off + szOf P t) ps.length with
      | false => rw [hle] at h; simp at h
      | true =>
        rw [hle] at h
        simp only [cond_true, Option.some.injEq] at h
        subst h
        have hle' := Nat.le_of_ble_eq_true hle
        refine ⟨.agg (cs.extract off (off + szOf P t)), by simp [part, run_isAgg' hT, ha, run_sizeOf' hT], .agg _ _ (by simp; omega) fun i c x h1 h2 => ?_⟩
        have hi : i < szOf P t := by have := (List.getElem?_eq_some_iff.1 h2).1; simp at this; omega
        rw [List.getElem?_take_of_lt hi, List.getElem?_drop] at h2
        rw [Array.getElem?_extract_of_lt (by omega)] at h1
        exact hc (off + i) c x (by rw [← h1]; simp) h2
    | false =>
      rw [ha] at h
      simp only [cond_false] at h
      cases hx : ps[off]? with
      | none => rw [hx] at h; simp at h
      | some q =>
        rw [hx] at h
        have hq : q = r := by split at h <;> simp_all
        subst hq
        have hlt : off < cs.size := by have := (List.getElem?_eq_some_iff.1 hx).1; omega
        have hcs : cs[off]? = some cs[off] := by simp [hlt]
        exact ⟨cs[off], by simp [part, run_isAgg' hT, ha, hcs], hc off _ q hcs hx⟩

theorem sub_hasT {t : TypeId} {ps : List PV} {off : Nat} {r : PV} (h : sub P t ps off = some r) : hasT P t = true := by
  unfold sub at h
  cases hT : hasT P t with
  | false => rw [hT] at h; simp at h
  | true => rfl

theorem index_sound {t : TypeId} {x ix r : PV} {vx vi : Value}
    (hx : Rep w Z Y L vx x) (hi : Rep w Z Y L vi ix) (hr : aIndex P t x ix = some r) : ∃ v, (Instr.index t vx vi).run P w = .ok v w ∧ Rep w Z Y L v r := by
  unfold aIndex at hr
  cases hii : asIdx ix with
  | none => rw [hii] at hr; simp at hr
  | some i =>
    rw [hii] at hr
    obtain ⟨k, rfl⟩ := asIdx_spec hii
    cases hi
    cases hu : P.underlying t with
    | none => rw [hu] at hr; simp at hr
    | some d =>
      rw [hu] at hr
      cases d with
      | array n e =>
        cases hx with
        | agg cs ps hs hc =>
          simp only at hr
          cases hb : inB i n with
          | false => rw [hb] at hr; simp at hr
          | true =>
            rw [hb] at hr
            simp only [cond_true] at hr
            obtain ⟨i0, i1⟩ := inB_spec hb
            obtain ⟨v, h1, h2⟩ := part_sound (P := P) hs hc hr
            exact ⟨v, by simp [Instr.index, asIntOf, run_underlying hu, i0, i1, run_sizeOf' (sub_hasT hr), h1], h2⟩
        | _ => simp at hr
      | string =>
        cases hx with
        | str s =>
          simp only at hr
          cases h0 : decide (0 ≤ i) with
          | false => rw [h0] at hr; simp at hr
          | true =>
            rw [h0] at hr
            have h0' : 0 ≤ i := of_decide_eq_true h0
            simp only [cond_true] at hr
            cases hb : s[i.toNat]? with
            | none => rw [hb] at hr; simp at hr
            | some b =>
              rw [hb] at hr
              simp at hr; subst hr
              exact ⟨.int .u8 b.toNat, by simp [Instr.index, asIntOf, run_underlying hu, h0', hb], .int _ _⟩
        | _ => simp at hr
      | _ => simp at hr

theorem field_sound {t : TypeId} {x r : PV} {f : Nat} {vx : Value} (hx : Rep w Z Y L vx x) (hr : aField P t x f = some r) :
    ∃ v, (Instr.field t vx f).run P w = .ok v w ∧ Rep w Z Y L v r := by
  unfold aField at hr
  cases hf : fieldOf P t f with
  | none => rw [hf] at hr; simp at hr
  | some fd =>
    rw [hf] at hr
    obtain ⟨fields, u1, u2, u3⟩ := fieldOf_spec hf
    cases hx with
    | agg cs ps hs hc =>
      simp only at hr
      obtain ⟨v, h1, h2⟩ := part_sound (P := P) hs hc hr
      exact ⟨v, by simp [Instr.field, run_underlying u1, u2, asAgg, h1], h2⟩
    | _ => simp at hr

theorem unOp_sound {op : UnOp} {x r : PV} {vx : Value} (hx : Rep w Z Y L vx x) (hr : aUn op x = some r) :
    ∃ v, (Op.unary op vx).run P w = .ok v w ∧ Rep w Z Y L v r := by
  unfold aUn at hr
  split at hr
  · cases hx; simp at hr; subst hr; exact ⟨_, rfl, .bool _⟩
  · cases hx; simp at hr; subst hr; exact ⟨_, by simp [Op.unary, Op.intArith], .int _ _⟩
  · simp at hr

theorem run_eqGuard_scalar {op : BinOp} {t : TypeId} {x y : Operand} {a b : Value} (h1 : ∀ cs, a ≠ .agg cs) (h2 : a ≠ .nilIface) :
    (eqGuard op t x y a b).run P w = .ok () w := by
  unfold eqGuard
  cases op <;> first | rfl | (cases a <;> first | rfl | (exact absurd rfl (h1 _)) | (exact absurd rfl h2))

theorem binOp_int (op : BinOp) (k : IntKind) (t : TypeId) (a b : Int) : binOp op t (.int k a) (.int k b) = match op with
    | .shl | .shr => Op.shift op k a k b
    | .add | .sub | .mul => Op.intArith op k a b
    | .quo | .rem => Op.intDiv op k a b
    | .and | .or | .xor | .andNot => Op.intBits op k a b
    | _ => Op.intCmp op a b := by
  cases op <;> simp [binOp]

theorem aInt_sound {op : BinOp} {k : IntKind} {t : TypeId} {a b : Int} {r : PV} (h : aInt op k a b = some r) :
    ∃ v, (binOp op t (.int k a) (.int k b)).run P w = .ok v w ∧ Rep w Z Y L v r := by
  rw [binOp_int]
  cases op <;> simp only [aInt, Option.some.injEq, reduceCtorEq] at h <;> first
    | (subst h; exact ⟨_, rfl, .int _ _⟩)
    | (subst h; exact ⟨_, rfl, .bool _⟩)
    | (split at h
       · simp at h
       · rename_i hb; simp at h; subst h; exact ⟨_, by simp only [Op.intDiv, if_neg hb]; rfl, .int _ _⟩)

theorem aStr_sound {op : BinOp} {t : TypeId} {a b : ByteArray} {r : PV} (h : aStr op a b = some r) :
    ∃ v, (binOp op t (.string a) (.string b)).run P w = .ok v w ∧ Rep w Z Y L v r := by
  have e : binOp op t (.string a) (.string b) = Op.stringOp op a b := by cases op <;> rfl
  rw [e]
  cases op <;> simp only [aStr, Option.some.injEq, reduceCtorEq] at h
  case add =>
    cases hb : Nat.ble (a.size + b.size) 9223372036854775807 with
    | false => rw [hb] at h; simp at h
    | true =>
      rw [hb] at h; simp at h; subst h
      have hle := Nat.le_of_ble_eq_true hb
      refine ⟨_, ?_, .str _⟩
      have : ¬ (((a.size + b.size : Nat) : Int) > IntKind.i64.max) := by
        have : IntKind.i64.max = 9223372036854775807 := by decide
        omega
      simp only [Op.stringOp, if_neg this]
      rfl
  all_goals (subst h; exact ⟨_, rfl, .bool _⟩)

theorem run_equal_bool {t : TypeId} {a b : Bool} (hu : P.underlying t = some .bool) : (Op.equal t (.bool a) (.bool b)).run P w = .ok (a == b) w := by
  have key : ∀ d, (Op.equalIn (d + 1) t (.bool a) (.bool b)).run P w = .ok (a == b) w := fun d => by
    simp only [Op.equalIn, Sem.run_bind, run_underlying hu, Result.andThen_ok]
    rfl
  exact key 9999

theorem binOp_sound {op : BinOp} {t : TypeId} {x y : Operand} {a b r : PV} {va vb : Value} (ha : Rep w Z Y L va a) (hb : Rep w Z Y L vb b) (hr : aBin P op t a b = some r) :
    ∃ v, (do eqGuard op t x y va vb; binOp op t va vb).run P w = .ok v w ∧ Rep w Z Y L v r := by
  unfold aBin at hr
  split at hr
  · rename_i j a k b
    cases ha; cases hb
    have hg := run_eqGuard_scalar (P := P) (w := w) (op := op) (t := t) (x := x) (y := y) (a := .int j a) (b := .int k b) (by simp) (by simp)
    split at hr
    · rename_i hjk
      subst hjk
      obtain ⟨v, h1, h2⟩ := aInt_sound (P := P) (w := w) (Z := Z) (Y := Y) (L := L) (t := t) hr
      exact ⟨v, by simp [hg, h1], h2⟩
    · split at hr
      · cases hd : decide (b < 0) with
        | true => rw [hd] at hr; simp at hr
        | false =>
          rw [hd] at hr; simp at hr; subst hr
          have : ¬ b < 0 := of_decide_eq_false hd
          exact ⟨_, by simp [hg, binOp, Op.shift, this], .int _ _⟩
      · cases hd : decide (b < 0) with
        | true => rw [hd] at hr; simp at hr
        | false =>
          rw [hd] at hr; simp at hr; subst hr
          have : ¬ b < 0 := of_decide_eq_false hd
          exact ⟨_, by simp [hg, binOp, Op.shift, this], .int _ _⟩
      · simp at hr
  · rename_i a b
    cases ha; cases hb
    have hg := run_eqGuard_scalar (P := P) (w := w) (op := op) (t := t) (x := x) (y := y) (a := .string a) (b := .string b) (by simp) (by simp)
    obtain ⟨v, h1, h2⟩ := aStr_sound (P := P) (w := w) (Z := Z) (Y := Y) (L := L) (t := t) hr
    exact ⟨v, by simp [hg, h1], h2⟩
  · rename_i a b
    cases ha; cases hb
    have hg := run_eqGuard_scalar (P := P) (w := w) (op := op) (t := t) (x := x) (y := y) (a := .bool a) (b := .bool b) (by simp) (by simp)
    split at hr
    · rename_i hu
      split at hr
      · simp at hr; subst hr
        exact ⟨.bool (a == b), by simp only [Sem.run_bind, hg, Result.andThen_ok]; show (do pure (Value.bool (← Op.equal t (.bool a) (.bool b))) : Sem Value).run P w = _; simp only [Sem.run_bind, run_equal_bool hu, Result.andThen_ok]; rfl, .bool _⟩
      · simp at hr; subst hr
        exact ⟨.bool !(a == b), by simp only [Sem.run_bind, hg, Result.andThen_ok]; show (do pure (Value.bool (!(← Op.equal t (.bool a) (.bool b)))) : Sem Value).run P w = _; simp only [Sem.run_bind, run_equal_bool hu, Result.andThen_ok]; rfl, .bool _⟩
      · simp at hr
    · simp at hr
  · simp at hr

theorem convert_sound {s d : TypeId} {x r : PV} {vx : Value} (hx : Rep w Z Y L vx x) (hr : aConvert P s d x = some r) :
    ∃ v, (convert s d vx).run P w = .ok v w ∧ Rep w Z Y L v r := by
  unfold aConvert at hr
  split at hr
  · rename_i hs hd
    cases hx; simp at hr; subst hr
    exact ⟨_, by simp [convert, run_underlying hs, run_underlying hd, Conv.intToInt], .int _ _⟩
  · rename_i hs hd
    cases hx; simp at hr; subst hr
    exact ⟨_, by simp [convert, run_underlying hs, run_underlying hd], .str _⟩
  · rename_i hs hd
    cases hx; simp at hr; subst hr
    exact ⟨_, by simp [convert, run_underlying hs, run_underlying hd, Conv.intToString], .str _⟩
  · simp at hr
end
end Go.Bb

namespace Go.Bb
section
variable {P : Program} {w0 : World} {M0 : Nat → Nat → Prop} {k0 : Nat} {Y Z : Nat → Prop} {w : World} {L : Nat → Option Loc} {S : Nat → Option AObj} {rd : Rd}

def RepO (w : World) (Z Y : Nat → Prop) (L : Nat → Option Loc) (v : Option Value) (p : Option PV) : Prop :=
  (v = none ∧ p = none) ∨ ∃ u q, v = some u ∧ p = some q ∧ Rep w Z Y L u q

theorem sizeOk_spec {sz : Nat} : ∀ {xs : List PV}, sizeOk sz xs = true → ∀ x ∈ xs, (cellsOf x).length = sz
  | [], _, x, h => by simp at h
  | y :: r, h, x, hx => by
    simp only [sizeOk, Bool.and_eq_true] at h
    rcases List.mem_cons.1 hx with rfl | hx
    · exact Nat.eq_of_beq_eq_true h.1
    · exact sizeOk_spec h.2 x hx

theorem run_bound {k : IntKind} {i : Int} {y : Nat} {code : Go.BoundsCode} (h0 : 0 ≤ i) (h1 : i ≤ y) : (Instr.sliceBound (.int k i) y code).run P w = .ok i.toNat w := by
  simp [Instr.sliceBound, asIntOf, h0, h1]

theorem run_bounds {sl : Bool} {len cap : Nat} {lo hi : Option PV} {vlo vhi : Option Value} (hlo : RepO w Z Y L vlo lo) (hhi : RepO w Z Y L vhi hi) {l h : Int}
    (el : bndO 0 lo = some l) (eh : bndO len hi = some h)
    (h0 : 0 ≤ l) (h1 : l ≤ h) (h2 : h ≤ cap) : (Instr.sliceBounds sl len cap vlo vhi none).run P w = .ok (l.toNat, h.toNat, cap) w := by
  rcases hhi with ⟨rfl, rfl⟩ | ⟨u, q, rfl, rfl, hr⟩
  · simp [bndO] at eh; subst eh
    rcases hlo with ⟨rfl, rfl⟩ | ⟨u, q, rfl, rfl, hr⟩
    · simp [bndO] at el; subst el
      simp [Instr.sliceBounds]
    · obtain ⟨k2, rfl⟩ := asIdx_spec el
      cases hr
      have r3 : ∀ code, (Instr.sliceBound (.int k2 l) len code).run P w = .ok l.toNat w := fun _ => run_bound (by omega) (by omega)
      simp [Instr.sliceBounds, r3]
  · obtain ⟨k', rfl⟩ := asIdx_spec eh
    cases hr
    have r2 : ∀ code, (Instr.sliceBound (.int k' h) cap code).run P w = .ok h.toNat w := fun _ => run_bound (by omega) (by omega)
    rcases hlo with ⟨rfl, rfl⟩ | ⟨u, q, rfl, rfl, hr⟩
    · simp [bndO] at el; subst el
      simp [Instr.sliceBounds, r2]
    · obtain ⟨k2, rfl⟩ := asIdx_spec el
      cases hr
      have r3 : ∀ code, (Instr.sliceBound (.int k2 l) h.toNat code).run P w = .ok l.toNat w := fun _ => run_bound (by omega) (by omega)
      simp [Instr.sliceBounds, r2, r3]

theorem run_bounds3 {sl : Bool} {len cap : Nat} {lo hi : Option PV} {vlo vhi : Option Value} {k : IntKind} {m : Int} (hlo : RepO w Z Y L vlo lo) (hhi : RepO w Z Y L vhi hi) {l h : Int}
    (el : bndO 0 lo = some l) (eh : bndO len hi = some h) (hh : hi ≠ none)
    (h0 : 0 ≤ l) (h1 : l ≤ h) (h2 : h ≤ m) (h3 : m ≤ cap) : (Instr.sliceBounds sl len cap vlo vhi (some (.int k m))).run P w = .ok (l.toNat, h.toNat, m.toNat) w := by
  rcases hhi with ⟨rfl, rfl⟩ | ⟨u, q, rfl, rfl, hr⟩
  · exact absurd rfl hh
  obtain ⟨k', rfl⟩ := asIdx_spec eh
  cases hr
  have r1 : ∀ code, (Instr.sliceBound (.int k m) cap code).run P w = .ok m.toNat w := fun _ => run_bound (by omega) (by omega)
  have r2 : ∀ code, (Instr.sliceBound (.int k' h) m.toNat code).run P w = .ok h.toNat w := fun _ => run_bound (by omega) (by omega)
  rcases hlo with ⟨rfl, rfl⟩ | ⟨u, q, rfl, rfl, hr⟩
  · simp [bndO] at el; subst el
    simp [Instr.sliceBounds, r1, r2]
  · obtain ⟨k2, rfl⟩ := asIdx_spec el
    cases hr
    have r3 : ∀ code, (Instr.sliceBound (.int k2 l) h.toNat code).run P w = .ok l.toNat w := fun _ => run_bound (by omega) (by omega)
    simp [Instr.sliceBounds, r1, r2, r3]

theorem slice_sound (h : Sim w0 M0 k0 Y Z w L S) (hrd : ∀ i obj, rd i = some obj → S i = some obj) {t : TypeId} {x r : PV} {vx : Value} {lo hi mx : Option PV} {vlo vhi vmx : Option Value}
    (hx : Rep w Z Y L vx x) (hlo : RepO w Z Y L vlo lo) (hhi : RepO w Z Y L vhi hi) (hmx : RepO w Z Y L vmx mx) (hr : aSlice P rd t x lo hi mx = some r) :
    ∃ v, (Instr.sliceAt t vx vlo vhi vmx).run P w = .ok v w ∧ Rep w Z Y L v r := by
  unfold aSlice at hr
  cases hu : P.underlying t with
  | none => rw [hu] at hr; simp at hr
  | some d =>
    rw [hu] at hr
    have at_ : (∀ n e, d ≠ .array n e) → (Instr.sliceAt t vx vlo vhi vmx).run P w = (Instr.slice t vx vlo vhi vmx).run P w := by
      intro hd
      unfold Instr.sliceAt
      simp only [Sem.run_bind, run_underlying hu, Result.andThen_ok]
      all_goals (cases d <;> first | rfl | exact absurd rfl (hd _ _))
    cases d with
    | string =>
      rw [at_ (by simp)]
      cases hx with
      | str s =>
        simp only at hr
        split at hr
        · rename_i l h' el eh
          cases hb : (decide (0 ≤ l) && decide (l ≤ h') && decide (h' ≤ (s.size : Int))) with
          | false => rw [hb] at hr; simp at hr
          | true =>
            rw [hb] at hr; simp at hr; subst hr
            simp only [Bool.and_eq_true, decide_eq_true_eq] at hb
            rcases hmx with ⟨rfl, _⟩ | ⟨_, _, _, h2, _⟩
            · have := run_bounds (P := P) (sl := false) (len := s.size) (cap := s.size) hlo hhi el eh hb.1.1 hb.1.2 hb.2
              exact ⟨.string (s.extract l.toNat h'.toNat), by simp [Instr.slice, run_underlying hu, this], .str _⟩
            · simp at h2
        · simp at hr
      | _ => simp at hr
    | slice e =>
      rw [at_ (by simp)]
      simp only at hr
      cases hT : hasT P e with
      | false => rw [hT] at hr; simp at hr
      | true =>
        rw [hT] at hr
        simp only [cond_true] at hr
        cases hs : rdSl rd x with
        | none => rw [hs] at hr; simp at hr
        | some xs =>
          rw [hs] at hr
          simp only at hr
          obtain ⟨A, c, sz, hvx, hlc, hcells⟩ := rdSl_sound h hrd hx hs
          split at hr
          · rename_i l h' el eh
            cases hb : (decide (0 ≤ l) && decide (l ≤ h')) with
            | false => rw [hb] at hr; simp at hr
            | true =>
              rw [hb] at hr
              simp only [cond_true] at hr
              simp only [Bool.and_eq_true, decide_eq_true_eq] at hb
              obtain ⟨h0, h1⟩ := hb
              rcases hmx with ⟨rfl, _⟩ | ⟨_, _, _, h2, _⟩
              rotate_left
              · simp at h2
              have go : h' ≤ c → (Instr.slice t vx vlo vhi none).run P w =
                  .ok (.slice (if c = l.toNat then A else A.map (·.add (l.toNat * szOf P e))) (h'.toNat - l.toNat) (c - l.toNat)) w := by
                intro hc
                have := run_bounds (P := P) (sl := true) (len := xs.length) (cap := c) hlo hhi el eh h0 h1 hc
                simp [hvx, Instr.slice, run_underlying hu, this, run_sizeOf' hT]
              split at hr
              · rename_i y ys
                simp only [rdSl, Option.some.injEq] at hs
                subst hs
                cases hb2 : (decide (h' ≤ (ys.length : Int)) && sizeOk (szOf P e) ys) with
                | false => rw [hb2] at hr; simp at hr
                | true =>
                  rw [hb2] at hr; simp at hr; subst hr
                  simp only [Bool.and_eq_true, decide_eq_true_eq] at hb2
                  obtain ⟨hb2, hsz⟩ := hb2
                  refine ⟨_, go (by omega), ?_⟩
                  cases hx with
                  | list _ _ A' b off c' sz' cv hl hA hxx hv hc =>
                    injection hvx with e1 e2 e3
                    subst e1 e3
                    have hlen : ((ys.drop l.toNat).take (h'.toNat - l.toNat)).length = h'.toNat - l.toNat := by simp; omega
                    suffices R : Rep w Z Y L (.slice (if c' = l.toNat then A' else A'.map (·.add (l.toNat * szOf P e))) ((ys.drop l.toNat).take (h'.toNat - l.toNat)).length (c' - l.toNat)) (.list y ((ys.drop l.toNat).take (h'.toNat - l.toNat))) by
                      rw [hlen] at R; exact R
                    have key : ∀ i p, ((ys.drop l.toNat).take (h'.toNat - l.toNat))[i]? = some p → ys[l.toNat + i]? = some p := by
                      intro i p hp
                      have hi : i < h'.toNat - l.toNat := by have := (List.getElem?_eq_some_iff.1 hp).1; simp at this; omega
                      rw [List.getElem?_take_of_lt hi, List.getElem?_drop] at hp
                      exact hp
                    have hss : ys ≠ [] → szOf P e = sz' := fun hne => by
                      obtain ⟨q, hq⟩ := List.exists_mem_of_ne_nil ys hne
                      exact (sizeOk_spec hsz q hq).symm.trans (hxx q hq).2.1
                    refine .list y _ _ b (off + l.toNat * sz') (c' - l.toNat) sz' (fun i j => cv (l.toNat + i) j) (by rw [hlen]; omega) (fun hne => ?_) (fun q hq => hxx q (List.mem_of_mem_drop (List.mem_of_mem_take hq))) (fun i q j p h1 h2 => ?_) (fun i q j p h1 h2 => hc _ q j p (key i q h1) h2)
                    · have hne' : ys ≠ [] := by rintro rfl; simp at hne
                      obtain ⟨a1, a2⟩ := hA hne'
                      have hlt : l.toNat < c' := by
                        rcases Nat.lt_or_ge l.toNat c' with h | h
                        · exact h
                        · exfalso; apply hne; apply List.eq_nil_of_length_eq_zero; rw [hlen]; omega
                      refine ⟨?_, a2⟩
                      rw [if_neg (by omega), a1, hss hne']
                      simp [add_none]
                    · rw [← hv (l.toNat + i) q j p (key i q h1) h2, Nat.add_mul]
                      congr 1; omega
              · cases hb2 : decide (h' ≤ 0) with
                | false => rw [hb2] at hr; simp at hr
                | true =>
                  rw [hb2] at hr; simp at hr; subst hr
                  have hb2 := of_decide_eq_true hb2
                  cases hx with
                  | nils A' =>
                    injection hvx with e1 e2 e3
                    subst e1 e3
                    have hl0 : l.toNat = 0 := by omega
                    have hh0 : h'.toNat = 0 := by omega
                    refine ⟨_, go (by omega), ?_⟩
                    rw [hl0, hh0]
                    exact .nils _
              · rename_i o ver i n
                cases ho : rd o with
                | none => rw [ho] at hr; simp at hr
                | some obj =>
                  rw [ho] at hr
                  cases obj with
                  | arr v' sz' ys =>
                    simp only at hr
                    cases hb2 : (decide ((i : Int) + h' ≤ (ys.length : Int)) && Nat.beq sz' (szOf P e)) with
                    | false => rw [hb2] at hr; simp at hr
                    | true =>
                      rw [hb2] at hr; simp at hr; subst hr
                      simp only [Bool.and_eq_true, decide_eq_true_eq] at hb2
                      obtain ⟨hb2, hsz⟩ := hb2
                      have hs' := hs
                      unfold rdSl at hs
                      simp only [ho] at hs
                      cases hb3 : (Nat.beq v' ver && Nat.ble (i + n) ys.length) with
                      | false => rw [hb3] at hs; simp at hs
                      | true =>
                        rw [hb3] at hs
                        simp only [cond_true, Option.some.injEq] at hs
                        simp only [Bool.and_eq_true] at hb3
                        have hxn : xs.length = n := by rw [← hs]; have := Nat.le_of_ble_eq_true hb3.2; simp; omega
                        cases hx with
                        | own _ _ _ _ loc A' m c' hl hf hv hA =>
                          injection hvx with q1 q2 q3
                          subst q1 q3
                          obtain ⟨hver, hm, _, hlen, _⟩ := own_cells h hrd hl hA ho (Nat.eq_of_beq_eq_true hb3.1) (Nat.le_of_ble_eq_true hb3.2)
                          obtain ⟨a1, a2, a3, a4⟩ := hA hver
                          have e2' := (h.objs o loc _ hl (hrd o _ ho)).2.2.1
                          refine ⟨_, go (by omega), .own o ver _ _ loc _ _ _ hl hf hv fun _ => ⟨rfl, by omega, by omega, fun hlt => ?_⟩⟩
                          have hsz' := (e2' (by omega)).1.trans (Nat.eq_of_beq_eq_true hsz)
                          rw [if_neg (by omega), a4 (by omega)]
                          simp [add_none, hsz', Nat.add_mul, Nat.add_assoc]
                  | _ => simp at hr
              · simp at hr
          · rename_i m l h' el eh
            cases hm : cond hi.isSome (asIdx m) none with
            | none => rw [hm] at hr; simp at hr
            | some mi =>
              rw [hm] at hr
              simp only at hr
              cases hb : (decide (0 ≤ l) && decide (l ≤ h') && decide (h' ≤ mi) && decide (mi ≤ (xs.length : Int))) with
              | false => rw [hb] at hr; simp at hr
              | true =>
                rw [hb] at hr; simp at hr; subst hr
                simp only [Bool.and_eq_true, decide_eq_true_eq] at hb
                have hm' : asIdx m = some mi := by cases hi <;> simp_all
                obtain ⟨k, rfl⟩ := asIdx_spec hm'
                rcases hmx with ⟨_, h2⟩ | ⟨u, q, rfl, h2, hu'⟩
                · simp at h2
                · simp at h2; subst h2
                  cases hu'
                  have hh : hi ≠ none := by rintro rfl; simp at hm
                  · have := run_bounds3 (P := P) (sl := true) (len := xs.length) (cap := c) (k := k) (m := mi) hlo hhi el eh hh hb.1.1.1 hb.1.1.2 hb.1.2 (by omega)
                    exact ⟨_, by simp [hvx, Instr.slice, run_underlying hu, this, run_sizeOf' hT]; rfl, .dead _⟩
          · simp at hr
    | _ => simp at hr
end
end Go.Bb

namespace Go.Bb
section
variable {P : Program} {w0 : World} {M0 : Nat → Nat → Prop} {k0 : Nat} {Y Z : Nat → Prop} {w : World} {L : Nat → Option Loc} {S : Nat → Option AObj} {rd : Rd}

theorem keyOk_check {t : TypeId} {k : PV} {vk : Value} {empty : Bool} {n : Nat} (hk : Rep w Z Y L vk k) (h : keyOk P t k = true) : (Instr.checkKey empty (n + 1) t vk).run P w = .ok () w := by
  unfold keyOk at h
  split at h <;> first | (simp at h; done) | skip
  all_goals
    rename_i hu
    cases hk
    simp [Instr.checkKey, run_underlying hu]

theorem sameK_now {t : TypeId} {d : TypeDesc} {k e : PV} {vk ve : Value} {b : Bool} (hd : P.underlying t = some d) (hk : Rep w Z Y L vk k) (he : Rep w Z Y L ve e) (ho : keyOk P t k = true)
    (h : sameK k e = some b) : Instr.sameNow d vk ve = some b := by
  unfold keyOk at ho
  rw [hd] at ho
  unfold sameK at h
  split at h
  · cases hk; cases he
    split at h
    · rename_i hjk
      subst hjk
      simp at h; subst h
      cases d <;> simp_all [Instr.sameNow]
    · simp at h
  · cases hk; cases he
    simp at h; subst h
    cases d <;> simp_all [Instr.sameNow]
  · cases hk; cases he
    simp at h; subst h
    cases d <;> simp_all [Instr.sameNow]
  · simp at h

theorem findP_now {t : TypeId} {d : TypeDesc} {k : PV} {vk : Value} (hd : P.underlying t = some d) (hk : Rep w Z Y L vk k) (ho : keyOk P t k = true) :
    ∀ (ks : List PV) (es : List MapEntry) (i : Nat) (r : Option Nat), es.length = ks.length →
      (∀ (j : Nat) (e : MapEntry) (q : PV), es[j]? = some e → ks[j]? = some q → Rep w Z Y L e.key q) → findP k ks i = some r →
      ∃ o, Instr.findNow d vk es i = some o ∧ (r = none → o = none) ∧ ∀ j, r = some j → i ≤ j ∧ ∃ e, es[j - i]? = some e ∧ o = some (j, e.val)
  | [], [], i, r, _, _, h => by
    simp [findP] at h; subst h
    exact ⟨none, rfl, fun _ => rfl, by simp⟩
  | [], _ :: _, i, r, hl, _, _ => by simp at hl
  | _ :: _, [], i, r, hl, _, _ => by simp at hl
  | q :: ks, e :: es, i, r, hl, hr, h => by
    unfold findP at h
    cases hs : sameK k q with
    | none => rw [hs] at h; simp at h
    | some b =>
      have hn := sameK_now hd hk (hr 0 e q rfl rfl) ho hs
      rw [hs] at h
      cases b with
      | true =>
        simp at h; subst h
        exact ⟨some (i, e.val), by simp [Instr.findNow, hn], by simp, fun j hj => by simp at hj; subst hj; exact ⟨Nat.le_refl _, e, by simp, rfl⟩⟩
      | false =>
        simp only at h
        obtain ⟨o, h1, h2, h3⟩ := findP_now hd hk ho ks es (i + 1) r (by simpa using hl) (fun j e' q' a b => hr (j + 1) e' q' (by simpa using a) (by simpa using b)) h
        refine ⟨o, by simp [Instr.findNow, hn, h1], h2, fun j hj => ?_⟩
        obtain ⟨a, e', b, c⟩ := h3 j hj
        refine ⟨by omega, e', ?_, c⟩
        rw [show j - i = (j - (i + 1)) + 1 from by omega]
        simpa using b

theorem find_sound {t : TypeId} {k : PV} {vk : Value} {ks : List PV} {es : Array MapEntry} {r : Option Nat} (hk : Rep w Z Y L vk k) (ho : keyOk P t k = true) (hl : es.size = ks.length)
    (hr : ∀ (j : Nat) (e : MapEntry) (q : PV), es[j]? = some e → ks[j]? = some q → Rep w Z Y L e.key q) (h : findP k ks 0 = some r) :
    ∃ o, (Instr.findKey t vk es.toList).run P w = .ok o w ∧ (r = none → o = none) ∧ ∀ j, r = some j → ∃ e, es[j]? = some e ∧ o = some (j, e.val) := by
  have hT : ∃ d, P.underlying t = some d := by
    unfold keyOk at ho
    cases hu : P.underlying t with
    | none => rw [hu] at ho; simp at ho
    | some d => exact ⟨d, rfl⟩
  obtain ⟨d, hd⟩ := hT
  obtain ⟨o, h1, h2, h3⟩ := findP_now hd hk ho ks es.toList 0 r (by simpa using hl) (fun j e q a b => hr j e q (by simpa using a) b) h
  refine ⟨o, by simp [Instr.findKey, run_underlying hd, h1], h2, fun j hj => ?_⟩
  obtain ⟨_, e, b, c⟩ := h3 j hj
  exact ⟨e, by simpa using b, c⟩

theorem mapOf_sound (h : Sim w0 M0 k0 Y Z w L S) (hrd : ∀ i obj, rd i = some obj → S i = some obj) {m : PV} {vm : Value} {ks vs : List PV} (hm : Rep w Z Y L vm m) (hr : mapOf rd m = some (ks, vs)) :
    ∃ b es clock, vm = .map (some b) ∧ w.heap[b]? = some (.map es clock) ∧ es.size = ks.length ∧ es.size = vs.length ∧
      (∀ (i : Nat) (e : MapEntry) (k : PV), es[i]? = some e → ks[i]? = some k → Rep w Z Y L e.key k) ∧
      (∀ (i : Nat) (e : MapEntry) (x : PV), es[i]? = some e → vs[i]? = some x → Rep w Z Y L e.val x) := by
  unfold mapOf at hr
  cases hm with
  | map o loc hl hf =>
    simp only at hr
    cases ho : rd o with
    | none => rw [ho] at hr; simp at hr
    | some obj =>
      rw [ho] at hr
      cases obj with
      | map ks' vs' =>
        simp at hr
        obtain ⟨rfl, rfl⟩ := hr
        obtain ⟨_, es, clock, h1, h2, h3, _, _, h6, h7⟩ := h.objs o loc _ hl (hrd o _ ho)
        exact ⟨loc.block, es, clock, rfl, h1, h2, h3, h6, h7⟩
      | _ => simp at hr
  | rom y ks' vs' r es clock hz hr' hk hn hf hkf h1 h2 =>
    simp at hr
    obtain ⟨rfl, rfl⟩ := hr
    exact ⟨r, es, clock, rfl, hr', hk, hn, h1, h2⟩
  | _ => simp at hr

theorem run_getObj_map {b : Nat} {es : Array MapEntry} {clock : Nat} (h : w.heap[b]? = some (.map es clock)) : (getObj b).run P w = .ok (.map es clock) w := by
  simp [getObj, Sem.run, h]

theorem lookup_sound (h : Sim w0 M0 k0 Y Z w L S) (hrd : ∀ i obj, rd i = some obj → S i = some obj) {t : TypeId} {m k r : PV} {ok : Bool} {vm vk : Value}
    (hm : Rep w Z Y L vm m) (hk : Rep w Z Y L vk k) (hr : aLookup P rd t m k ok = some r) : ∃ v, (Instr.lookup t vm vk ok).run P w = .ok v w ∧ Rep w Z Y L v r := by
  unfold aLookup at hr
  cases hu : P.underlying t with
  | none => rw [hu] at hr; simp at hr
  | some d =>
    rw [hu] at hr
    cases d with
    | map kt e =>
      simp only at hr
      cases hko : keyOk P kt k with
      | false => rw [hko] at hr; simp at hr
      | true =>
        rw [hko] at hr
        simp only [cond_true] at hr
        cases hmo : mapOf rd m with
        | none => rw [hmo] at hr; simp at hr
        | some p =>
          obtain ⟨ks, vs⟩ := p
          rw [hmo] at hr
          simp only at hr
          obtain ⟨b, es, clock, rfl, h1, h2, h3, h4, h5⟩ := mapOf_sound h hrd hm hmo
          have hck : ∀ em, (Instr.checkKey em 10000 kt vk).run P w = .ok () w := fun em => keyOk_check (n := 9999) hk hko
          cases hf : findP k ks 0 with
          | none => rw [hf] at hr; simp at hr
          | some fr =>
            rw [hf] at hr
            obtain ⟨o, f1, f2, f3⟩ := find_sound hk hko h2 h4 hf
            cases fr with
            | some i =>
              simp only at hr
              obtain ⟨en, g1, rfl⟩ := f3 i rfl
              cases hv : vs[i]? with
              | none => rw [hv] at hr; simp at hr
              | some q =>
                rw [hv] at hr; simp at hr; subst hr
                have rq := h5 i en q g1 hv
                refine ⟨if ok then .tuple #[en.val, .bool true] else en.val, by simp [Instr.lookup, run_underlying hu, run_getObj_map h1, hck, f1], ?_⟩
                cases ok with
                | false => exact rq
                | true =>
                  refine .tup _ _ rfl fun i c x a b => ?_
                  match i with
                  | 0 => simp at a b; subst a b; exact rq
                  | 1 => simp at a b; subst a b; exact .bool true
                  | i + 2 => simp at a
            | none =>
              simp only at hr
              cases hz : okCells (cellsOf (zeroP P e)) with
              | false => rw [hz] at hr; simp at hr
              | true =>
                rw [hz] at hr; simp at hr; subst hr
                obtain ⟨z, z1, z2⟩ := run_zeroValue' (P := P) hz w
                have := f2 rfl
                subst this
                have rz : Rep w Z Y L z (zeroP P e) := by rw [← z2]; exact .ofVal z
                refine ⟨if ok then .tuple #[z, .bool false] else z, by simp [Instr.lookup, run_underlying hu, run_getObj_map h1, hck, f1, z1], ?_⟩
                cases ok with
                | false => exact rz
                | true =>
                  refine .tup _ _ rfl fun i c x a b => ?_
                  match i with
                  | 0 => simp at a b; subst a b; exact rz
                  | 1 => simp at a b; subst a b; exact .bool false
                  | i + 2 => simp at a
    | _ => simp at hr

/-- A row of cells that another row is laid over. -/
def splice (cs : List Value) (off : Nat) (vs : List Value) : List Value := cs.take off ++ vs ++ cs.drop (off + vs.length)

theorem splice_get {α : Type} (cs vs : List α) (off : Nat) (h : off + vs.length ≤ cs.length) (j : Nat) :
    (cs.take off ++ vs ++ cs.drop (off + vs.length))[j]? = if off ≤ j ∧ j < off + vs.length then vs[j - off]? else cs[j]? := by
  have h1 : (cs.take off).length = off := by simp; omega
  rw [List.append_assoc]
  by_cases hj : j < off
  · rw [List.getElem?_append_left (by omega), List.getElem?_take_of_lt hj, if_neg (by omega)]
  · rw [List.getElem?_append_right (by omega), h1]
    by_cases hj2 : j - off < vs.length
    · rw [List.getElem?_append_left hj2, if_pos (by omega)]
    · rw [List.getElem?_append_right (by omega), List.getElem?_drop, if_neg (by omega)]
      congr 1; omega

theorem fold_set (off : Nat) : ∀ (vs : List Value) (i : Nat) (cs : Array Value), off + i + vs.length ≤ cs.size →
    ((vs.zipIdx i).foldl (fun (a : Array Value) (x : Value × Nat) => a.setIfInBounds (off + x.2) x.1) cs).toList = cs.toList.take (off + i) ++ vs ++ cs.toList.drop (off + i + vs.length)
  | [], i, cs, _ => by simp
  | v :: r, i, cs, h => by
    simp only [List.zipIdx_cons, List.foldl_cons, List.length_cons] at h ⊢
    rw [fold_set off r (i + 1) _ (by simp; omega)]
    apply List.ext_getElem?
    intro j
    rw [show off + (i + 1) = off + i + 1 from by omega]
    have e1 := splice_get (cs.toList.set (off + i) v) r (off + i + 1) (by simp; omega) j
    have e2 := splice_get cs.toList (v :: r) (off + i) (by simp; omega) j
    simp only [List.length_cons] at e2
    rw [Array.toList_setIfInBounds, e1, show off + i + (r.length + 1) = off + i + (r.length + 1) from rfl, e2]
    by_cases hj : j = off + i
    · subst hj
      have : off + i < cs.toList.length := by simp; omega
      rw [if_neg (by omega), if_pos (by omega)]
      rw [List.getElem?_set_self (by simpa using this)]; simp
    · by_cases hj2 : off + i + 1 ≤ j ∧ j < off + i + 1 + r.length
      · rw [if_pos hj2, if_pos (by omega)]
        rw [show j - (off + i) = (j - (off + i + 1)) + 1 from by omega]
        simp
      · rw [if_neg hj2, if_neg (by omega)]
        simp [Ne.symm hj]

theorem Reps.splice {cs vs : List Value} {ps qs : List PV} {off : Nat} (h1 : Reps w Z Y L cs ps) (h2 : Reps w Z Y L vs qs) (hle : off + qs.length ≤ ps.length) :
    Reps w Z Y L (cs.take off ++ vs ++ cs.drop (off + vs.length)) (ps.take off ++ qs ++ ps.drop (off + qs.length)) := by
  have e1 := splice_get cs vs off (by rw [h1.1, h2.1]; exact hle)
  have e2 := splice_get ps qs off hle
  refine ⟨by simp; rw [h1.1, h2.1], fun j c p a b => ?_⟩
  rw [e1] at a
  rw [e2] at b
  rw [h2.1] at a
  split at a
  · rename_i hj
    rw [if_pos hj] at b
    exact h2.2 _ c p a b
  · rename_i hj
    rw [if_neg hj] at b
    exact h1.2 _ c p a b

theorem putCells_spec {cs vs r : List PV} {off : Nat} (h : putCells cs off vs = some r) : off + vs.length ≤ cs.length ∧ r = cs.take off ++ vs ++ cs.drop (off + vs.length) := by
  unfold putCells at h
  cases hb : Nat.ble (off + vs.length) cs.length with
  | false => rw [hb] at h; simp at h
  | true => rw [hb] at h; simp only [cond_true, Option.some.injEq] at h; exact ⟨Nat.le_of_ble_eq_true hb, h.symm⟩

theorem fill_sound {place place' : Nat → Option (Nat × Nat)} (hp : ∀ i, place' i = place i) : ∀ (parts : List (Nat × PV)) (vparts : List (Nat × Value)) (cells : Array Value) (ps r : List PV),
    vparts.length = parts.length → (∀ (j : Nat) (a : Nat × Value) (b : Nat × PV), vparts[j]? = some a → parts[j]? = some b → a.1 = b.1 ∧ Rep w Z Y L a.2 b.2) →
    Reps w Z Y L cells.toList ps → fillP place ps parts = some r → ∃ cs, Instr.fill place' cells vparts = some cs ∧ Reps w Z Y L cs.toList r
  | [], [], cells, ps, r, _, _, hc, h => by simp [fillP] at h; subst h; exact ⟨cells, rfl, hc⟩
  | [], _ :: _, _, _, _, hl, _, _, _ => by simp at hl
  | _ :: _, [], _, _, _, hl, _, _, _ => by simp at hl
  | (i, q) :: parts, (i', v) :: vparts, cells, ps, r, hl, hr, hc, h => by
    obtain ⟨e1, e2⟩ := hr 0 (i', v) (i, q) rfl rfl
    simp only at e1 e2
    subst e1
    unfold fillP at h
    cases hpl : place i' with
    | none => rw [hpl] at h; simp at h
    | some os =>
      obtain ⟨off, size⟩ := os
      rw [hpl] at h
      simp only at h
      cases hb : (Nat.beq (cellsOf q).length size && okCells (cellsOf q)) with
      | false => rw [hb] at h; simp at h
      | true =>
        rw [hb] at h
        simp only [cond_true] at h
        rw [Bool.and_eq_true] at hb
        have hsz := Nat.eq_of_beq_eq_true hb.1
        have hcs := e2.cells hb.2
        cases hpc : putCells ps off (cellsOf q) with
        | none => rw [hpc] at h; simp at h
        | some ps' =>
          rw [hpc] at h
          simp only at h
          obtain ⟨hle, hps'⟩ := putCells_spec hpc
          have hvs : v.cells.size = size := by have := hcs.1; simp at this; omega
          have hcl : cells.size = ps.length := by have := hc.1; simpa using this
          have fs := fold_set off v.cells.toList 0 cells (by simp; omega)
          have hnew : Reps w Z Y L (v.cells.zipIdx.foldl (fun cs (x : Value × Nat) => cs.setIfInBounds (off + x.2) x.1) cells).toList ps' := by
            rw [← Array.foldl_toList, Array.toList_zipIdx, fs, hps']
            simp only [Nat.add_zero]
            exact hc.splice hcs hle
          obtain ⟨cs, g1, g2⟩ := fill_sound hp parts vparts _ ps' r (by simpa using hl) (fun j a b x y => hr (j + 1) a b (by simpa using x) (by simpa using y)) hnew h
          refine ⟨cs, ?_, g2⟩
          unfold Instr.fill
          rw [hp, hpl]
          simp only
          rw [if_neg (by simp; omega)]
          exact g1
end
end Go.Bb

namespace Go.Bb
section
variable {P : Program} {w0 : World} {M0 : Nat → Nat → Prop} {k0 : Nat} {Y Z : Nat → Prop} {w : World} {L : Nat → Option Loc} {S : Nat → Option AObj} {rd : Rd}

theorem run_mapM_pure {α β : Type} (f : α → Sem β) (g : α → β) : ∀ (l : List α), (∀ x ∈ l, ∀ w, (f x).run P w = .ok (g x) w) → ∀ w, (l.mapM f).run P w = .ok (l.map g) w
  | [], _, w => by simp
  | x :: r, h, w => by
    rw [List.mapM_cons]
    simp [h x (by simp) w, run_mapM_pure f g r (fun y hy => h y (by simp [hy])) w]

theorem run_mapM_arr {α β : Type} (f : α → Sem β) (g : α → β) (l : Array α) (h : ∀ x ∈ l.toList, ∀ w, (f x).run P w = .ok (g x) w) (w : World) : (l.mapM f).run P w = .ok (l.map g) w := by
  rw [Array.mapM_eq_mapM_toList]
  simp [run_mapM_pure f g l.toList h w]
  rw [← Array.toList_map, Array.toArray_toList]

theorem heap_new (w : World) (o : Obj) : (w.alloc o).heap[w.heap.size]? = some o := by
  show (w.heap.push o)[w.heap.size]? = _
  simp

/-- Parts of a literal, as they are and as they stand for. -/
def RepParts (w : World) (Z Y : Nat → Prop) (L : Nat → Option Loc) (vs : List (Nat × Value)) (ps : List (Nat × PV)) : Prop :=
  vs.length = ps.length ∧ ∀ (j : Nat) (a : Nat × Value) (b : Nat × PV), vs[j]? = some a → ps[j]? = some b → a.1 = b.1 ∧ Rep w Z Y L a.2 b.2

theorem zero_reps {t : TypeId} (h : okCells (cellsOf (zeroP P t)) = true) (w' : World) : ∃ v, (zeroValue t).run P w' = .ok v w' ∧ Rep w Z Y L v (zeroP P t) ∧ Reps w Z Y L v.cells.toList (cellsOf (zeroP P t)) := by
  obtain ⟨v, h1, h2⟩ := run_zeroValue' (P := P) h w'
  have hr : Rep w Z Y L v (zeroP P t) := by rw [← h2]; exact .ofVal v
  exact ⟨v, h1, hr, hr.cells h⟩

theorem build_sound {t : TypeId} {parts : List (Nat × PV)} {vparts : Array (Nat × Value)} {r : PV} (hp : RepParts w Z Y L vparts.toList parts) (hr : aBuild P t parts = some r) :
    ∃ v, (Instr.build t vparts).run P w = .ok v w ∧ Rep w Z Y L v r := by
  unfold aBuild at hr
  cases hz : okCells (cellsOf (zeroP P t)) with
  | false => rw [hz] at hr; simp at hr
  | true =>
    rw [hz] at hr
    simp only [cond_true] at hr
    obtain ⟨z, z1, z2, z3⟩ := zero_reps (P := P) (w := w) (Z := Z) (Y := Y) (L := L) hz w
    cases hu : P.underlying t with
    | none => rw [hu] at hr; simp at hr
    | some d =>
      rw [hu] at hr
      cases d with
      | struct fields =>
        simp only at hr
        cases ha : fields.toList.all (fun f => hasT P f.type) with
        | false => rw [ha] at hr; simp at hr
        | true =>
          rw [ha] at hr
          simp only [cond_true] at hr
          obtain ⟨cs, hf, rfl⟩ := Option.map_eq_some_iff.1 hr
          have hm := run_mapM_arr (P := P) (fun f : Field => (do pure (f.offset, ← sizeOf f.type) : Sem (Nat × Nat))) (fun f => (f.offset, szOf P f.type)) fields
            (fun x hx w' => by simp [run_sizeOf' (List.all_eq_true.1 ha x hx)]) w
          obtain ⟨ccs, g1, g2⟩ := fill_sound (place' := fun i => (fields.map fun f => (f.offset, szOf P f.type))[i]?) (fun i => by
            simp only [Array.getElem?_map, Array.getElem?_toList]
            cases fields[i]? <;> rfl) parts vparts.toList z.cells (cellsOf (zeroP P t)) cs hp.1 hp.2 z3 hf
          refine ⟨.agg ccs, ?_, .agg ccs cs (by have := g2.1; simpa using this) fun i c x a b => g2.2 i c x (by simpa using a) b⟩
          simp only [Instr.build, Sem.run_bind, z1, Result.andThen_ok, run_underlying hu, hm]
          rw [g1]; rfl
      | array n e =>
        simp only at hr
        cases ha : hasT P e with
        | false => rw [ha] at hr; simp at hr
        | true =>
          rw [ha] at hr
          simp only [cond_true] at hr
          obtain ⟨cs, hf, rfl⟩ := Option.map_eq_some_iff.1 hr
          obtain ⟨ccs, g1, g2⟩ := fill_sound (place' := fun i => some (i * szOf P e, szOf P e)) (fun i => rfl) parts vparts.toList z.cells (cellsOf (zeroP P t)) cs hp.1 hp.2 z3 hf
          refine ⟨.agg ccs, ?_, .agg ccs cs (by have := g2.1; simpa using this) fun i c x a b => g2.2 i c x (by simpa using a) b⟩
          simp only [Instr.build, Sem.run_bind, z1, Result.andThen_ok, run_underlying hu, run_sizeOf' ha]
          rw [g1]; rfl
      | _ => simp at hr

/-- A variable in a block of its own. -/
theorem var_new (h : Sim w0 M0 k0 Y Z w L S) {o : Nat} {x : PV} {cs : Array Value} {T : TypeId} (ho : L o = none) (hok : okCells (cellsOf x) = true) (hc : Reps w Z Y L cs.toList (cellsOf x)) :
    Post w0 M0 k0 Y Z w L S (w.alloc (.cells cs T)) (.pointer (some ⟨w.heap.size, 0, none⟩)) (.refv o 0) [(o, .var x)] := by
  obtain ⟨s, g⟩ := h.new (loc := ⟨w.heap.size, 0, 0, 0, 0, true⟩) (obj' := .var x) (ob := .cells cs T) (.inl ho) rfl (fun g => by
    refine ⟨rfl, hok, cs, T, heap_new .., fun j p hp => ?_⟩
    have hlt : j < cs.size := by have := (List.getElem?_eq_some_iff.1 hp).1; have := hc.1; simp at this; omega
    have hcs : cs.toList[j]? = some cs[j] := by simp [hlt]
    exact ⟨cs[j], by simp [hlt], (hc.2 j _ p hcs hp).mono g⟩)
  exact ⟨Z, _, s, g, fun _ hb => .inl hb, .refv o 0 ⟨w.heap.size, 0, 0, 0, 0, true⟩ (upd_same ..) rfl⟩

theorem Post.mono_rep {w' : World} {v u : Value} {p q : PV} {ws : Ws} (h : Post w0 M0 k0 Y Z w L S w' v p ws) (hr : Rep w Z Y L u q) : Post w0 M0 k0 Y Z w L S w' u q ws := by
  obtain ⟨Z', L', a, b, c, _⟩ := h
  exact ⟨Z', L', a, b, c, hr.mono b⟩

/-- An array in a block of its own. -/
theorem arr_new (h : Sim w0 M0 k0 Y Z w L S) {o ver sz cap : Nat} {xs : List PV} {C : Array Value} {T : TypeId}
    (ho : (L o = none) ∨ ∃ l, L o = some l ∧ l.fix = false ∧ l.ver < ver)
    (h0 : 0 < sz) (hC : cap * sz ≤ C.size) (hlen : xs.length ≤ cap) (hx : ∀ x ∈ xs, x.frz false = true ∧ (cellsOf x).length = sz ∧ okCells (cellsOf x) = true)
    (hc : ∀ (i : Nat) (x : PV) (j : Nat) (p : PV), xs[i]? = some x → (cellsOf x)[j]? = some p → ∃ c, C[i * sz + j]? = some c ∧ Rep w Z Y L c p) :
    Post w0 M0 k0 Y Z w L S (w.alloc (.cells C T)) (.slice (some ⟨w.heap.size, 0, none⟩) xs.length cap) (.own o ver 0 xs.length) [(o, .arr ver sz xs)] := by
  obtain ⟨s, g⟩ := h.new (loc := ⟨w.heap.size, 0, sz, cap, ver, false⟩) (obj' := .arr ver sz xs) (ob := .cells C T) (ho.imp id fun ⟨l, a, b, c⟩ => ⟨l, a, b, rfl, c⟩) rfl (fun g => by
    refine ⟨rfl, rfl, fun _ => ⟨rfl, h0⟩, hlen, hx, fun _ => ⟨C, T, heap_new .., by simpa using hC, fun i x j p a b => ?_⟩⟩
    obtain ⟨c, c1, c2⟩ := hc i x j p a b
    exact ⟨c, by simpa using c1, c2.mono g⟩)
  refine ⟨Z, _, s, g, fun _ hb => .inl hb, .own o ver 0 _ ⟨w.heap.size, 0, sz, cap, ver, false⟩ _ _ _ (upd_same ..) rfl (Nat.le_refl _) fun _ => ⟨rfl, by simpa using hlen, by simp, fun _ => by simp⟩⟩

theorem box_sound (h : Sim w0 M0 k0 Y Z w L S) {t : TypeId} {x : PV} {v : Value} {k : Nat} (hk : L k = none) (hx : Rep w Z Y L v x) (ho : okCells (cellsOf x) = true) :
    ∃ u w', (Instr.box t v).run P w = .ok u w' ∧ Post w0 M0 k0 Y Z w L S w' u (.refv k 0) [(k, .var x)] :=
  ⟨.pointer (some ⟨w.heap.size, 0, none⟩), w.alloc (.cells v.cells t), by simp [Instr.box, newVar, newRow, World.alloc_eq], var_new h hk ho (hx.cells ho)⟩

theorem makeMap_sound (h : Sim w0 M0 k0 Y Z w L S) {t : TypeId} {k : Nat} (hk : L k = none) :
    ∃ u w', (Instr.makeMap t none).run P w = .ok u w' ∧ Post w0 M0 k0 Y Z w L S w' u (.map k) [(k, .map [] [])] := by
  obtain ⟨s, g⟩ := h.new (loc := ⟨w.heap.size, 0, 0, 0, 0, true⟩) (obj' := .map [] []) (ob := .map #[] 0) (.inl hk) rfl (fun g => by
    refine ⟨rfl, #[], 0, heap_new .., rfl, rfl, by simp, by simp, by simp, by simp⟩)
  exact ⟨.map (some w.heap.size), w.alloc (.map #[] 0), by simp [Instr.makeMap, World.alloc_eq], Z, _, s, g, fun _ hb => .inl hb, .map k ⟨w.heap.size, 0, 0, 0, 0, true⟩ (upd_same ..) rfl⟩

theorem range_sound (h : Sim w0 M0 k0 Y Z w L S) {t : TypeId} {k : Nat} {s : ByteArray} (hk : L k = none) (hu : P.underlying t = some .string) :
    ∃ u w', (Instr.range t (.string s)).run P w = .ok u w' ∧ Post w0 M0 k0 Y Z w L S w' u (.iter k) [(k, .iter s 0)] := by
  obtain ⟨s', g⟩ := h.new (loc := ⟨w.heap.size, 0, 0, 0, 0, true⟩) (obj' := .iter s 0) (ob := .stringIter s 0) (.inl hk) rfl (fun g => ⟨rfl, heap_new ..⟩)
  exact ⟨.pointer (some ⟨w.heap.size, 0, none⟩), w.alloc (.stringIter s 0), by simp [Instr.range, run_underlying hu, World.alloc_eq], Z, _, s', g, fun _ hb => .inl hb, .iter k ⟨w.heap.size, 0, 0, 0, 0, true⟩ (upd_same ..) rfl⟩
end
end Go.Bb

namespace Go.Bb
section
variable {P : Program} {w0 : World} {M0 : Nat → Nat → Prop} {k0 : Nat} {Y Z : Nat → Prop} {w : World} {L : Nat → Option Loc} {S : Nat → Option AObj} {rd : Rd}

def flat : List PV → List PV
  | [] => []
  | x :: r => cellsOf x ++ flat r

theorem flat_append : ∀ (a b : List PV), flat (a ++ b) = flat a ++ flat b
  | [], b => rfl
  | x :: r, b => by simp [flat, flat_append r b]

theorem flat_length {sz : Nat} : ∀ {xs : List PV}, (∀ x ∈ xs, (cellsOf x).length = sz) → (flat xs).length = xs.length * sz
  | [], _ => by simp [flat]
  | x :: r, h => by
    simp only [flat, List.length_append, List.length_cons, h x (by simp), flat_length (xs := r) (fun y hy => h y (by simp [hy]))]
    rw [Nat.add_mul]; omega

theorem flat_get {sz : Nat} : ∀ {xs : List PV}, (∀ x ∈ xs, (cellsOf x).length = sz) → ∀ {i : Nat} {x : PV} {j : Nat}, xs[i]? = some x → j < sz → (flat xs)[i * sz + j]? = (cellsOf x)[j]?
  | [], _, i, x, j, h, _ => by simp at h
  | y :: r, h, 0, x, j, hx, hj => by
    simp at hx; subst hx
    simp only [flat, Nat.zero_mul, Nat.zero_add]
    rw [List.getElem?_append_left (by rw [h y (by simp)]; exact hj)]
  | y :: r, h, i + 1, x, j, hx, hj => by
    simp only [flat]
    rw [List.getElem?_append_right (by rw [h y (by simp), Nat.add_mul]; omega), h y (by simp)]
    rw [show (i + 1) * sz + j - sz = i * sz + j from by rw [Nat.add_mul]; omega]
    exact flat_get (fun z hz => h z (by simp [hz])) (by simpa using hx) hj

theorem flat_cells {t : Bool} : ∀ {xs : List PV}, (∀ x ∈ xs, okCells (cellsOf x) = true) → okCells (flat xs) = true
  | [], _ => rfl
  | x :: r, h => by
    rw [okCells_all]
    intro p hp
    simp only [flat, List.mem_append] at hp
    rcases hp with hp | hp
    · exact okCells_all.1 (h x (by simp)) p hp
    · exact okCells_all.1 (flat_cells (t := t) (fun y hy => h y (by simp [hy]))) p hp

/-- From a row's cells to the elements', and back. -/
theorem rowFlat {sz base : Nat} {xs : List PV} {f : Nat → Option Value} (hs : ∀ x ∈ xs, (cellsOf x).length = sz)
    (h : ∀ (k : Nat) (p : PV), (flat xs)[k]? = some p → ∃ c, f (base + k) = some c ∧ Rep w Z Y L c p) :
    ∀ (i : Nat) (x : PV) (j : Nat) (p : PV), xs[i]? = some x → (cellsOf x)[j]? = some p → ∃ c, f (base + i * sz + j) = some c ∧ Rep w Z Y L c p := by
  intro i x j p hx hp
  have hj : j < sz := by have := (List.getElem?_eq_some_iff.1 hp).1; rw [hs x (List.mem_of_getElem? hx)] at this; exact this
  rw [Nat.add_assoc]
  exact h _ p (by rw [flat_get hs hx hj]; exact hp)

theorem flatRow {sz base : Nat} {xs : List PV} {f : Nat → Option Value} (hs : ∀ x ∈ xs, (cellsOf x).length = sz)
    (h : ∀ (i : Nat) (x : PV) (j : Nat) (p : PV), xs[i]? = some x → (cellsOf x)[j]? = some p → ∃ c, f (base + i * sz + j) = some c ∧ Rep w Z Y L c p) :
    ∀ (k : Nat) (p : PV), (flat xs)[k]? = some p → ∃ c, f (base + k) = some c ∧ Rep w Z Y L c p := by
  intro k p hp
  have hlt := (List.getElem?_eq_some_iff.1 hp).1
  rw [flat_length hs] at hlt
  have hsz : 0 < sz := by
    rcases Nat.eq_zero_or_pos sz with h0 | h0
    · subst h0; simp at hlt
    · exact h0
  have hi : k / sz < xs.length := Nat.div_lt_of_lt_mul (by rw [Nat.mul_comm]; exact hlt)
  have hj : k % sz < sz := Nat.mod_lt _ hsz
  have hk : k / sz * sz + k % sz = k := by rw [Nat.mul_comm]; exact Nat.div_add_mod k sz
  have hx : xs[k / sz]? = some xs[k / sz] := List.getElem?_eq_getElem hi
  have e := flat_get hs hx hj
  rw [hk] at e
  rw [e] at hp
  have := h _ _ _ p hx hp
  rw [Nat.add_assoc, hk] at this
  exact this

theorem bytes_elem (s : ByteArray) : ∀ x ∈ bytesP s, x.frz false = true ∧ (cellsOf x).length = 1 ∧ okCells (cellsOf x) = true := by
  intro x hx
  simp only [bytesP, List.mem_map] at hx
  obtain ⟨b, _, rfl⟩ := hx
  exact ⟨rfl, rfl, rfl⟩

theorem flat_one : ∀ {xs : List PV}, (∀ x ∈ xs, cellsOf x = [x]) → flat xs = xs
  | [], _ => rfl
  | x :: r, h => by
    have ih : flat r = r := flat_one fun y hy => h y (List.mem_cons_of_mem _ hy)
    simp [flat, h x (by simp), ih]

theorem slCells_load {A : Option Addr} {xs : List PV} {sz m c : Nat} (h : SlCells w Z Y L A xs sz) :
    ∃ arr, (Builtin.firstCells sz xs.length (.slice A m c)).run P w = .ok arr w ∧ Reps w Z Y L arr.toList (flat xs) := by
  by_cases hne : xs = []
  · subst hne
    cases A with
    | none => exact ⟨#[], by simp [Builtin.firstCells], rfl, by simp⟩
    | some a =>
      have := run_loadCells (P := P) w a 0 (fun _ => undef) (by omega)
      exact ⟨#[], by simpa [Builtin.firstCells] using this, rfl, by simp⟩
  · obtain ⟨b, off, rfl, hc⟩ := h.2 hne
    have fr := flatRow (w := w) (Z := Z) (Y := Y) (L := L) (base := off) (f := cellAt w b) h.1 hc
    have hlen := flat_length h.1
    let f : Nat → Value := fun k => if hk : k < (flat xs).length then (fr k _ (List.getElem?_eq_getElem hk)).choose else undef
    have hf : ∀ k p, (flat xs)[k]? = some p → cellAt w b (off + k) = some (f k) ∧ Rep w Z Y L (f k) p := by
      intro k p hp
      have hk := (List.getElem?_eq_some_iff.1 hp).1
      have hp' : (flat xs)[k] = p := (List.getElem?_eq_some_iff.1 hp).2
      have := (fr k _ (List.getElem?_eq_getElem hk)).choose_spec
      simp only [f, hk, dif_pos]
      rw [← hp']; exact this
    have hl := run_loadCells (P := P) w ⟨b, off, none⟩ (xs.length * sz) f (fun j hj => by
      rw [add_none, cell?_cellAt]
      exact (hf j _ (List.getElem?_eq_getElem (by omega))).1)
    refine ⟨_, by simpa [Builtin.firstCells] using hl, by simp [hlen], fun j c p a b' => ?_⟩
    have hj : j < xs.length * sz := by have := (List.getElem?_eq_some_iff.1 b').1; omega
    simp [hj] at a
    rw [← a]; exact (hf j p b').2

/-- What is added: its length, its cells, all at rest. -/
theorem src_sound (h : Sim w0 M0 k0 Y Z w L S) (hrd : ∀ i obj, rd i = some obj → S i = some obj) {sz : Nat} {x : PV} {vx : Value} {ys : List PV}
    (hx : Rep w Z Y L vx x) (hr : srcOf rd sz x = some ys) (hs : sizeOk sz ys = true) (h0 : 0 < sz) :
    (Builtin.lenOf vx).run P w = .ok ys.length w ∧ (∃ arr, (Builtin.firstCells sz ys.length vx).run P w = .ok arr w ∧ Reps w Z Y L arr.toList (flat ys)) ∧
      ∀ y ∈ ys, y.frz false = true ∧ (cellsOf y).length = sz ∧ okCells (cellsOf y) = true := by
  have hsz := sizeOk_spec hs
  have fromSl : ∀ {A : Option Addr} {c sz' : Nat}, vx = .slice A ys.length c → SlCells w Z Y L A ys sz' →
      (Builtin.lenOf vx).run P w = .ok ys.length w ∧ (∃ arr, (Builtin.firstCells sz ys.length vx).run P w = .ok arr w ∧ Reps w Z Y L arr.toList (flat ys)) := by
    intro A c sz' hv hc
    have hc' : SlCells w Z Y L A ys sz := by
      by_cases hne : ys = []
      · subst hne; exact ⟨by simp, by simp⟩
      · obtain ⟨q, hq⟩ := List.exists_mem_of_ne_nil ys hne
        have : sz' = sz := (hc.1 q hq).symm.trans (hsz q hq)
        rw [← this]; exact hc
    rw [hv]
    exact ⟨by simp [Builtin.lenOf], slCells_load hc'⟩
  unfold srcOf at hr
  cases hx with
  | str s =>
    simp only at hr
    cases hb : Nat.beq sz 1 with
    | false => rw [hb] at hr; simp at hr
    | true =>
      rw [hb] at hr
      simp only [cond_true, Option.some.injEq] at hr
      have hz1 : sz = 1 := Nat.eq_of_beq_eq_true hb
      subst hr
      have hlen : (bytesP s).length = s.size := by simp [bytesP]
      refine ⟨by simp [Builtin.lenOf, hlen], ⟨(s.extract 0 s.size).data.map fun b => .int .u8 b.toNat, by simp [Builtin.firstCells, hlen], ?_⟩, fun y hy => by rw [hz1]; exact bytes_elem s y hy⟩
      have hfl : flat (bytesP s) = bytesP s := flat_one fun x hx => by
        simp only [bytesP, List.mem_map] at hx
        obtain ⟨b, _, rfl⟩ := hx; rfl
      rw [hfl]
      have hex : s.extract 0 s.size = s := by
        exact ByteArray.extract_zero_size
      rw [hex]
      refine ⟨by simp [bytesP], fun j c p a b => ?_⟩
      simp [bytesP] at a b
      obtain ⟨u, hu, rfl⟩ := a
      obtain ⟨u', hu', rfl⟩ := b
      rw [hu] at hu'
      simp at hu'; subst hu'
      exact .int _ _
  | own o ver i n loc A m c hl hf hv hA =>
    simp only at hr
    obtain ⟨A', c', sz', e1, _, e3⟩ := rdSl_sound h hrd (.own o ver i n loc A m c hl hf hv hA) hr
    obtain ⟨g1, g2⟩ := fromSl e1 e3
    refine ⟨g1, g2, fun y hy => ?_⟩
    unfold rdSl at hr
    simp only at hr
    cases ho : rd o with
    | none => rw [ho] at hr; simp at hr
    | some obj =>
      rw [ho] at hr
      cases obj with
      | arr v' sz2 zs =>
        simp only at hr
        cases hb : (Nat.beq v' ver && Nat.ble (i + n) zs.length) with
        | false => rw [hb] at hr; simp at hr
        | true =>
          rw [hb] at hr
          simp only [cond_true, Option.some.injEq] at hr
          have e4 := (h.objs o loc _ hl (hrd o _ ho)).2.2.2.2.1
          rw [← hr] at hy
          have := e4 y (List.mem_of_mem_drop (List.mem_of_mem_take hy))
          rw [hr] at hy
          exact ⟨this.1, hsz y hy, this.2.2⟩
      | _ => simp at hr
  | nils A =>
    simp at hr; subst hr
    exact ⟨by simp [Builtin.lenOf], slCells_load (m := 0) (c := 0) (A := A) (xs := []) (sz := sz) ⟨by simp, by simp⟩, by simp⟩
  | list y xs A b off c sz' cv hl hA hx hv hc =>
    have key : xs = ys ∧ ∀ e ∈ xs, e.frz false = true := by
      cases y with
      | false => simp at hr; exact ⟨hr, fun e he => (hx e he).1⟩
      | true =>
        simp only at hr
        cases hb : frzs false xs with
        | false => rw [hb] at hr; simp at hr
        | true => rw [hb] at hr; simp at hr; exact ⟨hr, fun e he => frzs_all.1 hb e he⟩
    obtain ⟨rfl, k2⟩ := key
    obtain ⟨g1, g2⟩ := fromSl (A := A) (c := c) (sz' := sz') rfl ⟨fun e he => (hx e he).2.1, fun hne => ⟨b, off, (hA hne).1, fun i e j p h1 h2 => ⟨cv i j, hv i e j p h1 h2, hc i e j p h1 h2⟩⟩⟩
    exact ⟨g1, g2, fun e he => ⟨k2 e he, hsz e he, (hx e he).2.2⟩⟩
  | _ => simp at hr
end
end Go.Bb

