/- The library's contract at this dump; what the listed variables hold. Law 14's arguments; its example. Eval, StackDepth, Check, Leaves and Equal against the reference. Trees: valid ones, their values and depths: plain. The other three laws. Composition; monotone values. A tree that conducts still conducts. Law 14's rows: what they have in common. -/
import Derived.Test.YtpififklhcfcnaaDoorB7
import Derived.Test.YtpififklhcfcnaaDoorRows
import Derived.Test.YtpififklhcfcnaaDoorTie
import Derived.Test.YtpififklhcfcnaaDoorCards
import Derived.Test.YtpififklhcfcnaaDoorB11
import Derived.ChangeSame
import Derived.ChangeVars
import Derived.JoinedOf
import Derived.RowKit
import Derived.SevenTiedAt
import Derived.Handed
import Derived.LaidMore
import Derived.ProofKit
namespace Go.Proofs
open Go.Shelf
def Tryd.laysJoin_ren : Go.Shelf.Ren := ⟨fun | 156 => 33 | 165 => 39 | 166 => 40 | 169 => 41 | 240 => 44 | 241 => 45 | 276 => 50 | 277 => 51 | n => n, fun | 31 => 66 | 9 => 9 | 3 => 3 | 4 => 4 | 0 => 0 | 20 => 20 | 72 => 73 | 76 => 77 | 70 => 70 | 37 => 71 | 75 => 76 | 127 => 82 | 164 => 89 | 5 => 5 | 80 => 79 | n => n, fun | n => n⟩
theorem Tryd.laysJoin : Go.Proofs.Lays.n156 Tryd.prog Tryd.laysJoin_ren := {
  mixed := by kernel_rfl
  f156 := Tryd.func33.trans (congrArg some (by kernel_rfl))
  f165 := Tryd.func39.trans (congrArg some (by kernel_rfl))
  f166 := Tryd.func40.trans (congrArg some (by kernel_rfl))
  f169 := Tryd.func41.trans (congrArg some (by kernel_rfl))
  f240 := Tryd.func44.trans (congrArg some (by kernel_rfl))
  f241 := Tryd.func45.trans (congrArg some (by kernel_rfl))
  f276 := Tryd.func50.trans (congrArg some (by kernel_rfl))
  f277 := Tryd.func51.trans (congrArg some (by kernel_rfl))
  t0 := Tryd.underlying0
  a0 := Tryd.isAgg0
  z0 := Tryd.sizeOf0
  v0 := Tryd.zeroValue0
  t3 := Tryd.underlying3
  a3 := Tryd.isAgg3
  z3 := Tryd.sizeOf3
  v3 := Tryd.zeroValue3
  t4 := Tryd.underlying4
  a4 := Tryd.isAgg4
  z4 := Tryd.sizeOf4
  v4 := Tryd.zeroValue4
  t9 := Tryd.underlying9
  a9 := Tryd.isAgg9
  z9 := Tryd.sizeOf9
  v9 := Tryd.zeroValue9
  t20 := Tryd.underlying20
  a20 := Tryd.isAgg20
  z20 := Tryd.sizeOf20
  v20 := Tryd.zeroValue20
  t31 := Tryd.underlying66
  a31 := Tryd.isAgg66
  z31 := Tryd.sizeOf66
  v31 := Tryd.zeroValue66
  t37 := Tryd.underlying71
  a37 := Tryd.isAgg71
  z37 := Tryd.sizeOf71
  v37 := Tryd.zeroValue71
  t70 := Tryd.underlying70
  a70 := Tryd.isAgg70
  z70 := Tryd.sizeOf70
  v70 := Tryd.zeroValue70
  t72 := Tryd.underlying73
  a72 := Tryd.isAgg73
  z72 := Tryd.sizeOf73
  v72 := Tryd.zeroValue73
  t75 := Tryd.underlying76
  a75 := Tryd.isAgg76
  z75 := Tryd.sizeOf76
  v75 := Tryd.zeroValue76
  t76 := Tryd.underlying77
  a76 := Tryd.isAgg77
  z76 := Tryd.sizeOf77
  v76 := Tryd.zeroValue77
  t127 := Tryd.underlying82
  a127 := Tryd.isAgg82
  z127 := Tryd.sizeOf82
  v127 := Tryd.zeroValue82
  t164 := Tryd.underlying89
  a164 := Tryd.isAgg89
  z164 := Tryd.sizeOf89
  v164 := Tryd.zeroValue89 }
theorem Tryd.joinExtra : Builder.Extra Tryd.prog Tryd.laysJoin_ren := {
  sizeBuilder := by kernel_rfl
  liesBuilder := by kernel_rfl
  t5 := Tryd.underlying5
  a5 := Tryd.isAgg5
  z5 := Tryd.sizeOf5
  v5 := Tryd.zeroValue5
  infoByte := by kernel_rfl
  cellsByte := by kernel_rfl
  sizeByte := by kernel_rfl
  neB5 := by decide }
end Go.Proofs
namespace Go.L14
open Go Go.Bb Go.Proofs Go.RowKit Go.ChangeShapes

theorem prim14 : PrimOk E14 := by
  intro f g hg args res σ' h
  have hf : f = 33 ∧ g = joinP := by
    have hg' : (cond (Nat.beq f 33) (some joinP) none) = some g := hg
    cases hb : Nat.beq f 33 with
    | false => rw [hb] at hg'; cases hg'
    | true => rw [hb] at hg'; exact ⟨Nat.eq_of_beq_eq_true hb, (Option.some.inj hg').symm⟩
  obtain ⟨rfl, rfl⟩ := hf
  refine ⟨⟨Tryd.f33, _, Tryd.func33, by kernel_rfl, rfl⟩, fun w M0 Y Z L vs sim _ hsz hr => ?_⟩
  exact joinP_calls Tryd.laysJoin Tryd.joinExtra h sim hsz hr

theorem plain65 : plainSet Tryd.prog [5, 64, 65] = true := by kernel_rfl
end Go.L14

namespace Go.L14
open Go Go.Bb

theorem alive9 : Has E14 9 [] [] (.bool true, []) := Has.of_run 200 (by kernel_rfl)

theorem ty_int {P : Program} {t : TypeId} {k : IntKind} {ys : List PV} (hu : P.underlying t = some (.int k)) (h : Ty P t ys) : ∃ n, ys = [.int k n] ∧ k.min ≤ n ∧ n ≤ k.max := by
  cases h with
  | int hu' n hw =>
    rw [hu] at hu'; injection hu' with hu'; injection hu' with hu'; subst hu'
    exact ⟨n, rfl, by simpa [Lit.wf] using hw⟩
  | bool hu' => rw [hu] at hu'; simp at hu'
  | str hu' => rw [hu] at hu'; simp at hu'
  | list hu' => rw [hu] at hu'; simp at hu'
  | struct hu' => rw [hu] at hu'; simp at hu'
  | array hu' => rw [hu] at hu'; simp at hu'
theorem ty_bool {P : Program} {t : TypeId} {ys : List PV} (hu : P.underlying t = some .bool) (h : Ty P t ys) : ∃ b, ys = [.bool b] := by
  cases h with
  | bool hu' b => exact ⟨b, rfl⟩
  | int hu' => rw [hu] at hu'; simp at hu'
  | str hu' => rw [hu] at hu'; simp at hu'
  | list hu' => rw [hu] at hu'; simp at hu'
  | struct hu' => rw [hu] at hu'; simp at hu'
  | array hu' => rw [hu] at hu'; simp at hu'
theorem ty_list {P : Program} {t e : TypeId} {ys : List PV} (hu : P.underlying t = some (.slice e)) (h : Ty P t ys) : ∃ xs, ys = [.list false xs] ∧ xs.length ≤ maxLen ∧ (∀ x ∈ xs, Ty P e (cellsOf x)) ∧ (∀ x ∈ xs, x = wrapT P e (cellsOf x)) := by
  cases h with
  | list hu' xs hl h hw =>
    rw [hu] at hu'; injection hu' with hu'; injection hu' with hu'; subst hu'
    exact ⟨xs, rfl, hl, h, hw⟩
  | int hu' => rw [hu] at hu'; simp at hu'
  | str hu' => rw [hu] at hu'; simp at hu'
  | bool hu' => rw [hu] at hu'; simp at hu'
  | struct hu' => rw [hu] at hu'; simp at hu'
  | array hu' => rw [hu] at hu'; simp at hu'
/-- A list of values that each come of something comes of a list. -/
theorem list_of {α : Type} (p : α → Prop) (en : α → PV) : ∀ (xs : List PV), (∀ x ∈ xs, ∃ a, p a ∧ x = en a) → ∃ l : List α, xs = l.map en ∧ ∀ a ∈ l, p a
  | [], _ => ⟨[], rfl, by simp⟩
  | x :: r, h => by
    obtain ⟨a, ha, he⟩ := h x (by simp)
    obtain ⟨l, hl, hp⟩ := list_of p en r fun x hx => h x (List.mem_cons_of_mem _ hx)
    refine ⟨a :: l, by rw [he, hl]; rfl, fun b hb => ?_⟩
    rcases List.mem_cons.1 hb with rfl | hb
    · exact ha
    · exact hp b hb
theorem ty_bools {P : Program} {t e : TypeId} {ys : List PV} (hu : P.underlying t = some (.slice e)) (he : P.underlying e = some .bool) (h : Ty P t ys) : ∃ on, ys = [.list false (bools on)] ∧ on.length ≤ maxLen := by
  obtain ⟨xs, rfl, hl, h1, h2⟩ := ty_list hu h
  obtain ⟨l, rfl, _⟩ := list_of (fun _ : Bool => True) .bool xs fun x hx => by
    obtain ⟨b, hb⟩ := ty_bool he (h1 x hx)
    have := h2 x hx
    rw [hb] at this
    refine ⟨b, trivial, ?_⟩
    rw [this]; simp [wrapT, aggT, he]
  exact ⟨l, rfl, by simpa using hl⟩

theorem encs_map : ∀ ks, encs ks = ks.map enc
  | [] => rfl
  | t :: r => by simp [encs, encs_map r]
theorem u3 : Go.Proofs.Tryd.prog.underlying 3 = some (.int .i64) := by kernel_rfl
theorem u4 : Go.Proofs.Tryd.prog.underlying 4 = some .bool := by kernel_rfl
theorem f24 : (Go.Proofs.Tryd.prog.underlying 24).map (fun d => match d with
  | .struct fs => fs.toList.map (·.type)
  | _ => []) = some [3, 3, 22] := by kernel_rfl
theorem a24 : aggT Go.Proofs.Tryd.prog 24 = true := by kernel_rfl

theorem ty_tree {t : TypeId} {ys : List PV} (h : Ty Go.Proofs.Tryd.prog t ys) : (t = 24 → ∃ x : T, x.ok ∧ enc x = .agg ys) ∧ (t = 22 → ∃ ks : List T, ks.length ≤ maxLen ∧ (∀ x ∈ ks, x.ok) ∧ ys = [.list false (encs ks)]) := by
  induction h with
  | list hu xs hl h hw ih =>
    refine ⟨fun ht => ?_, fun ht => ?_⟩
    · subst ht; have := f24; rw [hu] at this; simp at this
    · subst ht
      rw [u22] at hu; injection hu with hu; injection hu with hu; subst hu
      obtain ⟨l, rfl, hp⟩ := list_of (fun x : T => x.ok) enc xs fun x hx => by
        obtain ⟨a, ha, he⟩ := (ih x hx).1 rfl
        refine ⟨a, ha, ?_⟩
        have := hw x hx
        rw [this, he]; simp [wrapT, a24]
      exact ⟨l, by simpa using hl, hp, by rw [encs_map]⟩
  | struct hu yss ys he hl h ih =>
    refine ⟨fun ht => ?_, fun ht => ?_⟩
    · subst ht
      rename_i fs
      have h3 := f24
      rw [hu] at h3
      simp only [Option.map_some, Option.some.injEq] at h3
      have hs : fs.size = 3 := by have := congrArg List.length h3; simpa using this
      rw [hs] at hl
      obtain ⟨a, b, c, rfl⟩ : ∃ a b c, yss = [a, b, c] := by
        match yss, hl with
        | [a, b, c], _ => exact ⟨a, b, c, rfl⟩
      have fld : ∀ (i : Nat) (t : TypeId), [3, 3, 22][i]? = some t → ∃ f, fs[i]? = some f ∧ f.type = t := fun i t hi => by
        rw [← h3, List.getElem?_map] at hi
        obtain ⟨f, e1, e2⟩ := Option.map_eq_some_iff.1 hi
        exact ⟨f, by simpa using e1, e2⟩
      obtain ⟨f0, g0, e0⟩ := fld 0 3 rfl
      obtain ⟨f1, g1, e1⟩ := fld 1 3 rfl
      obtain ⟨f2, g2, e2⟩ := fld 2 22 rfl
      obtain ⟨k, rfl, hk⟩ := ty_int (e0 ▸ u3) (h 0 f0 a g0 rfl)
      obtain ⟨n, rfl, hn⟩ := ty_int (e1 ▸ u3) (h 1 f1 b g1 rfl)
      obtain ⟨ks, q1, q2, rfl⟩ := (ih 2 f2 c g2 rfl).2 e2
      refine ⟨.mk k n ks, ?_, by rw [he]; rfl⟩
      unfold T.ok
      exact ⟨hk, hn, q1, q2⟩
    · subst ht; rw [u22] at hu; simp at hu
  | bool hu => exact ⟨fun ht => by subst ht; have := f24; rw [hu] at this; simp at this, fun ht => by subst ht; rw [u22] at hu; simp at hu⟩
  | int hu => exact ⟨fun ht => by subst ht; have := f24; rw [hu] at this; simp at this, fun ht => by subst ht; rw [u22] at hu; simp at hu⟩
  | str hu => exact ⟨fun ht => by subst ht; have := f24; rw [hu] at this; simp at this, fun ht => by subst ht; rw [u22] at hu; simp at hu⟩
  | array hu => exact ⟨fun ht => by subst ht; have := f24; rw [hu] at this; simp at this, fun ht => by subst ht; rw [u22] at hu; simp at hu⟩

theorem arg_tree {x : PV} (h : Ty Go.Proofs.Tryd.prog 24 (cellsOf x)) (hw : x = wrapT Go.Proofs.Tryd.prog 24 (cellsOf x)) : ∃ t : T, t.ok ∧ x = enc t := by
  obtain ⟨t, h1, h2⟩ := (ty_tree h).1 rfl
  exact ⟨t, h1, by rw [h2, hw]; simp [wrapT, a24, cellsOf]⟩
theorem arg_bools {x : PV} (h : Ty Go.Proofs.Tryd.prog 25 (cellsOf x)) (hw : x = wrapT Go.Proofs.Tryd.prog 25 (cellsOf x)) : ∃ on, on.length ≤ maxLen ∧ x = .list false (bools on) := by
  obtain ⟨on, h1, h2⟩ := ty_bools u25 u4 h
  exact ⟨on, h2, by rw [hw, h1]; simp [wrapT, aggT, u25]⟩
theorem arg_int {x : PV} {t : TypeId} {k : IntKind} (hu : Go.Proofs.Tryd.prog.underlying t = some (.int k)) (h : Ty Go.Proofs.Tryd.prog t (cellsOf x)) (hw : x = wrapT Go.Proofs.Tryd.prog t (cellsOf x)) : ∃ n, (k.min ≤ n ∧ n ≤ k.max) ∧ x = .int k n := by
  obtain ⟨n, h1, h2⟩ := ty_int hu h
  exact ⟨n, h2, by rw [hw, h1]; simp [wrapT, aggT, hu]⟩
theorem arg_bool {x : PV} (h : Ty Go.Proofs.Tryd.prog 4 (cellsOf x)) (hw : x = wrapT Go.Proofs.Tryd.prog 4 (cellsOf x)) : ∃ b, x = .bool b := by
  obtain ⟨b, h1⟩ := ty_bool u4 h
  exact ⟨b, by rw [hw, h1]; simp [wrapT, aggT, u4]⟩
end Go.L14

namespace Go.L14
open Go Go.Bb

theorem big8 (t : T) (h : W t 0 > 1000) : (if W t 0 > 1000 then (1 : Int) else 0) = 1 := if_pos h
theorem small8 (t : T) (h : ¬ W t 0 > 1000) : (if W t 0 > 1000 then (1 : Int) else 0) = 0 := if_neg h
theorem sz_of_W {t : T} (h : ¬ W t 0 > 1000) : sz t ≤ 1000 := by
  have := W_sz t 0 (by omega)
  omega
theorem bools_length (l : List Bool) : ((List.length (bools l) : Nat) : Int) = l.length := by simp [bools]

theorem law3 (t : T) (hok : t.ok) (y : Bool) (on : List Bool) : Has E14 3 [enc t, .list y (bools on)] [] (.bool true, []) := by
  have h8 := tooLarge8 t hok
  have h9 := alive9
  have hbl := bools_length on
  by_cases hW : W t 0 > 1000
  · rw [big8 t hW] at h8
    refine Ev.succ ((h8.and h9).mono fun m hm => ?_)
    obtain ⟨k, n, ks⟩ := t
    exact tfun_sound (f3_1 (pcall E14 m) m k n (encs ks) y (bools on) 1 true) ⟨⟨⟨trivial, hm.1⟩, rfl⟩, hm.2⟩
  · rw [small8 t hW] at h8
    have hs := sz_of_W hW
    by_cases hon : on.length > 1000
    · refine Ev.succ ((h8.and h9).mono fun m hm => ?_)
      obtain ⟨k, n, ks⟩ := t
      exact tfun_sound (f3_2 (pcall E14 m) m k n (encs ks) y (bools on) 0 true) ⟨⟨⟨⟨trivial, hm.1⟩, rfl⟩, by rw [hbl]; simp; omega⟩, hm.2⟩
    · have q3 : decide ((List.length (bools on) : Int) > 1000) = false := by rw [hbl]; exact decide_eq_false (by omega)
      have h10 := eval10 y on t hok
      have h11 := depth11 y on t hok (by omega)
      have h12 := of12 t hok (by omega)
      have h13 := check13 t hok (by omega)
      by_cases h0 : Chk t on.length = 0
      · have h14 := reval y on t hok (Chk_fits h0)
        have h15 := rdepth y on t hok (by omega) (Chk_fits h0) (Chk_two h0)
        refine Ev.succ (((((((h8.and h9).and h10).and h11).and h12).and h13).and (h14.and h15)).mono fun m hm => ?_)
        obtain ⟨⟨⟨⟨⟨⟨m8, m9⟩, m10⟩, m11⟩, m12⟩, m13⟩, m14, m15⟩ := hm
        have m13 := m13 on.length
        rw [if_pos h0] at m10 m11
        rw [h0] at m10 m11 m13
        rw [← hbl] at m13
        obtain ⟨k, n, ks⟩ := t
        have := tfun_sound (f3_4 (pcall E14 m) m k n (encs ks) y (bools on) 0 (V on (.mk k n ks)) 0 (D on (.mk k n ks)) 0 k n (encs ks) 0 true (V on (.mk k n ks)) (D on (.mk k n ks)))
          ⟨⟨⟨⟨⟨⟨⟨⟨⟨⟨⟨⟨⟨⟨⟨trivial, m8⟩, rfl⟩, q3⟩, m10⟩, m11⟩, m12⟩, m13⟩, rfl⟩, m9⟩, rfl⟩, rfl⟩, rfl⟩, m14⟩, by simp⟩, m15⟩
        refine Eq.trans this ?_
        simp
      · refine Ev.succ ((((((h8.and h9).and h10).and h11).and h12).and h13).mono fun m hm => ?_)
        obtain ⟨⟨⟨⟨⟨m8, m9⟩, m10⟩, m11⟩, m12⟩, m13⟩ := hm
        have m13 := m13 on.length
        rw [if_neg h0] at m10 m11
        rw [← hbl] at m13
        obtain ⟨k, n, ks⟩ := t
        have := tfun_sound (f3_3 (pcall E14 m) m k n (encs ks) y (bools on) 0 false (Chk (.mk k n ks) on.length) 0 (Chk (.mk k n ks) on.length) k n (encs ks) (Chk (.mk k n ks) (List.length (bools on))) true)
          ⟨⟨⟨⟨⟨⟨⟨⟨⟨⟨⟨⟨⟨trivial, m8⟩, rfl⟩, q3⟩, m10⟩, m11⟩, m12⟩, m13⟩, by rw [hbl]; simpa using h0⟩, m9⟩, rfl⟩, rfl⟩, rfl⟩, by rw [hbl]; simp⟩
        refine Eq.trans this ?_
        rw [hbl]; simp

theorem law7 (t u : T) (hok : t.ok) (huk : u.ok) (many : Int) : Has E14 7 [enc t, enc u, .int .i64 many] [] (.bool true, []) := by
  have h8 := tooLarge8 t hok
  have g8 := tooLarge8 u huk
  have h9 := alive9
  by_cases hW : W t 0 > 1000
  · rw [big8 t hW] at h8
    refine Ev.succ ((h8.and h9).mono fun m hm => ?_)
    obtain ⟨k, n, ks⟩ := t
    obtain ⟨k2, n2, ks2⟩ := u
    exact tfun_sound (f7_1 (pcall E14 m) m k n (encs ks) k2 n2 (encs ks2) many 1 true) ⟨⟨⟨trivial, hm.1⟩, rfl⟩, hm.2⟩
  · rw [small8 t hW] at h8
    have hs := sz_of_W hW
    by_cases gW : W u 0 > 1000
    · rw [big8 u gW] at g8
      refine Ev.succ (((h8.and g8).and h9).mono fun m hm => ?_)
      obtain ⟨k, n, ks⟩ := t
      obtain ⟨k2, n2, ks2⟩ := u
      exact tfun_sound (f7_2 (pcall E14 m) m k n (encs ks) k2 n2 (encs ks2) many 0 1 true) ⟨⟨⟨⟨⟨trivial, hm.1.1⟩, rfl⟩, hm.1.2⟩, rfl⟩, hm.2⟩
    · rw [small8 u gW] at g8
      have gs := sz_of_W gW
      have h12 := of12 t hok (by omega)
      have g12 := of12 u huk (by omega)
      have h16 := check16_ev t hok
      have h13 := check13 t hok (by omega)
      have h20 := leaves20 t hok (by omega)
      have h21 := leaves21 t hok (by omega)
      have hlv := Lv_sz t
      have h19 := equal19 false false (Lv t) (by unfold maxLen; omega)
      have h22 := equal22 t hok u
      have h23 := equal23 t hok u
      have hself := equal22 t hok t
      rw [TE_refl] at hself
      refine Ev.succ ((((((h8.and g8).and h9).and (h12.and g12)).and (h16.and h13)).and ((h20.and h21).and h19)).and ((h22.and h23).and hself) |>.mono fun m hm => ?_)
      obtain ⟨⟨⟨⟨⟨⟨m8, n8⟩, m9⟩, m12, n12⟩, m16, m13⟩, ⟨m20, m21⟩, m19⟩, ⟨m22, m23⟩, ms⟩ := hm
      have m16 := m16 many
      have m13 := m13 many
      obtain ⟨k, n, ks⟩ := t
      obtain ⟨k2, n2, ks2⟩ := u
      exact tfun_sound (f7_3 (pcall E14 m) m k n (encs ks) k2 n2 (encs ks2) many 0 0 k n (encs ks) k2 n2 (encs ks2) true _ _ _ _ true _ _ true)
        ⟨⟨⟨⟨⟨⟨⟨⟨⟨⟨⟨⟨⟨⟨⟨⟨⟨⟨⟨trivial, m8⟩, rfl⟩, n8⟩, rfl⟩, m12⟩, n12⟩, m9⟩, rfl⟩, m16⟩, m13⟩, by simp⟩, m20⟩, m21⟩, m19⟩, rfl⟩, m22⟩, m23⟩, by simp⟩, ms⟩
end Go.L14

namespace Go.L14
open Go Go.Bb

mutual
/-- The shape of a valid tree over 'many' contacts. -/
def Sh (many : Int) : T → Prop
  | .mk k n ks => if k = 0 then 0 ≤ n ∧ n < many ∧ ks = [] else (k = 1 ∨ k = 2) ∧ n = 0 ∧ 2 ≤ ks.length ∧ ks.any (fun t => t.kind == k) = false ∧ Shs many ks
def Shs (many : Int) : List T → Prop
  | [] => True
  | t :: r => Sh many t ∧ Shs many r
end
theorem Shs_iff {many : Int} : ∀ {ks : List T}, Shs many ks ↔ ∀ t ∈ ks, Sh many t
  | [] => by simp [Shs]
  | t :: r => by simp [Shs, Shs_iff (ks := r)]

mutual
theorem C_fwd (many : Int) : ∀ (t : T) (seen : List Int), (C t many seen).1 = 0 → Sh many t ∧ (C t many seen).2 = seen ++ Lv t ∧ (seen.Nodup → (seen ++ Lv t).Nodup)
  | .mk k n ks, seen, h => by
    unfold C at h ⊢
    unfold Sh Lv
    split at h
    · simp at h
    · rename_i h8
      rw [if_neg h8]
      split at h
      · rename_i hk
        rw [if_pos hk, if_pos hk, if_pos hk]
        split at h
        · simp at h
        · rename_i h1
          rw [if_neg h1]
          split at h
          · simp at h
          · rename_i h2
            rw [if_neg h2]
            split at h
            · simp at h
            · rename_i h3
              rw [if_neg h3]
              refine ⟨⟨by omega, by omega, ?_⟩, rfl, fun hn => ?_⟩
              · cases ks with
                | nil => rfl
                | cons a r => simp at h1
              · rw [List.nodup_append]
                refine ⟨hn, by simp, fun a ha b hb => ?_⟩
                simp at hb; subst hb
                rintro rfl; exact h3 ha
      · rename_i hk
        rw [if_neg hk, if_neg hk, if_neg hk]
        split at h
        · simp at h
        · rename_i h2
          rw [if_neg h2]
          split at h
          · simp at h
          · rename_i h3
            rw [if_neg h3]
            split at h
            · simp at h
            · rename_i h4
              rw [if_neg h4, if_pos (by omega : k = 1 ∨ k = 2)]
              obtain ⟨a, b, c⟩ := Cs_fwd many ks seen h
              exact ⟨⟨by omega, by omega, by omega, by simpa using h4, a⟩, b, c⟩
theorem Cs_fwd (many : Int) : ∀ (ks : List T) (seen : List Int), (Cs ks many seen).1 = 0 → Shs many ks ∧ (Cs ks many seen).2 = seen ++ Lvs ks ∧ (seen.Nodup → (seen ++ Lvs ks).Nodup)
  | [], seen, _ => by simp [Shs, Cs, Lvs]
  | t :: r, seen, h => by
    by_cases h0 : (C t many seen).1 = 0
    · rw [Cs_cons0 h0] at h ⊢
      obtain ⟨a1, a2, a3⟩ := C_fwd many t seen h0
      obtain ⟨b1, b2, b3⟩ := Cs_fwd many r _ h
      rw [a2] at b2 b3
      rw [a2]
      unfold Shs Lvs
      rw [← List.append_assoc]
      exact ⟨⟨a1, b1⟩, b2, fun hn => b3 (a3 hn)⟩
    · rw [Cs_cons1 h0] at h
      exact absurd h h0
end
mutual
theorem C_bwd (many : Int) : ∀ (t : T) (seen : List Int), Sh many t → (seen ++ Lv t).Nodup → C t many seen = (0, seen ++ Lv t)
  | .mk k n ks, seen, h, hn => by
    unfold Sh at h
    unfold Lv at hn ⊢
    unfold C
    by_cases hk : k = 0
    · rw [if_pos hk] at h hn ⊢
      obtain ⟨h1, h2, rfl⟩ := h
      rw [List.nodup_append] at hn
      have h3 : n ∉ seen := fun hm => hn.2.2 n hm n (by simp) rfl
      rw [if_neg (by omega), if_pos hk, if_neg (by simp), if_neg (by omega), if_neg h3]
    · rw [if_neg hk] at h hn ⊢
      obtain ⟨h1, h2, h3, h4, h5⟩ := h
      rw [if_pos h1] at hn ⊢
      rw [if_neg (by omega), if_neg hk, if_neg (by omega), if_neg (by omega), if_neg (by rw [h4]; simp)]
      exact Cs_bwd many ks seen h5 hn
theorem Cs_bwd (many : Int) : ∀ (ks : List T) (seen : List Int), Shs many ks → (seen ++ Lvs ks).Nodup → Cs ks many seen = (0, seen ++ Lvs ks)
  | [], seen, _, _ => by simp [Cs, Lvs]
  | t :: r, seen, h, hn => by
    unfold Shs at h
    unfold Lvs at hn ⊢
    rw [← List.append_assoc] at hn ⊢
    have h1 := C_bwd many t seen h.1 (List.nodup_append.1 hn).1
    rw [Cs_cons0 (by rw [h1]), h1]
    exact Cs_bwd many r _ h.2 hn
end
/-- What Check's zero says. -/
theorem Chk_iff {t : T} {N : Nat} : Chk t N = 0 ↔ Sh N t ∧ (Lv t).Nodup ∧ (Lv t).length = N := by
  unfold Chk
  constructor
  · intro h
    split at h
    · rename_i h0
      obtain ⟨a, b, c⟩ := C_fwd N t [] h0
      rw [b] at h
      split at h
      · simp at h
      · rename_i h4
        simp at h4 b c
        exact ⟨a, c, by omega⟩
    · rename_i h0; exact absurd h h0
  · rintro ⟨a, b, c⟩
    have := C_bwd N t [] a (by simpa using b)
    rw [this]
    simp [c]

theorem Sh_fits {many : Int} : ∀ {t : T}, Sh many t → t.fits many
  | .mk k n ks, h => by
    unfold Sh at h
    unfold T.fits
    by_cases hk : k = 0
    · rw [if_pos hk] at h ⊢; exact ⟨⟨h.1, h.2.1⟩, h.2.2⟩
    · rw [if_neg hk] at h ⊢
      exact ⟨h.1, fun t ht => Sh_fits (Shs_iff.1 h.2.2.2.2 t ht)⟩

theorem Vall_app (on : List Bool) : ∀ a b, Vall on (a ++ b) = (Vall on a && Vall on b)
  | [], b => by simp [Vall]
  | t :: r, b => by simp [Vall, Vall_app on r b, Bool.and_assoc]
theorem Vany_app (on : List Bool) : ∀ a b, Vany on (a ++ b) = (Vany on a || Vany on b)
  | [], b => by simp [Vany]
  | t :: r, b => by simp [Vany, Vany_app on r b, Bool.or_assoc]

/- Values. -/
def le (a b : List Bool) : Prop := a.length = b.length ∧ ∀ i, a.getD i false = true → b.getD i false = true
theorem on1_le {a b : List Bool} (h : le a b) (n : Int) : on1 a n = true → on1 b n = true := h.2 n.toNat
mutual
theorem V_mono {a b : List Bool} (h : le a b) : ∀ t, V a t = true → V b t = true
  | .mk k n ks, hv => by
    unfold V at hv ⊢
    split
    · rename_i hk; rw [if_pos hk] at hv; exact Vall_mono h ks hv
    · rename_i hk
      rw [if_neg hk] at hv
      split
      · rename_i h2; rw [if_pos h2] at hv; exact Vany_mono h ks hv
      · rename_i h2; rw [if_neg h2] at hv; exact on1_le h n hv
theorem Vall_mono {a b : List Bool} (h : le a b) : ∀ ks, Vall a ks = true → Vall b ks = true
  | [], _ => rfl
  | t :: r, hv => by
    unfold Vall at hv ⊢
    simp only [Bool.and_eq_true] at hv ⊢
    exact ⟨V_mono h t hv.1, Vall_mono h r hv.2⟩
theorem Vany_mono {a b : List Bool} (h : le a b) : ∀ ks, Vany a ks = true → Vany b ks = true
  | [], hv => hv
  | t :: r, hv => by
    unfold Vany at hv ⊢
    simp only [Bool.or_eq_true] at hv ⊢
    exact hv.imp (V_mono h t) (Vany_mono h r)
end
def falses (N : Nat) : List Bool := List.replicate N false
def ones (N : Nat) : List Bool := List.replicate N true
theorem getD_rep (N i : Nat) (b : Bool) : (List.replicate N b).getD i false = (decide (i < N) && b) := by
  rw [List.getD_eq_getElem?_getD, List.getElem?_replicate]
  split <;> rename_i h <;> simp [h]
theorem le_falses (on : List Bool) : le (falses on.length) on := ⟨by simp [falses], fun i h => by rw [falses, getD_rep] at h; simp at h⟩
theorem le_ones (on : List Bool) : le on (ones on.length) := ⟨by simp [ones], fun i h => by
  rw [ones, getD_rep]
  by_cases hi : i < on.length
  · simp [hi]
  · rw [List.getD_eq_getElem?_getD, List.getElem?_eq_none (by omega)] at h; cases h⟩
theorem V_falses {N : Nat} : ∀ {t : T}, Sh N t → V (falses N) t = false
  | .mk k n ks, h => by
    unfold Sh at h
    unfold V
    by_cases hk : k = 0
    · rw [if_neg (by omega), if_neg (by omega)]; unfold on1 falses; rw [getD_rep]; simp
    · rw [if_neg hk] at h
      obtain ⟨h1, h2, h3, h4, h5⟩ := h
      have hs := Shs_iff.1 h5
      have kids : ∀ t ∈ ks, V (falses N) t = false := fun t ht => V_falses (hs t ht)
      split
      · rw [Vall_eq]
        cases ks with
        | nil => simp at h3
        | cons a r => simp [kids a (by simp)]
      · rw [if_pos (by omega), Vany_eq]
        simpa using kids
theorem V_ones {N : Nat} : ∀ {t : T}, Sh N t → V (ones N) t = true
  | .mk k n ks, h => by
    unfold Sh at h
    unfold V
    by_cases hk : k = 0
    · rw [if_pos hk] at h
      rw [if_neg (by omega), if_neg (by omega)]; unfold on1 ones; rw [getD_rep]; simp; omega
    · rw [if_neg hk] at h
      obtain ⟨h1, h2, h3, h4, h5⟩ := h
      have hs := Shs_iff.1 h5
      have kids : ∀ t ∈ ks, V (ones N) t = true := fun t ht => V_ones (hs t ht)
      split
      · rw [Vall_eq]
        simpa using kids
      · rw [if_pos (by omega), Vany_eq]
        cases ks with
        | nil => simp at h3
        | cons a r => simp [kids a (by simp)]

/- Depths. -/
mutual
theorem D_mono {a b : List Bool} (h : le a b) : ∀ t, D a t ≤ D b t
  | .mk _ _ ks => by unfold D; exact Ds_mono h ks true 0 0 (by omega)
theorem Ds_mono {a b : List Bool} (h : le a b) : ∀ (ks : List T) (f : Bool) (d e : Int), d ≤ e → Ds a ks f d ≤ Ds b ks f e
  | [], _, d, e, hd => by unfold Ds; exact hd
  | .mk k n ls :: r, f, d, e, hd => by
    have h1 := D_mono h (.mk k n ls)
    unfold Ds
    split
    · exact Ds_mono h r false _ _ h1
    · by_cases hb : k ≠ 0 ∨ on1 b n = true
      · rw [if_pos hb]
        split
        · exact Ds_mono h r false _ _ (by omega)
        · exact Ds_mono h r false _ _ (by omega)
      · rw [if_neg hb, if_neg (fun hx => hb (hx.imp_right (on1_le h n)))]
        exact Ds_mono h r false _ _ hd
end
theorem Ds_ge (on : List Bool) : ∀ (ks : List T) (d : Int), d ≤ Ds on ks false d
  | [], d => by simp [Ds]
  | .mk k n ls :: r, d => by
    unfold Ds
    simp only [Bool.false_eq_true, if_false]
    split
    · have := Ds_ge on r (max d (1 + D on (.mk k n ls))); omega
    · exact Ds_ge on r d
mutual
/-- All edges: at most one deeper than none. -/
theorem D_one (N : Nat) : ∀ t, Sh N t → D (ones N) t ≤ D (falses N) t + 1
  | .mk _ _ [], _ => by simp [D, Ds]
  | .mk k n (.mk k0 n0 l0 :: r), h => by
    unfold Sh at h
    by_cases hk : k = 0
    · rw [if_pos hk] at h; exact absurd h.2.2 (by simp)
    · rw [if_neg hk] at h
      obtain ⟨_, _, _, _, h5⟩ := h
      unfold Shs at h5
      unfold D Ds
      simp only [if_true]
      have h0 := D_one N (.mk k0 n0 l0) h5.1
      have h1 := (D_bound (falses N) (.mk k0 n0 l0)).1
      exact Ds_one N r _ _ h5.2 h0 h1
theorem Ds_one (N : Nat) : ∀ (ks : List T) (d e : Int), Shs N ks → d ≤ e + 1 → 0 ≤ e → Ds (ones N) ks false d ≤ Ds (falses N) ks false e + 1
  | [], d, e, _, h, _ => by simpa [Ds] using h
  | .mk k n ls :: r, d, e, hs, h, h0 => by
    unfold Shs at hs
    have h1 := D_one N (.mk k n ls) hs.1
    have hf : on1 (falses N) n = false := by unfold on1 falses; rw [getD_rep]; simp
    unfold Ds
    simp only [Bool.false_eq_true, if_false, hf, or_false]
    by_cases hk : k = 0
    · have hl : ls = [] := by have := hs.1; unfold Sh at this; rw [if_pos hk] at this; exact this.2.2
      subst hl
      rw [if_neg (show ¬ k ≠ 0 by simpa using hk)]
      have hz : D (ones N) (.mk k n []) = 0 := by simp [D, Ds]
      split
      · rw [hz]
        exact Ds_one N r _ _ hs.2 (by omega) h0
      · exact Ds_one N r _ _ hs.2 h h0
    · rw [if_pos (.inl hk), if_pos hk]
      exact Ds_one N r _ _ hs.2 (by omega) (by omega)
end

mutual
/-- As deep as there are leaves, less one. -/
theorem D_leaves (on : List Bool) {many : Int} : ∀ t, Sh many t → D on t + 1 ≤ (Lv t).length
  | .mk k n ks, h => by
    unfold Sh at h
    unfold D Lv
    by_cases hk : k = 0
    · rw [if_pos hk] at h ⊢
      rw [h.2.2]; simp [Ds]
    · rw [if_neg hk] at h ⊢
      obtain ⟨h1, _, h3, _, h5⟩ := h
      rw [if_pos h1]
      match ks, h3, h5 with
      | .mk k0 n0 l0 :: r, h3, h5 =>
        unfold Shs at h5
        have a := D_leaves on (.mk k0 n0 l0) h5.1
        have hb := (D_bound on (.mk k0 n0 l0)).1
        have b := Ds_leaves on r (D on (.mk k0 n0 l0)) (Lv (.mk k0 n0 l0)).length h5.2 (by omega) (by omega)
        unfold Ds Lvs
        simp only [if_true, List.length_append]
        exact b
theorem Ds_leaves (on : List Bool) {many : Int} : ∀ (ks : List T) (d : Int) (m : Nat), Shs many ks → d + 1 ≤ m → 1 ≤ m → Ds on ks false d + 1 ≤ (m + (Lvs ks).length : Nat)
  | [], d, m, _, h, _ => by simpa [Ds, Lvs] using h
  | .mk k n ls :: r, d, m, hs, h, hm => by
    unfold Shs at hs
    have a := D_leaves on (.mk k n ls) hs.1
    unfold Ds Lvs
    simp only [Bool.false_eq_true, if_false, List.length_append]
    rw [← Nat.add_assoc]
    split
    · exact Ds_leaves on r _ (m + (Lv (.mk k n ls)).length) hs.2 (by omega) (by omega)
    · exact Ds_leaves on r _ (m + (Lv (.mk k n ls)).length) hs.2 (by omega) (by omega)
end
/-- Two leaves and all edges: one deep at least. -/
theorem D_two {N : Nat} {t : T} (h : Sh N t) (h2 : 2 ≤ (Lv t).length) : 1 ≤ D (ones N) t := by
  obtain ⟨k, n, ks⟩ := t
  unfold Sh at h
  unfold Lv at h2
  by_cases hk : k = 0
  · rw [if_pos hk] at h2; simp at h2
  · rw [if_neg hk] at h
    obtain ⟨_, _, h3, _, h5⟩ := h
    match ks, h3, h5 with
    | .mk k0 n0 l0 :: .mk k1 n1 l1 :: r, _, h5 =>
      unfold Shs at h5
      unfold Shs at h5
      unfold D Ds Ds
      simp only [if_true, Bool.false_eq_true, if_false]
      have hb := (D_bound (ones N) (.mk k1 n1 l1)).1
      have hb0 := (D_bound (ones N) (.mk k0 n0 l0)).1
      have hc : k1 ≠ 0 ∨ on1 (ones N) n1 = true := by
        by_cases hk1 : k1 = 0
        · right
          have := h5.2.1
          unfold Sh at this
          rw [if_pos hk1] at this
          unfold on1 ones
          rw [getD_rep]; simp; omega
        · exact .inl hk1
      rw [if_pos hc]
      have := Ds_ge (ones N) r (max (D (ones N) (.mk k0 n0 l0)) (1 + D (ones N) (.mk k1 n1 l1)))
      omega

/- Turned. -/
mutual
theorem V_Tu (on : List Bool) : ∀ t, V on (Tu t) = V on t
  | .mk k n ks => by
    unfold Tu V
    rw [Vall_Tu on ks, Vany_Tu on ks]
theorem Vall_Tu (on : List Bool) : ∀ ks, Vall on (Tus ks) = Vall on ks
  | [] => rfl
  | t :: r => by
    unfold Tus
    rw [Vall_app, Vall_Tu on r]
    simp only [Vall, V_Tu on t, Bool.and_true]
    exact Bool.and_comm ..
theorem Vany_Tu (on : List Bool) : ∀ ks, Vany on (Tus ks) = Vany on ks
  | [] => rfl
  | t :: r => by
    unfold Tus
    rw [Vany_app, Vany_Tu on r]
    simp only [Vany, V_Tu on t, Bool.or_false]
    exact Bool.or_comm ..
end
mutual
theorem Lv_Tu : ∀ t, Lv (Tu t) = (Lv t).reverse
  | .mk k n ks => by
    unfold Tu Lv
    rw [Lvs_Tu ks]
    split
    · rfl
    · split <;> rfl
theorem Lvs_Tu : ∀ ks, Lvs (Tus ks) = (Lvs ks).reverse
  | [] => rfl
  | t :: r => by
    unfold Tus
    rw [Lvs_append, Lvs_Tu r]
    simp only [Lvs, Lv_Tu t, List.append_nil, List.reverse_append]
end
theorem kind_Tu (t : T) : (Tu t).kind = t.kind := by obtain ⟨k, n, ks⟩ := t; rfl
theorem Tus_len (ks : List T) : (Tus ks).length = ks.length := by rw [Tus_eq]; simp
theorem Tus_nil {ks : List T} : Tus ks = [] ↔ ks = [] := by rw [Tus_eq]; simp
mutual
theorem Sh_Tu (many : Int) : ∀ t, Sh many t → Sh many (Tu t)
  | .mk k n ks, h => by
    unfold Sh at h
    unfold Tu Sh
    by_cases hk : k = 0
    · rw [if_pos hk] at h ⊢; exact ⟨h.1, h.2.1, Tus_nil.2 h.2.2⟩
    · rw [if_neg hk] at h ⊢
      obtain ⟨h1, h2, h3, h4, h5⟩ := h
      refine ⟨h1, h2, by rw [Tus_len]; exact h3, ?_, Shs_Tu many ks h5⟩
      rw [Tus_eq, List.any_map, List.any_reverse]
      rw [← h4]
      congr 1
      funext t
      simp [kind_Tu]
theorem Shs_Tu (many : Int) : ∀ ks, Shs many ks → Shs many (Tus ks)
  | [], _ => trivial
  | t :: r, h => by
    unfold Shs at h
    unfold Tus
    rw [Shs_iff]
    intro x hx
    rcases List.mem_append.1 hx with hx | hx
    · exact Shs_iff.1 (Shs_Tu many r h.2) x hx
    · simp at hx; subst hx; exact Sh_Tu many t h.1
end
theorem Chk_Tu {t : T} {N : Nat} (h : Chk t N = 0) : Chk (Tu t) N = 0 := by
  rw [Chk_iff] at h ⊢
  rw [Lv_Tu]
  exact ⟨Sh_Tu N t h.1, List.pairwise_reverse.2 (h.2.1.imp Ne.symm), by simpa using h.2.2⟩

/- A leaf joined. -/
mutual
theorem Sh_up {a b : Int} (hab : a ≤ b) : ∀ t, Sh a t → Sh b t
  | .mk k n ks, h => by
    unfold Sh at h ⊢
    by_cases hk : k = 0
    · rw [if_pos hk] at h ⊢; exact ⟨h.1, by omega, h.2.2⟩
    · rw [if_neg hk] at h ⊢
      exact ⟨h.1, h.2.1, h.2.2.1, h.2.2.2.1, Shs_up hab ks h.2.2.2.2⟩
theorem Shs_up {a b : Int} (hab : a ≤ b) : ∀ ks, Shs a ks → Shs b ks
  | [], _ => trivial
  | t :: r, h => by
    unfold Shs at h ⊢
    exact ⟨Sh_up hab t h.1, Shs_up hab r h.2⟩
end
mutual
theorem Lv_lt {many : Int} : ∀ t, Sh many t → ∀ x ∈ Lv t, x < many
  | .mk k n ks, h, x, hx => by
    unfold Sh at h
    unfold Lv at hx
    by_cases hk : k = 0
    · rw [if_pos hk] at h hx; simp at hx; omega
    · rw [if_neg hk] at h hx
      rw [if_pos h.1] at hx
      exact Lvs_lt ks h.2.2.2.2 x hx
theorem Lvs_lt {many : Int} : ∀ ks, Shs many ks → ∀ x ∈ Lvs ks, x < many
  | [], _, x, hx => by simp [Lvs] at hx
  | t :: r, h, x, hx => by
    unfold Shs at h
    unfold Lvs at hx
    exact (List.mem_append.1 hx).elim (Lv_lt t h.1 x) (Lvs_lt r h.2 x)
end
def leafT (a : Int) : T := .mk 0 a []
def joinT (c : Int) (t : T) (a : Int) : T := match t with
  | .mk k _ ks => if k = c then .mk c 0 (ks ++ [.mk 0 a []]) else .mk c 0 [t, .mk 0 a []]
theorem Sh_leaf {N : Nat} : Sh (N + 1 : Nat) (.mk 0 N []) := by unfold Sh; simp; omega
theorem Lv_leaf (a : Int) : Lv (.mk 0 a []) = [a] := by simp [Lv]
theorem joinT_lv {c : Int} (hc : c = 1 ∨ c = 2) {t : T} {N : Nat} (h : Sh N t) : Lv (joinT c t N) = Lv t ++ [(N : Int)] := by
  obtain ⟨k, n, ks⟩ := t
  unfold joinT
  simp only
  split
  · rename_i hk
    unfold Lv
    rw [if_neg (by omega), if_pos hc, if_neg (by omega), if_pos (by omega), Lvs_append]
    simp [Lvs, Lv]
  · rw [Lv, if_neg (by omega), if_pos hc]
    simp [Lvs, Lv_leaf]
theorem joinT_sh {c : Int} (hc : c = 1 ∨ c = 2) {t : T} {N : Nat} (h : Sh N t) : Sh (N + 1 : Nat) (joinT c t N) := by
  have hup := Sh_up (a := N) (b := (N + 1 : Nat)) (by omega) t h
  obtain ⟨k, n, ks⟩ := t
  unfold joinT
  simp only
  split
  · rename_i hk
    unfold Sh at hup
    rw [if_neg (by omega)] at hup
    obtain ⟨h1, h2, h3, h4, h5⟩ := hup
    unfold Sh
    rw [if_neg (by omega)]
    refine ⟨hc, rfl, by simp; omega, ?_, ?_⟩
    · rw [List.any_append, ← hk, h4]
      simp [T.kind]; omega
    · rw [Shs_iff]
      intro x hx
      rcases List.mem_append.1 hx with hx | hx
      · exact Shs_iff.1 h5 x hx
      · simp at hx; subst hx; exact Sh_leaf
  · rename_i hk
    unfold Sh
    rw [if_neg (by omega)]
    refine ⟨hc, rfl, by simp, ?_, hup, Sh_leaf, trivial⟩
    simp [T.kind, hk]; omega
theorem joinT_chk {c : Int} (hc : c = 1 ∨ c = 2) {t : T} {N : Nat} (h : Chk t N = 0) : Chk (joinT c t N) (N + 1 : Nat) = 0 := by
  rw [Chk_iff] at h ⊢
  refine ⟨joinT_sh hc h.1, ?_, ?_⟩
  · rw [joinT_lv hc h.1, List.nodup_append]
    refine ⟨h.2.1, by simp, fun a ha b hb => ?_⟩
    have := Lv_lt t h.1 a ha
    simp at hb; omega
  · rw [joinT_lv hc h.1]; simp [h.2.2]
mutual
theorem V_app (on : List Bool) (v : Bool) : ∀ t, Sh on.length t → V (on ++ [v]) t = V on t
  | .mk k n ks, h => by
    unfold Sh at h
    unfold V
    by_cases hk : k = 0
    · rw [if_pos hk] at h
      rw [if_neg (by omega), if_neg (by omega), if_neg (by omega), if_neg (by omega)]
      unfold on1
      rw [List.getD_eq_getElem?_getD, List.getD_eq_getElem?_getD, List.getElem?_append_left (by omega)]
    · rw [if_neg hk] at h
      rw [Vall_appv on v ks h.2.2.2.2, Vany_appv on v ks h.2.2.2.2]
      split
      · rfl
      · rw [if_pos (by omega), if_pos (by omega)]
theorem Vall_appv (on : List Bool) (v : Bool) : ∀ ks, Shs on.length ks → Vall (on ++ [v]) ks = Vall on ks
  | [], _ => rfl
  | t :: r, h => by
    unfold Shs at h
    unfold Vall
    rw [V_app on v t h.1, Vall_appv on v r h.2]
theorem Vany_appv (on : List Bool) (v : Bool) : ∀ ks, Shs on.length ks → Vany (on ++ [v]) ks = Vany on ks
  | [], _ => rfl
  | t :: r, h => by
    unfold Shs at h
    unfold Vany
    rw [V_app on v t h.1, Vany_appv on v r h.2]
end
theorem V_leaf (on : List Bool) (v : Bool) : V (on ++ [v]) (.mk 0 on.length []) = v := by
  unfold V on1
  rw [if_neg (by omega), if_neg (by omega), List.getD_eq_getElem?_getD]
  simp
theorem joinT_par {t : T} {on : List Bool} {v : Bool} (h : Sh on.length t) : V (on ++ [v]) (joinT 2 t on.length) = (V on t || v) := by
  have h1 := V_app on v t h
  obtain ⟨k, n, ks⟩ := t
  unfold joinT
  simp only
  split
  · rename_i hk
    rw [V, if_neg (by omega), if_pos rfl, Vany_app]
    rw [V, if_neg (by omega), if_pos hk] at h1
    rw [h1]
    simp [Vany, V_leaf]
  · rw [V, if_neg (by omega), if_pos rfl]
    simp [Vany, V_leaf, h1]
theorem joinT_ser {t : T} {on : List Bool} {v : Bool} (h : Sh on.length t) : V (on ++ [v]) (joinT 1 t on.length) = (V on t && v) := by
  have h1 := V_app on v t h
  obtain ⟨k, n, ks⟩ := t
  unfold joinT
  simp only
  split
  · rename_i hk
    rw [V, if_pos rfl, Vall_app]
    rw [V, if_pos hk] at h1
    rw [h1]
    simp [Vall, V_leaf]
  · rw [V, if_pos rfl]
    simp [Vall, V_leaf, h1]
end Go.L14

namespace Go.L14
open Go Go.Bb

theorem make25 (k len : Nat) (h : len ≤ 1000) : aMake (Envt.P E14) k 25 (.int .i64 (len : Int)) (.int .i64 (len : Int)) = some ⟨.own k 0 0 len, [(k, .arr 0 1 (bools (List.replicate len false)))]⟩ := by
  have he : elemT (Envt.P E14) 25 = some 4 := by kernel_rfl
  have hb : bytesOf (Envt.P E14) 4 = 1 := by kernel_rfl
  have hs : szOf (Envt.P E14) 4 = 1 := by kernel_rfl
  have hz2 : rest (zeroP (Envt.P E14) 4) = .bool false := by kernel_rfl
  have c1 : decide ((0 : Int) ≤ len) = true := decide_eq_true (by omega)
  have c2 : decide ((len : Int) ≤ len) = true := decide_eq_true (by omega)
  have c3 : decide ((len : Int) * ((1 : Nat) : Int) ≤ 140737488355328) = true := decide_eq_true (by omega)
  have c4 : decide ((len : Int) ≤ 140737488355328) = true := decide_eq_true (by omega)
  unfold aMake
  rw [he]
  simp only [hb, hs, hz2, c1, c2, c3, c4]
  simp [bools, Nat.blt]
  rfl
theorem aLenG {P : Program} {rd : Rd} {t e : TypeId} {o v z n : Nat} {xs : List PV} (hu : P.underlying t = some (.slice e)) (ho : rd o = some (.arr v z xs)) (hn : n = xs.length) : justO (aLen P rd t (.own o v 0 n)) = some ⟨.int .i64 (n : Int), []⟩ := by
  subst hn
  have c2 : Nat.ble xs.length xs.length = true := Nat.ble_eq_true_of_le (by omega)
  simp [aLen, hu, rdSl, ho, c2, justO]
theorem store4 {rd : Rd} {k o v i : Nat} {l : List Bool} {b : Bool} (ho : rd o = some (.arr v 1 (bools l))) (hi : i < l.length) : aStore (Envt.P E14) rd k 4 (.refa o v i 0) (.bool b) = some ⟨.tup [], [(o, .arr v 1 (bools (l.set i b)))]⟩ := by
  have h1 : hasT (Envt.P E14) 4 = true := by kernel_rfl
  have h2 : szOf (Envt.P E14) 4 = 1 := by kernel_rfl
  have hg : (bools l)[i]? = some (.bool l[i]) := by simp [bools, hi]
  have hset : (bools l).set i (.bool b) = bools (l.set i b) := by simp [bools, List.map_set]
  unfold aStore
  simp only [h1, h2, ho, hg]
  simp only [← hset]
  simp [cellsOf, okCells, okCell, rest, rest1, PV.frz, putCells, relike, Nat.blt]
  rfl
theorem snapT {rd : Rd} {t : T} {o v z n : Nat} {l : List Bool} (ho : rd o = some (.arr v z (bools l))) (hn : n = l.length) : ∃ y, snapA rd [enc t, .own o v 0 n] = some [enc t, .list y (bools l)] := by
  subst hn
  obtain ⟨y, hy⟩ := snapL_ex (bools l)
  obtain ⟨k, n, ks⟩ := t
  have c2 : Nat.ble l.length (bools l).length = true := Nat.ble_eq_true_of_le (by simp [bools])
  have ht : (bools l).take l.length = bools l := List.take_of_length_le (by simp [bools])
  refine ⟨y, ?_⟩
  simp [snapA, mapO, snapN, enc, rdSl, ho, c2, ht, hy]
theorem bools_len (l : List Bool) : (bools l).length = l.length := List.length_map ..
theorem ix25 {rd : Rd} {o v i : Nat} {l : List Bool} (ho : rd o = some (.arr v 1 (bools l))) (hi : i < l.length) {n : Nat} (hn : n = l.length) :
    justO (aIndexAddr (Envt.P E14) rd 25 (.own o v 0 n) (.int .i64 (i : Int))) = some ⟨.refa o v (Int.toNat (i : Int)) 0, []⟩ :=
  idx_own (P := Go.Proofs.Tryd.prog) (e := 4) (xs := bools l) u25 (by kernel_rfl) (by rw [show szOf Go.Proofs.Tryd.prog 4 = 1 by kernel_rfl]; exact ho) (by rw [bools_len]; omega) (by omega) (by omega)
/-- The first 'i' of 'N' set. -/
def part (N i : Nat) : List Bool := List.replicate i true ++ List.replicate (N - i) false
theorem part_len {N i : Nat} (h : i ≤ N) : (part N i).length = N := by simp [part]; omega
theorem part_set {N i : Nat} (h : i < N) : (part N i).set i true = part N (i + 1) := by
  unfold part
  rw [List.set_append_right _ _ (by simp)]
  obtain ⟨d, hd⟩ : ∃ d, N - i = d + 1 := ⟨N - i - 1, by omega⟩
  rw [hd, show N - (i + 1) = d by omega, List.length_replicate, Nat.sub_self, List.replicate_succ, List.set_cons_zero, List.replicate_succ', List.append_assoc]
  rfl
theorem part_all (N : Nat) : part N N = ones N := by simp [part, ones]

theorem law6 (t : T) (hok : t.ok) (y : Bool) (on : List Bool) : Has E14 6 [enc t, .list y (bools on)] [] (.bool true, []) := by
  have h8 := tooLarge8 t hok
  have h9 := alive9
  have hbl := bools_length on
  by_cases hW : W t 0 > 1000
  · rw [big8 t hW] at h8
    refine Ev.succ ((h8.and h9).mono fun m hm => ?_)
    obtain ⟨k, n, ks⟩ := t
    exact tfun_sound (f6_1 (pcall E14 m) m k n (encs ks) y (bools on) 1 true) ⟨⟨⟨trivial, hm.1⟩, rfl⟩, hm.2⟩
  · rw [small8 t hW] at h8
    have hs := sz_of_W hW
    by_cases hon : on.length > 500
    · refine Ev.succ ((h8.and h9).mono fun m hm => ?_)
      obtain ⟨k, n, ks⟩ := t
      exact tfun_sound (f6_2 (pcall E14 m) m k n (encs ks) y (bools on) 0 true) ⟨⟨⟨⟨trivial, hm.1⟩, rfl⟩, by rw [hbl]; simp; omega⟩, hm.2⟩
    · have q3 : (decide ((List.length (bools on) : Int) > 500) == false) = true := by rw [hbl, decide_eq_false (by omega)]; rfl
      have h16 := check16_ev t hok
      by_cases h0 : Chk t on.length = 0
      · have ha := depth11 true (falses on.length) t hok (by omega)
        have ha' := depth11 false (falses on.length) t hok (by omega)
        have hb := depth11 y on t hok (by omega)
        have hc := depth11 true (ones on.length) t hok (by omega)
        have hc' := depth11 false (ones on.length) t hok (by omega)
        have lf : (falses on.length).length = on.length := by simp [falses]
        have lo : (ones on.length).length = on.length := by simp [ones]
        rw [lf, if_pos h0, h0] at ha ha'
        rw [lo, if_pos h0, h0] at hc hc'
        rw [if_pos h0, h0] at hb
        have big : Ev fun m => on.length < m := ⟨on.length + 1, fun m hm => by omega⟩
        refine Ev.succ (((((h8.and h9).and h16).and (ha.and ha')).and (hb.and (hc.and hc'))).and big |>.mono fun m hm => ?_)
        obtain ⟨⟨⟨⟨⟨m8, m9⟩, m16⟩, ma, ma'⟩, mb, mc, mc'⟩, hmb⟩ := hm
        have m16 := m16 on.length
        rw [h0, ← hbl] at m16
        have md : ∀ y, pcall E14 m 11 [enc t, .list y (bools (falses on.length))] [] = some (.tup [.int .i64 (D (falses on.length) t), .int .i64 0], []) := fun y => by cases y <;> assumption
        have me : ∀ y, pcall E14 m 11 [enc t, .list y (bools (ones on.length))] [] = some (.tup [.int .i64 (D (ones on.length) t), .int .i64 0], []) := fun y => by cases y <;> assumption
        have hle : (List.length (bools on)) = on.length := bools_len on
        obtain ⟨out, hl, x, b, rfl⟩ := LoopM.inv (E := E14) (call := pcall E14 m) (n := m) (k0 := 0) (f := 6) (p := [1, 1, 1, 1, 1, 0, 1, 0]) (fun i => on.length - i)
          (fun i env σ => i ≤ on.length ∧ env = [(1, .list y (bools on)), (2, .refv 0 0), (5, .int .i64 (D (falses on.length) t)), (6, .int .i64 0), (7, .int .i64 (D on t)), (8, .int .i64 0), (9, .own 2 0 0 on.length), (47, .int .i64 (on.length : Int)), (48, .int .i64 (i : Int))] ∧
            σ = [.var (enc t), .arr 0 1 (bools (falses on.length)), .arr 0 1 (bools (part on.length i))])
          (fun out => ∃ x b, out = (.exit 0, [(1, .list y (bools on)), (2, .refv 0 0), (5, .int .i64 (D (falses on.length) t)), (6, .int .i64 0), (7, .int .i64 (D on t)), (8, .int .i64 0), (9, .own 2 0 0 on.length), (47, .int .i64 (on.length : Int)), (48, .int .i64 x), (49, .bool b)],
            [.var (enc t), .arr 0 1 (bools (falses on.length)), .arr 0 1 (bools (ones on.length))]))
          (fun i env σ ⟨hi, he, hσ⟩ => by
            subst he; subst hσ
            obtain ⟨k, n, ks⟩ := t
            by_cases hlt : i < on.length
            · left
              have hst := store4 (rd := rdF [2] [.var (enc (.mk k n ks)), .arr 0 1 (bools (falses on.length)), .arr 0 1 (bools (part on.length i))]) (k := 3) (o := 2) (v := 0) (i := i) (l := part on.length i) (b := true) rfl (by rw [part_len hi]; exact hlt)
              rw [part_set hlt] at hst
              refine ⟨i + 1, _, _, by omega, tbody_sound (f6_l1_2 (pcall E14 m) m k n (encs ks) y (bools on) 1 (bools (falses on.length)) (D (falses on.length) (.mk k n ks)) 0 (D on (.mk k n ks)) 0 on.length 1 on.length i (bools (part on.length i)) (bools (part on.length (i + 1)))) ⟨⟨⟨trivial, by simp; omega⟩, ix25 rfl (by rw [part_len hi]; exact hlt) (part_len hi).symm⟩, hst⟩, by omega, ?_, rfl⟩
              rw [wnextn i (by omega)]
            · right
              obtain rfl : i = on.length := by omega
              rw [part_all]
              exact ⟨_, tbody_sound (f6_l1_1 (pcall E14 m) m k n (encs ks) y (bools on) 1 (bools (falses on.length)) (D (falses on.length) (.mk k n ks)) 0 (D on (.mk k n ks)) 0 on.length 1 on.length on.length (bools (ones on.length))) ⟨trivial, by simp⟩, by simp, _, _, rfl⟩)
          m 0 _ _ ⟨by omega, rfl, rfl⟩ (by omega)
        have hp0 : part on.length 0 = falses on.length := by simp [part, falses]
        rw [hp0] at hl
        obtain ⟨y2, s2⟩ := snapT (rd := rdF [1] [.var (enc t), .arr 0 1 (bools (falses on.length))]) (t := t) (o := 1) (v := 0) (z := 1) (l := falses on.length) rfl lf.symm
        obtain ⟨y3, s3⟩ := snapT (rd := rdF [2] [.var (enc t), .arr 0 1 (bools (falses on.length)), .arr 0 1 (bools (ones on.length))]) (t := t) (o := 2) (v := 0) (z := 1) (l := ones on.length) rfl lo.symm
        have hmk1 := make25 1 on.length (by omega)
        have hmk2 := make25 2 on.length (by omega)
        rw [← hle] at hmk1 hmk2
        have hln := aLenG (P := Envt.P E14) (rd := rdF [2] [.var (enc t), .arr 0 1 (bools (falses on.length)), .arr 0 1 (bools (falses on.length))]) (t := 25) (o := 2) (v := 0) (z := 1) (xs := bools (falses on.length)) (n := on.length) u25 rfl (by rw [bools_len, lf])
        have hsh := Chk_iff.1 h0
        have g1 : D (falses on.length) t ≤ D on t := D_mono (le_falses on) t
        have g2 : D on t ≤ D (ones on.length) t := D_mono (le_ones on) t
        have g3 := D_one on.length t hsh.1
        have g4 := D_bound (falses on.length) t
        have w1 : IntKind.i64.wrap (D (falses on.length) t + 1) = D (falses on.length) t + 1 := i64w (by omega) (by omega)
        have hlf : bools (List.replicate (List.length (bools on)) false) = bools (falses on.length) := by rw [hle]; rfl
        rw [hlf] at hmk1 hmk2
        by_cases h2 : on.length < 2
        · obtain ⟨k, n, ks⟩ := t
          rw [hle] at hmk1 hmk2
          exact tfun_sound (f6_5 (pcall E14 m) m k n (encs ks) y (bools on) 0 0 on.length 1 (bools (falses on.length)) y2 (D (falses on.length) (.mk k n ks)) 0 (D on (.mk k n ks)) 0 on.length 1 (bools (falses on.length)) on.length x b (bools (ones on.length)) y3 (D (ones on.length) (.mk k n ks)) 0 true)
            ⟨⟨⟨⟨⟨⟨⟨⟨⟨⟨⟨⟨⟨⟨⟨⟨⟨⟨⟨⟨⟨⟨⟨trivial, m8⟩, rfl⟩, q3⟩, m16⟩, rfl⟩, by rw [hle]; exact hmk1⟩, s2⟩, md y2⟩, mb⟩, by rw [hle]; exact hmk2⟩, hln⟩, hl⟩, s3⟩, me y3⟩, m9⟩, rfl⟩, rfl⟩, rfl⟩, rfl⟩, by simpa using g1⟩, by simpa using g2⟩, by rw [w1]; simpa using g3⟩, by rw [hle, decide_eq_true (by omega : (on.length : Int) < 2)]; rfl⟩
        · have g5 := D_two (t := t) hsh.1 (by rw [hsh.2.2]; omega)
          obtain ⟨k, n, ks⟩ := t
          rw [hle] at hmk1 hmk2
          have := tfun_sound (f6_4 (pcall E14 m) m k n (encs ks) y (bools on) 0 0 on.length 1 (bools (falses on.length)) y2 (D (falses on.length) (.mk k n ks)) 0 (D on (.mk k n ks)) 0 on.length 1 (bools (falses on.length)) on.length x b (bools (ones on.length)) y3 (D (ones on.length) (.mk k n ks)) 0 true)
            ⟨⟨⟨⟨⟨⟨⟨⟨⟨⟨⟨⟨⟨⟨⟨⟨⟨⟨⟨⟨⟨⟨⟨trivial, m8⟩, rfl⟩, q3⟩, m16⟩, rfl⟩, by rw [hle]; exact hmk1⟩, s2⟩, md y2⟩, mb⟩, by rw [hle]; exact hmk2⟩, hln⟩, hl⟩, s3⟩, me y3⟩, m9⟩, rfl⟩, rfl⟩, rfl⟩, rfl⟩, by simpa using g1⟩, by simpa using g2⟩, by rw [w1]; simpa using g3⟩, by rw [hle, decide_eq_false (by omega : ¬ (on.length : Int) < 2)]; rfl⟩
          rw [decide_eq_true (by omega : D (ones on.length) (T.mk k n ks) ≥ 1)] at this
          exact this
      · refine Ev.succ (((h8.and h9).and h16).mono fun m hm => ?_)
        obtain ⟨⟨m8, m9⟩, m16⟩ := hm
        have m16 := m16 on.length
        obtain ⟨k, n, ks⟩ := t
        exact tfun_sound (f6_3 (pcall E14 m) m k n (encs ks) y (bools on) 0 (Chk (.mk k n ks) on.length) true) ⟨⟨⟨⟨⟨⟨trivial, m8⟩, rfl⟩, q3⟩, by rw [hbl]; exact m16⟩, by simpa using h0⟩, m9⟩
end Go.L14

namespace Go.L14
open Go Go.Bb

theorem bools_append (a b : List Bool) : bools (a ++ b) = bools a ++ bools b := List.map_append
theorem sizeOk_bools : ∀ (l : List Bool), sizeOk 1 (bools l) = true
  | [] => rfl
  | _ :: r => sizeOk_bools r
theorem frzs_bools : ∀ (l : List Bool), frzs false (bools l) = true
  | [] => rfl
  | _ :: r => frzs_bools r
theorem src_bools (rd : Rd) (y : Bool) (l : List Bool) : srcOf rd 1 (.list y (bools l)) = some (bools l) := by
  cases y
  · rfl
  · simp [srcOf, frzs_bools]
theorem e25 : elemT Go.Proofs.Tryd.prog 25 = some 4 := by kernel_rfl
theorem s4 : szOf Go.Proofs.Tryd.prog 4 = 1 := by kernel_rfl
theorem b4 : bytesOf Go.Proofs.Tryd.prog 4 = 1 := by kernel_rfl
theorem app25 {rd : Rd} {k o v z : Nat} {xs ys : List Bool} {x : PV} (hs : srcOf rd 1 x = some (bools ys)) (ho : rd o = some (.arr v z (bools xs))) (hz : zOk z 1 (bools xs)) (hb : xs.length + ys.length ≤ 1000000) :
    ∃ v' z', zOk z' 1 (bools (xs ++ ys)) ∧ aAppend (Envt.P E14) rd k 25 25 (.own o v 0 xs.length) x = some ⟨.own o v' 0 (xs ++ ys).length, [(o, .arr v' z' (bools (xs ++ ys)))]⟩ := by
  obtain ⟨v', z', h1, h2⟩ := app_ex (P := Go.Proofs.Tryd.prog) (rd := rd) (k := k) (o := o) (v := v) (sz := z) (m := xs.length) (t := 25) (xt := 25) (e := 4) (xs := bools xs) (ys := bools ys) (x := x) (bools_len xs).symm e25 (by rw [s4]; exact hs) (by rw [s4]; exact sizeOk_bools ys) (by kernel_rfl) (by kernel_rfl) ho (by rw [s4]; exact hz) (by rw [b4, bools_len, bools_len]; omega)
  rw [s4, ← bools_append] at h1
  rw [← bools_append, bools_len] at h2
  exact ⟨v', z', h1, h2⟩

theorem ok_Tu : ∀ {t : T}, t.ok → (Tu t).ok
  | .mk k n ks, h => by
    unfold T.ok at h
    unfold Tu T.ok
    refine ⟨h.1, h.2.1, by rw [Tus_len]; exact h.2.2.1, fun x hx => ?_⟩
    rw [Tus_eq] at hx
    obtain ⟨u, hu, rfl⟩ := List.mem_map.1 hx
    have hu' : u ∈ ks := List.mem_reverse.1 hu
    exact ok_Tu (h.2.2.2 u hu')
theorem kids_sz (ks : List T) : (ks.length : Int) ≤ szs ks := by
  induction ks with
  | nil => simp [szs]
  | cons a r ih => unfold szs; have := sz_pos a; simp; omega
theorem ok_join {c : Int} (hc : c = 1 ∨ c = 2) {t : T} (h : t.ok) (hs : sz t ≤ 1000) {N : Nat} (hN : N ≤ 1000) : (joinT c t N).ok := by
  have hl : (T.mk 0 (N : Int) []).ok := by unfold T.ok; exact ⟨by omega, by omega, by simp, by simp⟩
  have ht := h
  obtain ⟨k, n, ks⟩ := t
  unfold T.ok at h
  unfold sz at hs
  have := kids_sz ks
  unfold joinT
  simp only
  split
  · unfold T.ok
    refine ⟨by omega, by omega, by simp [maxLen]; omega, fun x hx => ?_⟩
    rcases List.mem_append.1 hx with hx | hx
    · exact h.2.2.2 x hx
    · simp at hx; subst hx; exact hl
  · unfold T.ok
    refine ⟨by omega, by omega, by simp [maxLen], fun x hx => ?_⟩
    rcases List.mem_cons.1 hx with rfl | hx
    · exact ht
    · simp at hx; subst hx; exact hl

theorem join18T (c : Int) (t : T) (a : Int) (ht : sz t ≤ 1000) : Has E14 18 [.int .i64 c, .ro true (enc t), .ro true (enc (.mk 0 a []))] [] (enc (joinT c t a), []) := by
  have := join18 c t a ht
  obtain ⟨k, n, ks⟩ := t
  exact this
theorem law5 (t : T) (hok : t.ok) (y : Bool) (on : List Bool) (v : Bool) : Has E14 5 [enc t, .list y (bools on), .bool v] [] (.bool true, []) := by
  have h8 := tooLarge8 t hok
  have h9 := alive9
  have hbl := bools_length on
  by_cases hW : W t 0 > 1000
  · rw [big8 t hW] at h8
    refine Ev.succ ((h8.and h9).mono fun m hm => ?_)
    obtain ⟨k, n, ks⟩ := t
    exact tfun_sound (f5_1 (pcall E14 m) m k n (encs ks) y (bools on) v 1 true) ⟨⟨⟨trivial, hm.1⟩, rfl⟩, hm.2⟩
  · rw [small8 t hW] at h8
    have hs := sz_of_W hW
    by_cases hon : on.length > 500
    · refine Ev.succ ((h8.and h9).mono fun m hm => ?_)
      obtain ⟨k, n, ks⟩ := t
      exact tfun_sound (f5_2 (pcall E14 m) m k n (encs ks) y (bools on) v 0 true) ⟨⟨⟨⟨trivial, hm.1⟩, rfl⟩, by rw [hbl]; simp; omega⟩, hm.2⟩
    · have q3 : (decide ((List.length (bools on) : Int) > 500) == false) = true := by rw [hbl, decide_eq_false (by omega)]; rfl
      have h16 := check16_ev t hok
      by_cases h0 : Chk t on.length = 0
      · have hsh := (Chk_iff.1 h0).1
        have hlen : ((on ++ [v]).length : Int) = ((on.length + 1 : Nat) : Int) := by simp
        have p1 := eval10 y on t hok
        have p2 := eval10 y on (Tu t) (ok_Tu hok)
        have p3 : ∀ y, Has E14 10 [enc (joinT 2 t on.length), .list y (bools (on ++ [v]))] [] (.tup [.bool (V on t || v), .int .i64 0], []) := fun y => by
          have := eval10 y (on ++ [v]) (joinT 2 t on.length) (ok_join (.inr rfl) hok hs (by omega))
          rw [hlen, if_pos (joinT_chk (.inr rfl) h0), joinT_chk (.inr rfl) h0, joinT_par hsh] at this
          exact this
        have p4 : ∀ y, Has E14 10 [enc (joinT 1 t on.length), .list y (bools (on ++ [v]))] [] (.tup [.bool (V on t && v), .int .i64 0], []) := fun y => by
          have := eval10 y (on ++ [v]) (joinT 1 t on.length) (ok_join (.inl rfl) hok hs (by omega))
          rw [hlen, if_pos (joinT_chk (.inl rfl) h0), joinT_chk (.inl rfl) h0, joinT_ser hsh] at this
          exact this
        rw [if_pos h0, h0] at p1
        rw [if_pos (Chk_Tu h0), Chk_Tu h0, V_Tu] at p2
        have h17 := turned17 t hok (by omega)
        have j2 := join18T 2 t on.length hs
        have j1 := join18T 1 t on.length hs
        refine Ev.succ (((((h8.and h9).and h16).and (p1.and p2)).and (((p3 true).and (p3 false)).and ((p4 true).and (p4 false)))).and (h17.and (j2.and j1)) |>.mono fun m hm => ?_)
        obtain ⟨⟨⟨⟨⟨m8, m9⟩, m16⟩, m1, m2⟩, ⟨m3, m3'⟩, m4, m4'⟩, m17, mj2, mj1⟩ := hm
        have m16 := m16 on.length
        rw [h0, ← hbl] at m16
        have e3 : ∀ y, pcall E14 m 10 [enc (joinT 2 t on.length), .list y (bools (on ++ [v]))] [] = some (.tup [.bool (V on t || v), .int .i64 0], []) := fun y => by cases y <;> assumption
        have e4 : ∀ y, pcall E14 m 10 [enc (joinT 1 t on.length), .list y (bools (on ++ [v]))] [] = some (.tup [.bool (V on t && v), .int .i64 0], []) := fun y => by cases y <;> assumption
        have mj2 : pcall E14 m 18 [.int .i64 2, .ro true (enc t), .ro true (.agg [.int .i64 0, .int .i64 ((bools on).length : Int), .list false []])] [] = some (enc (joinT 2 t on.length), []) := by
          rw [hbl]; exact mj2
        have mj1 : pcall E14 m 18 [.int .i64 1, .ro true (enc t), .ro true (.agg [.int .i64 0, .int .i64 ((bools on).length : Int), .list false []])] [] = some (enc (joinT 1 t on.length), []) := by
          rw [hbl]; exact mj1
        obtain ⟨v2, z2, hz2, a1⟩ := app25 (rd := rdF [1] [.var (enc t), .arr 0 1 []]) (k := 2) (o := 1) (v := 0) (z := 1) (xs := []) (ys := on) (x := .list y (bools on)) (src_bools _ _ _) rfl (.inl rfl) (by simp; omega)
        obtain ⟨v3, z3, hz3, a2⟩ := app25 (rd := rdF [1, 2] [.var (enc t), .arr v2 z2 (bools on), .arr 0 1 [.bool v]]) (k := 3) (o := 1) (v := v2) (z := z2) (xs := on) (ys := [v]) (x := .own 2 0 0 1) (by rfl) rfl hz2 (by simp; omega)
        obtain ⟨y2, s2⟩ := snapT (rd := rdF [1] [.var (enc t), .arr v3 z3 (bools (on ++ [v])), .arr 0 1 [.bool v], .arr 0 0 [], .var (.agg [.int .i64 0, .int .i64 ((bools on).length : Int), .own 5 0 0 0]), .arr 0 0 []]) (t := joinT 2 t on.length) (o := 1) (v := v3) (z := z3) (l := on ++ [v]) rfl rfl
        obtain ⟨y3, s3⟩ := snapT (rd := rdF [1] [.var (enc t), .arr v3 z3 (bools (on ++ [v])), .arr 0 1 [.bool v], .arr 0 0 [], .var (.agg [.int .i64 0, .int .i64 ((bools on).length : Int), .own 5 0 0 0]), .arr 0 0 []]) (t := joinT 1 t on.length) (o := 1) (v := v3) (z := z3) (l := on ++ [v]) rfl rfl
        have e3 := e3 y2
        have e4 := e4 y3
        generalize joinT 2 t on.length = J2 at mj2 e3 s2
        generalize joinT 1 t on.length = J1 at mj1 e4 s3
        obtain ⟨k3, n3, ks3⟩ := J2
        obtain ⟨k4, n4, ks4⟩ := J1
        obtain ⟨k, n, ks⟩ := t
        cases hv : V on (.mk k n ks) with
        | false =>
          rw [hv] at m1 m2 e3 e4
          have := tfun_sound (f5_5 (pcall E14 m) m k n (encs ks) y (bools on) v 0 0 false 0 k n (encs (Tus ks)) false 0 v2 _ z2 _ v3 _ z3 _ k3 n3 (encs ks3) y2 (false || v) 0 k4 n4 (encs ks4) y3 (false && v) 0 true)
            ⟨⟨⟨⟨⟨⟨⟨⟨⟨⟨⟨⟨⟨⟨⟨⟨⟨⟨⟨⟨⟨⟨⟨⟨⟨⟨trivial, m8⟩, rfl⟩, q3⟩, m16⟩, rfl⟩, m1⟩, m17⟩, m2⟩, a1⟩, a2⟩, mj2⟩, s2⟩, e3⟩, mj1⟩, s3⟩, e4⟩, m9⟩, rfl⟩, rfl⟩, rfl⟩, rfl⟩, rfl⟩, rfl⟩, rfl⟩, by simp⟩, rfl⟩
          refine Eq.trans this ?_
          simp
        | true =>
          rw [hv] at m1 m2 e3 e4
          have := tfun_sound (f5_6 (pcall E14 m) m k n (encs ks) y (bools on) v 0 0 true 0 k n (encs (Tus ks)) true 0 v2 _ z2 _ v3 _ z3 _ k3 n3 (encs ks3) y2 (true || v) 0 k4 n4 (encs ks4) y3 (true && v) 0 true)
            ⟨⟨⟨⟨⟨⟨⟨⟨⟨⟨⟨⟨⟨⟨⟨⟨⟨⟨⟨⟨⟨⟨⟨⟨⟨⟨trivial, m8⟩, rfl⟩, q3⟩, m16⟩, rfl⟩, m1⟩, m17⟩, m2⟩, a1⟩, a2⟩, mj2⟩, s2⟩, e3⟩, mj1⟩, s3⟩, e4⟩, m9⟩, rfl⟩, rfl⟩, rfl⟩, rfl⟩, rfl⟩, rfl⟩, rfl⟩, by simp⟩, rfl⟩
          refine Eq.trans this ?_
          simp
      · refine Ev.succ (((h8.and h9).and h16).mono fun m hm => ?_)
        obtain ⟨⟨m8, m9⟩, m16⟩ := hm
        have m16 := m16 on.length
        obtain ⟨k, n, ks⟩ := t
        exact tfun_sound (f5_3 (pcall E14 m) m k n (encs ks) y (bools on) v 0 (Chk (.mk k n ks) on.length) true) ⟨⟨⟨⟨⟨⟨trivial, m8⟩, rfl⟩, q3⟩, by rw [hbl]; exact m16⟩, by simpa using h0⟩, m9⟩
end Go.L14

namespace Go.L14
open Go Go.Bb

theorem le_set (on : List Bool) (i : Nat) : le on (on.set i true) := by
  refine ⟨by simp, fun j h => ?_⟩
  rw [List.getD_eq_getElem?_getD] at h ⊢
  rw [List.getElem?_set]
  split
  · split
    · rfl
    · rename_i h1 h2
      subst h1
      rw [List.getElem?_eq_none (by omega)] at h; cases h
  · exact h
theorem rem3 (a : Nat) (N : Nat) (hN : 0 < N) : justO (aBin (Envt.P E14) .rem 3 (.int .i64 (a : Int)) (.int .i64 (N : Int))) = some ⟨.int .i64 ((a % N : Nat) : Int), []⟩ := by
  have h : ¬ (N : Int) = 0 := by omega
  simp only [aBin, aInt, if_true, if_neg h, justO]
  rfl

set_option maxHeartbeats 1000000 in
theorem law4 (t : T) (hok : t.ok) (y : Bool) (on : List Bool) (at' : Int) (h0a : 0 ≤ at') (h1a : at' ≤ 255) : Has E14 4 [enc t, .list y (bools on), .int .u8 at'] [] (.bool true, []) := by
  have h8 := tooLarge8 t hok
  have h9 := alive9
  have hbl := bools_length on
  by_cases hW : W t 0 > 1000
  · rw [big8 t hW] at h8
    refine Ev.succ ((h8.and h9).mono fun m hm => ?_)
    obtain ⟨k, n, ks⟩ := t
    exact tfun_sound (f4_1 (pcall E14 m) m k n (encs ks) y (bools on) at' 1 true) ⟨⟨⟨trivial, hm.1⟩, rfl⟩, hm.2⟩
  · rw [small8 t hW] at h8
    have hs := sz_of_W hW
    by_cases hon : on.length > 1000
    · refine Ev.succ ((h8.and h9).mono fun m hm => ?_)
      obtain ⟨k, n, ks⟩ := t
      exact tfun_sound (f4_2 (pcall E14 m) m k n (encs ks) y (bools on) at' 0 true) ⟨⟨⟨⟨trivial, hm.1⟩, rfl⟩, by rw [hbl]; simp; omega⟩, hm.2⟩
    · have q3 : (decide ((List.length (bools on) : Int) > 1000) == false) = true := by rw [hbl, decide_eq_false (by omega)]; rfl
      by_cases hz0 : on.length = 0
      · refine Ev.succ ((h8.and h9).mono fun m hm => ?_)
        obtain ⟨k, n, ks⟩ := t
        exact tfun_sound (f4_3 (pcall E14 m) m k n (encs ks) y (bools on) at' 0 true) ⟨⟨⟨⟨⟨trivial, hm.1⟩, rfl⟩, q3⟩, by rw [hbl, hz0]; rfl⟩, hm.2⟩
      · have q4 : ((List.length (bools on) : Int) == 0) = false := by rw [hbl]; simpa using hz0
        have h10 := eval10 y on t hok
        by_cases h0 : Chk t on.length = 0
        · have hsh := Chk_iff.1 h0
          obtain ⟨a, rfl⟩ : ∃ a : Nat, at' = a := ⟨at'.toNat, by omega⟩
          obtain ⟨i, hi⟩ : ∃ i, i = a % on.length := ⟨_, rfl⟩
          have hilt : i < on.length := by rw [hi]; exact Nat.mod_lt _ (by omega)
          have lf : (falses on.length).length = on.length := by simp [falses]
          have lo : (ones on.length).length = on.length := by simp [ones]
          have lm : (on.set i true).length = on.length := by simp
          have ev : ∀ (l : List Bool), l.length = on.length → ∀ y, Has E14 10 [enc t, .list y (bools l)] [] (.tup [.bool (V l t), .int .i64 0], []) := fun l hl y => by
            have := eval10 y l t hok
            rw [hl, if_pos h0, h0] at this; exact this
          have dp : ∀ (l : List Bool), l.length = on.length → ∀ y, Has E14 11 [enc t, .list y (bools l)] [] (.tup [.int .i64 (D l t), .int .i64 0], []) := fun l hl y => by
            have := depth11 y l t hok (by omega)
            rw [hl, if_pos h0, h0] at this; exact this
          have big : Ev fun m => on.length < m := ⟨on.length + 1, fun m hm => by omega⟩
          have e1 := ((ev on rfl y).and ((ev _ lm true).and (ev _ lm false))).and (((ev _ lf true).and (ev _ lf false)).and ((ev _ lo true).and (ev _ lo false)))
          have e2 := (dp on rfl y).and ((dp _ lo true).and (dp _ lo false))
          refine Ev.succ ((((h8.and h9).and e1).and e2).and big |>.mono fun m hm => ?_)
          obtain ⟨⟨⟨⟨m8, m9⟩, ⟨c1, c2, c2'⟩, ⟨c3, c3'⟩, c4, c4'⟩, d1, d2, d2'⟩, hmb⟩ := hm
          have c2 : ∀ y, pcall E14 m 10 [enc t, .list y (bools (on.set i true))] [] = some (.tup [.bool (V (on.set i true) t), .int .i64 0], []) := fun y => by cases y <;> assumption
          have c3 : ∀ y, pcall E14 m 10 [enc t, .list y (bools (falses on.length))] [] = some (.tup [.bool (V (falses on.length) t), .int .i64 0], []) := fun y => by cases y <;> assumption
          have c4 : ∀ y, pcall E14 m 10 [enc t, .list y (bools (ones on.length))] [] = some (.tup [.bool (V (ones on.length) t), .int .i64 0], []) := fun y => by cases y <;> assumption
          have d2 : ∀ y, pcall E14 m 11 [enc t, .list y (bools (ones on.length))] [] = some (.tup [.int .i64 (D (ones on.length) t), .int .i64 0], []) := fun y => by cases y <;> assumption
          rw [V_falses hsh.1] at c3
          rw [V_ones hsh.1] at c4
          have hle : (List.length (bools on)) = on.length := bools_len on
          obtain ⟨v1, z1, hz1, a1⟩ := app25 (rd := rdF [1] [.var (enc t), .arr 0 1 []]) (k := 2) (o := 1) (v := 0) (z := 1) (xs := []) (ys := on) (x := .list y (bools on)) (src_bools _ _ _) rfl (.inl rfl) (by simp; omega)
          simp only [List.nil_append] at hz1 a1
          have hz1 : z1 = 1 := by
            have : (bools on)[0]? = some (.bool (on[0]'(by omega))) := by simp [bools]
            exact hz1.of (List.mem_of_getElem? this)
          subst hz1
          have hw : IntKind.i64.wrap (a : Int) = (a : Int) := i64w (by omega) (by omega)
          have hrem : justO (aBin (Envt.P E14) .rem 3 (.int .i64 (IntKind.i64.wrap (a : Int))) (.int .i64 ((List.length (bools on) : Nat) : Int))) = some ⟨.int .i64 (i : Int), []⟩ := by
            rw [hw, hle, hi]; exact rem3 a on.length (by omega)
          have hst := store4 (rd := rdF [1] [.var (enc t), .arr v1 1 (bools on)]) (k := 2) (o := 1) (v := v1) (i := i) (l := on) (b := true) rfl hilt
          obtain ⟨y2, s2⟩ := snapT (rd := rdF [1] [.var (enc t), .arr v1 1 (bools (on.set i true))]) (t := t) (o := 1) (v := v1) (z := 1) (l := on.set i true) (n := on.length) rfl lm.symm
          have hmk2 := make25 2 on.length (by omega)
          have hlf : bools (List.replicate on.length false) = bools (falses on.length) := rfl
          rw [hlf] at hmk2
          obtain ⟨y3, s3⟩ := snapT (rd := rdF [2] [.var (enc t), .arr v1 1 (bools (on.set i true)), .arr 0 1 (bools (falses on.length))]) (t := t) (o := 2) (v := 0) (z := 1) (l := falses on.length) (n := on.length) rfl lf.symm
          have hln := aLenG (P := Envt.P E14) (rd := rdF [2] [.var (enc t), .arr v1 1 (bools (on.set i true)), .arr 0 1 (bools (falses on.length))]) (t := 25) (o := 2) (v := 0) (z := 1) (xs := bools (falses on.length)) (n := on.length) u25 rfl (by rw [bools_len, lf])
          obtain ⟨out, hl, x, b, rfl⟩ := LoopM.inv (E := E14) (call := pcall E14 m) (n := m) (k0 := 0) (f := 4) (p := [1, 1, 1, 1, 1, 1, 1, 1, 1, 0, 1, 0]) (fun i => on.length - i)
            (fun j env σ => j ≤ on.length ∧ env = [(1, .list y (bools on)), (3, .refv 0 0), (7, .bool (V on t)), (10, .bool (V (on.set i true) t)), (11, .int .i64 0), (12, .own 2 0 0 on.length), (13, .bool false), (14, .int .i64 0), (71, .int .i64 (on.length : Int)), (72, .int .i64 (j : Int))] ∧
              σ = [.var (enc t), .arr v1 1 (bools (on.set i true)), .arr 0 1 (bools (part on.length j))])
            (fun out => ∃ x b, out = (.exit 0, [(1, .list y (bools on)), (3, .refv 0 0), (7, .bool (V on t)), (10, .bool (V (on.set i true) t)), (11, .int .i64 0), (12, .own 2 0 0 on.length), (13, .bool false), (14, .int .i64 0), (71, .int .i64 (on.length : Int)), (72, .int .i64 x), (73, .bool b)],
              [.var (enc t), .arr v1 1 (bools (on.set i true)), .arr 0 1 (bools (ones on.length))]))
            (fun j env σ ⟨hj, he, hσ⟩ => by
              subst he; subst hσ
              obtain ⟨k, n, ks⟩ := t
              by_cases hlt : j < on.length
              · left
                have hst := store4 (rd := rdF [2] [.var (enc (.mk k n ks)), .arr v1 1 (bools (on.set i true)), .arr 0 1 (bools (part on.length j))]) (k := 3) (o := 2) (v := 0) (i := j) (l := part on.length j) (b := true) rfl (by rw [part_len hj]; exact hlt)
                rw [part_set hlt] at hst
                refine ⟨j + 1, _, _, by omega, tbody_sound (f4_l1_2 (pcall E14 m) m k n (encs ks) y (bools on) _ v1 1 (bools (on.set i true)) _ 0 on.length 1 false 0 on.length j (bools (part on.length j)) (bools (part on.length (j + 1)))) ⟨⟨⟨trivial, by simp; omega⟩, ix25 rfl (by rw [part_len hj]; exact hlt) (part_len hj).symm⟩, hst⟩, by omega, ?_, rfl⟩
                rw [wnextn j (by omega)]
              · right
                obtain rfl : j = on.length := by omega
                rw [part_all]
                exact ⟨_, tbody_sound (f4_l1_1 (pcall E14 m) m k n (encs ks) y (bools on) _ v1 1 (bools (on.set i true)) _ 0 on.length 1 false 0 on.length on.length (bools (ones on.length))) ⟨trivial, by simp⟩, by simp, _, _, rfl⟩)
            m 0 _ _ ⟨by omega, rfl, rfl⟩ (by omega)
          have hp0 : part on.length 0 = falses on.length := by simp [part, falses]
          rw [hp0] at hl
          obtain ⟨y4, s4⟩ := snapT (rd := rdF [2] [.var (enc t), .arr v1 1 (bools (on.set i true)), .arr 0 1 (bools (ones on.length))]) (t := t) (o := 2) (v := 0) (z := 1) (l := ones on.length) (n := on.length) rfl lo.symm
          have g1 : D on t ≤ D (ones on.length) t := D_mono (le_ones on) t
          have g2 := D_leaves (ones on.length) t hsh.1
          rw [hsh.2.2] at g2
          have g4 := D_bound on t
          have gv : V on t = true → V (on.set i true) t = true := V_mono (le_set on i) t
          have k1 : (decide (D on t ≤ D (ones on.length) t) == true) = true := by simpa using g1
          have k2 : (decide (D (ones on.length) t < ((List.length (bools on) : Nat) : Int)) == true) = true := by rw [hle]; simp; omega
          have fin : decide (D on t ≥ 0) = true := decide_eq_true (by omega)
          obtain ⟨k, n, ks⟩ := t
          cases hv : V on (.mk k n ks) with
          | true =>
            have gv := gv hv
            rw [hv] at c1 hl
            have c2 := c2 y2
            rw [gv] at c2 hl
            have := tfun_sound (f4_5 (pcall E14 m) m k n (encs ks) y (bools on) a 0 true 0 v1 on.length 1 (bools on) i (bools (on.set i true)) y2 true 0 on.length 1 (bools (falses on.length)) y3 false 0 on.length x b (bools (ones on.length)) y4 true 0 (D on (.mk k n ks)) 0 y4 (D (ones on.length) (.mk k n ks)) 0 true)
              ⟨⟨⟨⟨⟨⟨⟨⟨⟨⟨⟨⟨⟨⟨⟨⟨⟨⟨⟨⟨⟨⟨⟨⟨⟨⟨⟨⟨⟨⟨⟨⟨⟨⟨⟨trivial, m8⟩, rfl⟩, q3⟩, q4⟩, c1⟩, rfl⟩, a1⟩, hrem⟩, ix25 rfl hilt rfl⟩, hst⟩, s2⟩, c2⟩, by rw [hle]; exact hmk2⟩, s3⟩, c3 y3⟩, hln⟩, hl⟩, s4⟩, c4 y4⟩, d1⟩, s4⟩, d2 y4⟩, m9⟩, rfl⟩, rfl⟩, rfl⟩, rfl⟩, rfl⟩, rfl⟩, rfl⟩, rfl⟩, rfl⟩, rfl⟩, k1⟩, k2⟩
            rw [fin] at this
            exact this
          | false =>
            rw [hv] at c1 hl
            have := tfun_sound (f4_6 (pcall E14 m) m k n (encs ks) y (bools on) a 0 false 0 v1 on.length 1 (bools on) i (bools (on.set i true)) y2 (V (on.set i true) (.mk k n ks)) 0 on.length 1 (bools (falses on.length)) y3 false 0 on.length x b (bools (ones on.length)) y4 true 0 (D on (.mk k n ks)) 0 y4 (D (ones on.length) (.mk k n ks)) 0 true)
              ⟨⟨⟨⟨⟨⟨⟨⟨⟨⟨⟨⟨⟨⟨⟨⟨⟨⟨⟨⟨⟨⟨⟨⟨⟨⟨⟨⟨⟨⟨⟨⟨⟨⟨trivial, m8⟩, rfl⟩, q3⟩, q4⟩, c1⟩, rfl⟩, a1⟩, hrem⟩, ix25 rfl hilt rfl⟩, hst⟩, s2⟩, c2 y2⟩, by rw [hle]; exact hmk2⟩, s3⟩, c3 y3⟩, hln⟩, hl⟩, s4⟩, c4 y4⟩, d1⟩, s4⟩, d2 y4⟩, m9⟩, rfl⟩, rfl⟩, rfl⟩, rfl⟩, rfl⟩, rfl⟩, rfl⟩, rfl⟩, rfl⟩, k1⟩, k2⟩
            rw [fin] at this
            exact this
        · refine Ev.succ (((h8.and h9).and h10).mono fun m hm => ?_)
          obtain ⟨⟨m8, m9⟩, m10⟩ := hm
          rw [if_neg h0] at m10
          obtain ⟨k, n, ks⟩ := t
          exact tfun_sound (f4_4 (pcall E14 m) m k n (encs ks) y (bools on) at' 0 false (Chk (.mk k n ks) on.length) true) ⟨⟨⟨⟨⟨⟨⟨trivial, m8⟩, rfl⟩, q3⟩, q4⟩, m10⟩, by simpa using h0⟩, m9⟩
end Go.L14

namespace Go.Proofs.YtpififklhcfcnaaDoor
open Go.ChangeShapes Go.WideShapes Go.RowKit Go.Bb Go.L14

theorem own : ownKnob Tryd.prog.godebug = none := by kernel_rfl
theorem gSigns : Tryd.prog.globalNamed "busbar/tree.signs" = some 0 := by kernel_rfl
theorem tSigns : (Tryd.prog.globals[0]?).map (·.type) = some 65 := by kernel_rfl
theorem laidOut14 : laidOutB Tryd.prog = true := by kernel_rfl
theorem mixed14 : Tryd.prog.follows .mixedOrders = true := by kernel_rfl
theorem plain14 : plainSet Tryd.prog [3, 4, 5, 22, 24, 25] = true := by kernel_rfl
def laid14 : List (String × DataW Unit) := [("math/bits.deBruijn32tab", Rows.laid_math_bits_deBruijn32tab), ("math/bits.deBruijn64tab", Rows.laid_math_bits_deBruijn64tab), ("internal/strconv.uint64pow10", Rows.laid_internal_strconv_uint64pow10), ("busbar/tree.signs", Rows.laid_busbar_tree_signs)]

/-- The door's own heap meets the condition. -/
theorem door_met (os : Os) (args : Array Value) : laidMetH Tryd.prog laid14 ((World.doorLaid Tryd.prog 400 os).forCall (fun _ _ => 0) ⟨#[], args, []⟩).memory :=
  laidMetH_of_parts3 (fuel := 8) (laidMet_of_run' 8 (by kernel_rfl) (by kernel_rfl)) (by kernel_rfl) (by kernel_rfl)

/-- The listed table, as the evaluator has it. -/
theorem gok14 {W : World} (h : laidMetH Tryd.prog laid14 W) : GOk E14 W (fun b => b < W.heap.size) := by
  rw [MakeChecks.laidMetH_plain _ _ _ (by kernel_rfl)] at h
  obtain ⟨ps, ⟨_, _, _, _, _, _, _, _, _, _, ⟨_, _, _, _, _, _, _, _, _, _, ⟨_, _, _, _, _, _, _, _, _, _, ⟨g3, t3, cs3, f3, p3, q3, hg3, ht3, hv3, hd3, _, _⟩, _⟩, _⟩, _⟩, _, _⟩ := h
  obtain rfl := Option.some.inj (gSigns.symm.trans hg3)
  obtain rfl := Option.some.inj (tSigns.symm.trans ht3)
  intro g x hx
  have hx' : (cond (Nat.beq g 0) (some signsP) none) = some x := hx
  cases hb : Nat.beq g 0 with
  | false => rw [hb] at hx'; cases hx'
  | true =>
    obtain rfl := Nat.eq_of_beq_eq_true hb
    rw [hb] at hx'
    obtain rfl := (Option.some.inj hx').symm
    exact laid_rep laidOut14 plain65 gSigns (by kernel_rfl) hv3 hd3 (Nat.le_of_ble_eq_true (by kernel_rfl))
end Go.Proofs.YtpififklhcfcnaaDoor

