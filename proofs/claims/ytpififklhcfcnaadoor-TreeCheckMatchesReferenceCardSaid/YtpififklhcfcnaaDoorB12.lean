/- The library's contract at this dump; what the listed variables hold. Law 14's arguments; its example. Eval, StackDepth, Check, Leaves and Equal against the reference. Law 14's rows: what they have in common. -/
import Derived.Test.YtpififklhcfcnaaDoorB7
import Derived.Test.YtpififklhcfcnaaDoorRows
import Derived.Test.YtpififklhcfcnaaDoorTie
import Derived.Test.YtpififklhcfcnaaDoorCards
import Derived.Test.YtpififklhcfcnaaDoorB11
import Derived.ChangeSame
import Derived.ChangeVars
import Derived.JoinedOf
import Derived.RowKit
import Derived.SevenTiedAt
import Derived.Handed
import Derived.LaidMore
import Derived.ProofKit
namespace Go.Proofs
open Go.Shelf
def Tryd.laysJoin_ren : Go.Shelf.Ren := ⟨fun | 156 => 33 | 165 => 39 | 166 => 40 | 169 => 41 | 240 => 44 | 241 => 45 | 276 => 50 | 277 => 51 | n => n, fun | 31 => 66 | 9 => 9 | 3 => 3 | 4 => 4 | 0 => 0 | 20 => 20 | 72 => 73 | 76 => 77 | 70 => 70 | 37 => 71 | 75 => 76 | 127 => 82 | 164 => 89 | 5 => 5 | 80 => 79 | n => n, fun | n => n⟩
theorem Tryd.laysJoin : Go.Proofs.Lays.n156 Tryd.prog Tryd.laysJoin_ren := {
  mixed := by kernel_rfl
  f156 := Tryd.func33.trans (congrArg some (by kernel_rfl))
  f165 := Tryd.func39.trans (congrArg some (by kernel_rfl))
  f166 := Tryd.func40.trans (congrArg some (by kernel_rfl))
  f169 := Tryd.func41.trans (congrArg some (by kernel_rfl))
  f240 := Tryd.func44.trans (congrArg some (by kernel_rfl))
  f241 := Tryd.func45.trans (congrArg some (by kernel_rfl))
  f276 := Tryd.func50.trans (congrArg some (by kernel_rfl))
  f277 := Tryd.func51.trans (congrArg some (by kernel_rfl))
  t0 := Tryd.underlying0
  a0 := Tryd.isAgg0
  z0 := Tryd.sizeOf0
  v0 := Tryd.zeroValue0
  t3 := Tryd.underlying3
  a3 := Tryd.isAgg3
  z3 := Tryd.sizeOf3
  v3 := Tryd.zeroValue3
  t4 := Tryd.underlying4
  a4 := Tryd.isAgg4
  z4 := Tryd.sizeOf4
  v4 := Tryd.zeroValue4
  t9 := Tryd.underlying9
  a9 := Tryd.isAgg9
  z9 := Tryd.sizeOf9
  v9 := Tryd.zeroValue9
  t20 := Tryd.underlying20
  a20 := Tryd.isAgg20
  z20 := Tryd.sizeOf20
  v20 := Tryd.zeroValue20
  t31 := Tryd.underlying66
  a31 := Tryd.isAgg66
  z31 := Tryd.sizeOf66
  v31 := Tryd.zeroValue66
  t37 := Tryd.underlying71
  a37 := Tryd.isAgg71
  z37 := Tryd.sizeOf71
  v37 := Tryd.zeroValue71
  t70 := Tryd.underlying70
  a70 := Tryd.isAgg70
  z70 := Tryd.sizeOf70
  v70 := Tryd.zeroValue70
  t72 := Tryd.underlying73
  a72 := Tryd.isAgg73
  z72 := Tryd.sizeOf73
  v72 := Tryd.zeroValue73
  t75 := Tryd.underlying76
  a75 := Tryd.isAgg76
  z75 := Tryd.sizeOf76
  v75 := Tryd.zeroValue76
  t76 := Tryd.underlying77
  a76 := Tryd.isAgg77
  z76 := Tryd.sizeOf77
  v76 := Tryd.zeroValue77
  t127 := Tryd.underlying82
  a127 := Tryd.isAgg82
  z127 := Tryd.sizeOf82
  v127 := Tryd.zeroValue82
  t164 := Tryd.underlying89
  a164 := Tryd.isAgg89
  z164 := Tryd.sizeOf89
  v164 := Tryd.zeroValue89 }
theorem Tryd.joinExtra : Builder.Extra Tryd.prog Tryd.laysJoin_ren := {
  sizeBuilder := by kernel_rfl
  liesBuilder := by kernel_rfl
  t5 := Tryd.underlying5
  a5 := Tryd.isAgg5
  z5 := Tryd.sizeOf5
  v5 := Tryd.zeroValue5
  infoByte := by kernel_rfl
  cellsByte := by kernel_rfl
  sizeByte := by kernel_rfl
  neB5 := by decide }
end Go.Proofs
namespace Go.L14
open Go Go.Bb Go.Proofs Go.RowKit Go.ChangeShapes

theorem prim14 : PrimOk E14 := by
  intro f g hg args res σ' h
  have hf : f = 33 ∧ g = joinP := by
    have hg' : (cond (Nat.beq f 33) (some joinP) none) = some g := hg
    cases hb : Nat.beq f 33 with
    | false => rw [hb] at hg'; cases hg'
    | true => rw [hb] at hg'; exact ⟨Nat.eq_of_beq_eq_true hb, (Option.some.inj hg').symm⟩
  obtain ⟨rfl, rfl⟩ := hf
  refine ⟨⟨Tryd.f33, _, Tryd.func33, by kernel_rfl, rfl⟩, fun w M0 Y Z L vs sim _ hsz hr => ?_⟩
  exact joinP_calls Tryd.laysJoin Tryd.joinExtra h sim hsz hr

theorem plain65 : plainSet Tryd.prog [5, 64, 65] = true := by kernel_rfl
end Go.L14

namespace Go.L14
open Go Go.Bb

theorem alive9 : Has E14 9 [] [] (.bool true, []) := Has.of_run 200 (by kernel_rfl)

theorem ty_int {P : Program} {t : TypeId} {k : IntKind} {ys : List PV} (hu : P.underlying t = some (.int k)) (h : Ty P t ys) : ∃ n, ys = [.int k n] ∧ k.min ≤ n ∧ n ≤ k.max := by
  cases h with
  | int hu' n hw =>
    rw [hu] at hu'; injection hu' with hu'; injection hu' with hu'; subst hu'
    exact ⟨n, rfl, by simpa [Lit.wf] using hw⟩
  | bool hu' => rw [hu] at hu'; simp at hu'
  | str hu' => rw [hu] at hu'; simp at hu'
  | list hu' => rw [hu] at hu'; simp at hu'
  | struct hu' => rw [hu] at hu'; simp at hu'
  | array hu' => rw [hu] at hu'; simp at hu'
theorem ty_bool {P : Program} {t : TypeId} {ys : List PV} (hu : P.underlying t = some .bool) (h : Ty P t ys) : ∃ b, ys = [.bool b] := by
  cases h with
  | bool hu' b => exact ⟨b, rfl⟩
  | int hu' => rw [hu] at hu'; simp at hu'
  | str hu' => rw [hu] at hu'; simp at hu'
  | list hu' => rw [hu] at hu'; simp at hu'
  | struct hu' => rw [hu] at hu'; simp at hu'
  | array hu' => rw [hu] at hu'; simp at hu'
theorem ty_list {P : Program} {t e : TypeId} {ys : List PV} (hu : P.underlying t = some (.slice e)) (h : Ty P t ys) : ∃ xs, ys = [.list false xs] ∧ xs.length ≤ maxLen ∧ (∀ x ∈ xs, Ty P e (cellsOf x)) ∧ (∀ x ∈ xs, x = wrapT P e (cellsOf x)) := by
  cases h with
  | list hu' xs hl h hw =>
    rw [hu] at hu'; injection hu' with hu'; injection hu' with hu'; subst hu'
    exact ⟨xs, rfl, hl, h, hw⟩
  | int hu' => rw [hu] at hu'; simp at hu'
  | str hu' => rw [hu] at hu'; simp at hu'
  | bool hu' => rw [hu] at hu'; simp at hu'
  | struct hu' => rw [hu] at hu'; simp at hu'
  | array hu' => rw [hu] at hu'; simp at hu'
/-- A list of values that each come of something comes of a list. -/
theorem list_of {α : Type} (p : α → Prop) (en : α → PV) : ∀ (xs : List PV), (∀ x ∈ xs, ∃ a, p a ∧ x = en a) → ∃ l : List α, xs = l.map en ∧ ∀ a ∈ l, p a
  | [], _ => ⟨[], rfl, by simp⟩
  | x :: r, h => by
    obtain ⟨a, ha, he⟩ := h x (by simp)
    obtain ⟨l, hl, hp⟩ := list_of p en r fun x hx => h x (List.mem_cons_of_mem _ hx)
    refine ⟨a :: l, by rw [he, hl]; rfl, fun b hb => ?_⟩
    rcases List.mem_cons.1 hb with rfl | hb
    · exact ha
    · exact hp b hb
theorem ty_bools {P : Program} {t e : TypeId} {ys : List PV} (hu : P.underlying t = some (.slice e)) (he : P.underlying e = some .bool) (h : Ty P t ys) : ∃ on, ys = [.list false (bools on)] ∧ on.length ≤ maxLen := by
  obtain ⟨xs, rfl, hl, h1, h2⟩ := ty_list hu h
  obtain ⟨l, rfl, _⟩ := list_of (fun _ : Bool => True) .bool xs fun x hx => by
    obtain ⟨b, hb⟩ := ty_bool he (h1 x hx)
    have := h2 x hx
    rw [hb] at this
    refine ⟨b, trivial, ?_⟩
    rw [this]; simp [wrapT, aggT, he]
  exact ⟨l, rfl, by simpa using hl⟩

theorem encs_map : ∀ ks, encs ks = ks.map enc
  | [] => rfl
  | t :: r => by simp [encs, encs_map r]
theorem u3 : Go.Proofs.Tryd.prog.underlying 3 = some (.int .i64) := by kernel_rfl
theorem u4 : Go.Proofs.Tryd.prog.underlying 4 = some .bool := by kernel_rfl
theorem f24 : (Go.Proofs.Tryd.prog.underlying 24).map (fun d => match d with
  | .struct fs => fs.toList.map (·.type)
  | _ => []) = some [3, 3, 22] := by kernel_rfl
theorem a24 : aggT Go.Proofs.Tryd.prog 24 = true := by kernel_rfl

theorem ty_tree {t : TypeId} {ys : List PV} (h : Ty Go.Proofs.Tryd.prog t ys) : (t = 24 → ∃ x : T, x.ok ∧ enc x = .agg ys) ∧ (t = 22 → ∃ ks : List T, ks.length ≤ maxLen ∧ (∀ x ∈ ks, x.ok) ∧ ys = [.list false (encs ks)]) := by
  induction h with
  | list hu xs hl h hw ih =>
    refine ⟨fun ht => ?_, fun ht => ?_⟩
    · subst ht; have := f24; rw [hu] at this; simp at this
    · subst ht
      rw [u22] at hu; injection hu with hu; injection hu with hu; subst hu
      obtain ⟨l, rfl, hp⟩ := list_of (fun x : T => x.ok) enc xs fun x hx => by
        obtain ⟨a, ha, he⟩ := (ih x hx).1 rfl
        refine ⟨a, ha, ?_⟩
        have := hw x hx
        rw [this, he]; simp [wrapT, a24]
      exact ⟨l, by simpa using hl, hp, by rw [encs_map]⟩
  | struct hu yss ys he hl h ih =>
    refine ⟨fun ht => ?_, fun ht => ?_⟩
    · subst ht
      rename_i fs
      have h3 := f24
      rw [hu] at h3
      simp only [Option.map_some, Option.some.injEq] at h3
      have hs : fs.size = 3 := by have := congrArg List.length h3; simpa using this
      rw [hs] at hl
      obtain ⟨a, b, c, rfl⟩ : ∃ a b c, yss = [a, b, c] := by
        match yss, hl with
        | [a, b, c], _ => exact ⟨a, b, c, rfl⟩
      have fld : ∀ (i : Nat) (t : TypeId), [3, 3, 22][i]? = some t → ∃ f, fs[i]? = some f ∧ f.type = t := fun i t hi => by
        rw [← h3, List.getElem?_map] at hi
        obtain ⟨f, e1, e2⟩ := Option.map_eq_some_iff.1 hi
        exact ⟨f, by simpa using e1, e2⟩
      obtain ⟨f0, g0, e0⟩ := fld 0 3 rfl
      obtain ⟨f1, g1, e1⟩ := fld 1 3 rfl
      obtain ⟨f2, g2, e2⟩ := fld 2 22 rfl
      obtain ⟨k, rfl, hk⟩ := ty_int (e0 ▸ u3) (h 0 f0 a g0 rfl)
      obtain ⟨n, rfl, hn⟩ := ty_int (e1 ▸ u3) (h 1 f1 b g1 rfl)
      obtain ⟨ks, q1, q2, rfl⟩ := (ih 2 f2 c g2 rfl).2 e2
      refine ⟨.mk k n ks, ?_, by rw [he]; rfl⟩
      unfold T.ok
      exact ⟨hk, hn, q1, q2⟩
    · subst ht; rw [u22] at hu; simp at hu
  | bool hu => exact ⟨fun ht => by subst ht; have := f24; rw [hu] at this; simp at this, fun ht => by subst ht; rw [u22] at hu; simp at hu⟩
  | int hu => exact ⟨fun ht => by subst ht; have := f24; rw [hu] at this; simp at this, fun ht => by subst ht; rw [u22] at hu; simp at hu⟩
  | str hu => exact ⟨fun ht => by subst ht; have := f24; rw [hu] at this; simp at this, fun ht => by subst ht; rw [u22] at hu; simp at hu⟩
  | array hu => exact ⟨fun ht => by subst ht; have := f24; rw [hu] at this; simp at this, fun ht => by subst ht; rw [u22] at hu; simp at hu⟩

theorem arg_tree {x : PV} (h : Ty Go.Proofs.Tryd.prog 24 (cellsOf x)) (hw : x = wrapT Go.Proofs.Tryd.prog 24 (cellsOf x)) : ∃ t : T, t.ok ∧ x = enc t := by
  obtain ⟨t, h1, h2⟩ := (ty_tree h).1 rfl
  exact ⟨t, h1, by rw [h2, hw]; simp [wrapT, a24, cellsOf]⟩
theorem arg_bools {x : PV} (h : Ty Go.Proofs.Tryd.prog 25 (cellsOf x)) (hw : x = wrapT Go.Proofs.Tryd.prog 25 (cellsOf x)) : ∃ on, on.length ≤ maxLen ∧ x = .list false (bools on) := by
  obtain ⟨on, h1, h2⟩ := ty_bools u25 u4 h
  exact ⟨on, h2, by rw [hw, h1]; simp [wrapT, aggT, u25]⟩
theorem arg_int {x : PV} {t : TypeId} {k : IntKind} (hu : Go.Proofs.Tryd.prog.underlying t = some (.int k)) (h : Ty Go.Proofs.Tryd.prog t (cellsOf x)) (hw : x = wrapT Go.Proofs.Tryd.prog t (cellsOf x)) : ∃ n, (k.min ≤ n ∧ n ≤ k.max) ∧ x = .int k n := by
  obtain ⟨n, h1, h2⟩ := ty_int hu h
  exact ⟨n, h2, by rw [hw, h1]; simp [wrapT, aggT, hu]⟩
theorem arg_bool {x : PV} (h : Ty Go.Proofs.Tryd.prog 4 (cellsOf x)) (hw : x = wrapT Go.Proofs.Tryd.prog 4 (cellsOf x)) : ∃ b, x = .bool b := by
  obtain ⟨b, h1⟩ := ty_bool u4 h
  exact ⟨b, by rw [hw, h1]; simp [wrapT, aggT, u4]⟩
end Go.L14

namespace Go.L14
open Go Go.Bb

theorem big8 (t : T) (h : W t 0 > 1000) : (if W t 0 > 1000 then (1 : Int) else 0) = 1 := if_pos h
theorem small8 (t : T) (h : ¬ W t 0 > 1000) : (if W t 0 > 1000 then (1 : Int) else 0) = 0 := if_neg h
theorem sz_of_W {t : T} (h : ¬ W t 0 > 1000) : sz t ≤ 1000 := by
  have := W_sz t 0 (by omega)
  omega
theorem bools_length (l : List Bool) : ((List.length (bools l) : Nat) : Int) = l.length := by simp [bools]

theorem law3 (t : T) (hok : t.ok) (y : Bool) (on : List Bool) : Has E14 3 [enc t, .list y (bools on)] [] (.bool true, []) := by
  have h8 := tooLarge8 t hok
  have h9 := alive9
  have hbl := bools_length on
  by_cases hW : W t 0 > 1000
  · rw [big8 t hW] at h8
    refine Ev.succ ((h8.and h9).mono fun m hm => ?_)
    obtain ⟨k, n, ks⟩ := t
    exact tfun_sound (f3_1 (pcall E14 m) m k n (encs ks) y (bools on) 1 true) ⟨⟨⟨trivial, hm.1⟩, rfl⟩, hm.2⟩
  · rw [small8 t hW] at h8
    have hs := sz_of_W hW
    by_cases hon : on.length > 1000
    · refine Ev.succ ((h8.and h9).mono fun m hm => ?_)
      obtain ⟨k, n, ks⟩ := t
      exact tfun_sound (f3_2 (pcall E14 m) m k n (encs ks) y (bools on) 0 true) ⟨⟨⟨⟨trivial, hm.1⟩, rfl⟩, by rw [hbl]; simp; omega⟩, hm.2⟩
    · have q3 : decide ((List.length (bools on) : Int) > 1000) = false := by rw [hbl]; exact decide_eq_false (by omega)
      have h10 := eval10 y on t hok
      have h11 := depth11 y on t hok (by omega)
      have h12 := of12 t hok (by omega)
      have h13 := check13 t hok (by omega)
      by_cases h0 : Chk t on.length = 0
      · have h14 := reval y on t hok (Chk_fits h0)
        have h15 := rdepth y on t hok (by omega) (Chk_fits h0) (Chk_two h0)
        refine Ev.succ (((((((h8.and h9).and h10).and h11).and h12).and h13).and (h14.and h15)).mono fun m hm => ?_)
        obtain ⟨⟨⟨⟨⟨⟨m8, m9⟩, m10⟩, m11⟩, m12⟩, m13⟩, m14, m15⟩ := hm
        have m13 := m13 on.length
        rw [if_pos h0] at m10 m11
        rw [h0] at m10 m11 m13
        rw [← hbl] at m13
        obtain ⟨k, n, ks⟩ := t
        have := tfun_sound (f3_4 (pcall E14 m) m k n (encs ks) y (bools on) 0 (V on (.mk k n ks)) 0 (D on (.mk k n ks)) 0 k n (encs ks) 0 true (V on (.mk k n ks)) (D on (.mk k n ks)))
          ⟨⟨⟨⟨⟨⟨⟨⟨⟨⟨⟨⟨⟨⟨⟨trivial, m8⟩, rfl⟩, q3⟩, m10⟩, m11⟩, m12⟩, m13⟩, rfl⟩, m9⟩, rfl⟩, rfl⟩, rfl⟩, m14⟩, by simp⟩, m15⟩
        refine Eq.trans this ?_
        simp
      · refine Ev.succ ((((((h8.and h9).and h10).and h11).and h12).and h13).mono fun m hm => ?_)
        obtain ⟨⟨⟨⟨⟨m8, m9⟩, m10⟩, m11⟩, m12⟩, m13⟩ := hm
        have m13 := m13 on.length
        rw [if_neg h0] at m10 m11
        rw [← hbl] at m13
        obtain ⟨k, n, ks⟩ := t
        have := tfun_sound (f3_3 (pcall E14 m) m k n (encs ks) y (bools on) 0 false (Chk (.mk k n ks) on.length) 0 (Chk (.mk k n ks) on.length) k n (encs ks) (Chk (.mk k n ks) (List.length (bools on))) true)
          ⟨⟨⟨⟨⟨⟨⟨⟨⟨⟨⟨⟨⟨trivial, m8⟩, rfl⟩, q3⟩, m10⟩, m11⟩, m12⟩, m13⟩, by rw [hbl]; simpa using h0⟩, m9⟩, rfl⟩, rfl⟩, rfl⟩, by rw [hbl]; simp⟩
        refine Eq.trans this ?_
        rw [hbl]; simp

theorem law7 (t u : T) (hok : t.ok) (huk : u.ok) (many : Int) : Has E14 7 [enc t, enc u, .int .i64 many] [] (.bool true, []) := by
  have h8 := tooLarge8 t hok
  have g8 := tooLarge8 u huk
  have h9 := alive9
  by_cases hW : W t 0 > 1000
  · rw [big8 t hW] at h8
    refine Ev.succ ((h8.and h9).mono fun m hm => ?_)
    obtain ⟨k, n, ks⟩ := t
    obtain ⟨k2, n2, ks2⟩ := u
    exact tfun_sound (f7_1 (pcall E14 m) m k n (encs ks) k2 n2 (encs ks2) many 1 true) ⟨⟨⟨trivial, hm.1⟩, rfl⟩, hm.2⟩
  · rw [small8 t hW] at h8
    have hs := sz_of_W hW
    by_cases gW : W u 0 > 1000
    · rw [big8 u gW] at g8
      refine Ev.succ (((h8.and g8).and h9).mono fun m hm => ?_)
      obtain ⟨k, n, ks⟩ := t
      obtain ⟨k2, n2, ks2⟩ := u
      exact tfun_sound (f7_2 (pcall E14 m) m k n (encs ks) k2 n2 (encs ks2) many 0 1 true) ⟨⟨⟨⟨⟨trivial, hm.1.1⟩, rfl⟩, hm.1.2⟩, rfl⟩, hm.2⟩
    · rw [small8 u gW] at g8
      have gs := sz_of_W gW
      have h12 := of12 t hok (by omega)
      have g12 := of12 u huk (by omega)
      have h16 := check16_ev t hok
      have h13 := check13 t hok (by omega)
      have h20 := leaves20 t hok (by omega)
      have h21 := leaves21 t hok (by omega)
      have hlv := Lv_sz t
      have h19 := equal19 false false (Lv t) (by unfold maxLen; omega)
      have h22 := equal22 t hok u
      have h23 := equal23 t hok u
      have hself := equal22 t hok t
      rw [TE_refl] at hself
      refine Ev.succ ((((((h8.and g8).and h9).and (h12.and g12)).and (h16.and h13)).and ((h20.and h21).and h19)).and ((h22.and h23).and hself) |>.mono fun m hm => ?_)
      obtain ⟨⟨⟨⟨⟨⟨m8, n8⟩, m9⟩, m12, n12⟩, m16, m13⟩, ⟨m20, m21⟩, m19⟩, ⟨m22, m23⟩, ms⟩ := hm
      have m16 := m16 many
      have m13 := m13 many
      obtain ⟨k, n, ks⟩ := t
      obtain ⟨k2, n2, ks2⟩ := u
      exact tfun_sound (f7_3 (pcall E14 m) m k n (encs ks) k2 n2 (encs ks2) many 0 0 k n (encs ks) k2 n2 (encs ks2) true _ _ _ _ true _ _ true)
        ⟨⟨⟨⟨⟨⟨⟨⟨⟨⟨⟨⟨⟨⟨⟨⟨⟨⟨⟨trivial, m8⟩, rfl⟩, n8⟩, rfl⟩, m12⟩, n12⟩, m9⟩, rfl⟩, m16⟩, m13⟩, by simp⟩, m20⟩, m21⟩, m19⟩, rfl⟩, m22⟩, m23⟩, by simp⟩, ms⟩
end Go.L14

namespace Go.Proofs.YtpififklhcfcnaaDoor
open Go.ChangeShapes Go.WideShapes Go.RowKit Go.Bb Go.L14

theorem own : ownKnob Tryd.prog.godebug = none := by kernel_rfl
theorem gSigns : Tryd.prog.globalNamed "busbar/tree.signs" = some 0 := by kernel_rfl
theorem tSigns : (Tryd.prog.globals[0]?).map (·.type) = some 65 := by kernel_rfl
theorem laidOut14 : laidOutB Tryd.prog = true := by kernel_rfl
theorem mixed14 : Tryd.prog.follows .mixedOrders = true := by kernel_rfl
theorem plain14 : plainSet Tryd.prog [3, 4, 5, 22, 24, 25] = true := by kernel_rfl
def laid14 : List (String × DataW Unit) := [("math/bits.deBruijn32tab", Rows.laid_math_bits_deBruijn32tab), ("math/bits.deBruijn64tab", Rows.laid_math_bits_deBruijn64tab), ("internal/strconv.uint64pow10", Rows.laid_internal_strconv_uint64pow10), ("busbar/tree.signs", Rows.laid_busbar_tree_signs)]

/-- The door's own heap meets the condition. -/
theorem door_met (os : Os) (args : Array Value) : laidMetH Tryd.prog laid14 ((World.doorLaid Tryd.prog 400 os).forCall (fun _ _ => 0) ⟨#[], args, []⟩).memory :=
  laidMetH_of_parts3 (fuel := 8) (laidMet_of_run' 8 (by kernel_rfl) (by kernel_rfl)) (by kernel_rfl) (by kernel_rfl)

/-- The listed table, as the evaluator has it. -/
theorem gok14 {W : World} (h : laidMetH Tryd.prog laid14 W) : GOk E14 W (fun b => b < W.heap.size) := by
  rw [MakeChecks.laidMetH_plain _ _ _ (by kernel_rfl)] at h
  obtain ⟨ps, ⟨_, _, _, _, _, _, _, _, _, _, ⟨_, _, _, _, _, _, _, _, _, _, ⟨_, _, _, _, _, _, _, _, _, _, ⟨g3, t3, cs3, f3, p3, q3, hg3, ht3, hv3, hd3, _, _⟩, _⟩, _⟩, _⟩, _, _⟩ := h
  obtain rfl := Option.some.inj (gSigns.symm.trans hg3)
  obtain rfl := Option.some.inj (tSigns.symm.trans ht3)
  intro g x hx
  have hx' : (cond (Nat.beq g 0) (some signsP) none) = some x := hx
  cases hb : Nat.beq g 0 with
  | false => rw [hb] at hx'; cases hx'
  | true =>
    obtain rfl := Nat.eq_of_beq_eq_true hb
    rw [hb] at hx'
    obtain rfl := (Option.some.inj hx').symm
    exact laid_rep laidOut14 plain65 gSigns (by kernel_rfl) hv3 hd3 (Nat.le_of_ble_eq_true (by kernel_rfl))
end Go.Proofs.YtpififklhcfcnaaDoor

