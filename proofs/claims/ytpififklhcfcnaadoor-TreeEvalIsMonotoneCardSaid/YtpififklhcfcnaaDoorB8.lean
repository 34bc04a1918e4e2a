/-  -/
import Derived.Test.YtpififklhcfcnaaDoorB7
import Derived.Test.YtpififklhcfcnaaDoorB5
import Derived.Test.YtpififklhcfcnaaDoorB6
namespace Go.L14
open Go Go.Bb

inductive T where
  | mk (k n : Int) (ks : List T)
mutual
def enc : T → PV
  | .mk k n ks => .agg [.int .i64 k, .int .i64 n, .list false (encs ks)]
def encs : List T → List PV
  | [] => []
  | t :: r => enc t :: encs r
end
theorem encs_length : ∀ (ks : List T), (encs ks).length = ks.length
  | [] => rfl
  | _ :: r => by simp [encs, encs_length r]
theorem encs_get : ∀ (ks : List T) (i : Nat), (encs ks)[i]? = (ks[i]?).map enc
  | [], i => by simp [encs]
  | t :: r, 0 => by simp [encs]
  | t :: r, i + 1 => by simp [encs, encs_get r i]

mutual
def W : T → Int → Int
  | .mk _ _ ks, d => if d > 40 then 1001 else Ws ks d 1
def Ws : List T → Int → Int → Int
  | [], _, s => s
  | t :: r, d, s => if s + W t (d + 1) > 1000 then 1001 else Ws r d (s + W t (d + 1))
end
mutual
theorem W_bound : ∀ (t : T) (d : Int), 1 ≤ W t d ∧ W t d ≤ 1001
  | .mk _ _ ks, d => by
    unfold W
    split
    · omega
    · exact Ws_bound ks d 1 (by omega) (by omega)
theorem Ws_bound : ∀ (ks : List T) (d s : Int), 1 ≤ s → s ≤ 1000 → 1 ≤ Ws ks d s ∧ Ws ks d s ≤ 1001
  | [], _, s, h1, h2 => by unfold Ws; omega
  | t :: r, d, s, h1, h2 => by
    have := W_bound t (d + 1)
    unfold Ws
    split
    · omega
    · exact Ws_bound r d _ (by omega) (by omega)
end

theorem i64w {n : Int} (h0 : -9223372036854775808 ≤ n) (h1 : n ≤ 9223372036854775807) : IntKind.i64.wrap n = n := Go.Bb.i64w h0 h1

/-- An element of a list. -/
theorem idx_list {P : Program} {rd : Rd} {t e : TypeId} {y : Bool} {xs : List PV} {v : PV} {i : Nat} {k : IntKind} (hu : P.underlying t = some (.slice e)) (he : hasT P e = true) (hs : Nat.beq (cellsOf v).length (szOf P e) = true) (hx : xs[i]? = some v) :
    justO (aIndexAddr P rd t (.list y xs) (.int k i)) = some ⟨.ro y v, []⟩ := by
  simp [aIndexAddr, asIdx, hu, hx, he, hs, justO]

theorem u22 : Go.Proofs.Tryd.prog.underlying 22 = some (.slice 24) := by kernel_rfl

theorem weight_loop {n : Nat} {d : Int} (hd : d ≤ 40) (hd0 : 0 ≤ d) (ks : List T) (hks : ks.length ≤ maxLen) : ∀ (rest pre : List T) (s : Int) (m : Nat), ks = pre ++ rest → 1 ≤ s → s ≤ 1000 → rest.length < m →
    (∀ t ∈ rest, pcall E14 n 24 [enc t, .int .i64 (d + 1)] [] = some (.int .i64 (W t (d + 1)), [])) →
    (Ws rest d s = 1001 ∧ LoopM E14 (pcall E14 n) n m 0 24 [1, 1, 1, 0, 1, 0] [(1, .int .i64 d), (5, .int .i64 s), (11, .list false (encs ks)), (12, .int .i64 ks.length), (13, .int .i64 pre.length)] [] (.ret, [(4, .int .i64 1001)], [])) ∨
    LoopM E14 (pcall E14 n) n m 0 24 [1, 1, 1, 0, 1, 0] [(1, .int .i64 d), (5, .int .i64 s), (11, .list false (encs ks)), (12, .int .i64 ks.length), (13, .int .i64 pre.length)] []
      (.exit 0, [(1, .int .i64 d), (5, .int .i64 (Ws rest d s)), (11, .list false (encs ks)), (12, .int .i64 ks.length), (13, .int .i64 ks.length), (14, .bool (decide ((ks.length : Int) < ks.length)))], [])
  | [], pre, s, m, he, h1, h2, hm, hc => by
    obtain ⟨m, rfl⟩ : ∃ m', m = m' + 1 := ⟨m - 1, by simp at hm; omega⟩
    right
    have hp : pre.length = ks.length := by rw [he]; simp
    rw [hp]
    exact LoopM.last (tbody_sound (wb1 _ n d s ks.length ks.length (encs ks)) ⟨trivial, by simp⟩) (by simp)
  | .mk k0 n0 ls :: r, pre, s, m, he, h1, h2, hm, hc => by
    obtain ⟨m, rfl⟩ : ∃ m', m = m' + 1 := ⟨m - 1, by simp at hm; omega⟩
    have hb := W_bound (.mk k0 n0 ls) (d + 1)
    have hcall := hc (.mk k0 n0 ls) (by simp)
    have hlen : ks.length = pre.length + (r.length + 1) := by rw [he]; simp
    have hget : (encs ks)[pre.length]? = some (enc (.mk k0 n0 ls)) := by rw [encs_get, he]; simp
    have hix := idx_list (P := Go.Proofs.Tryd.prog) (rd := rdF [] []) (y := false) (k := .i64) u22 (by kernel_rfl) (v := enc (.mk k0 n0 ls)) (by kernel_rfl) hget
    have wd : IntKind.i64.wrap (d + 1) = d + 1 := i64w (by omega) (by omega)
    have ws : IntKind.i64.wrap (s + W (.mk k0 n0 ls) (d + 1)) = s + W (.mk k0 n0 ls) (d + 1) := i64w (by omega) (by omega)
    have wi : IntKind.i64.wrap ((pre.length : Int) + 1) = ((pre ++ [T.mk k0 n0 ls]).length : Int) := by
      rw [i64w (by omega) (by unfold maxLen at hks; omega)]; simp
    by_cases hbig : s + W (.mk k0 n0 ls) (d + 1) > 1000
    · left
      refine ⟨by unfold Ws; rw [if_pos hbig], LoopM.last (tbody_sound (wb3 _ n d s pre.length ks.length k0 n0 (W (.mk k0 n0 ls) (d + 1)) (encs ks) (encs ls)) ⟨⟨⟨⟨trivial, by simp; omega⟩, hix⟩, by rw [wd]; exact hcall⟩, by rw [ws]; simpa using hbig⟩) (by simp)⟩
    · have hbody := tbody_sound (wb2 (pcall E14 n) n d s pre.length ks.length k0 n0 (W (.mk k0 n0 ls) (d + 1)) (encs ks) (encs ls)) ⟨⟨⟨⟨trivial, by simp; omega⟩, hix⟩, by rw [wd]; exact hcall⟩, by rw [ws]; simpa using hbig⟩
      rw [ws, wi] at hbody
      have hW : Ws (.mk k0 n0 ls :: r) d s = Ws r d (s + W (.mk k0 n0 ls) (d + 1)) := by rw [Ws, if_neg hbig]
      rw [hW]
      rcases weight_loop hd hd0 ks hks r (pre ++ [.mk k0 n0 ls]) (s + W (.mk k0 n0 ls) (d + 1)) m (by rw [he]; simp) (by omega) (by omega) (by simp at hm; omega) (fun t ht => hc t (List.mem_cons_of_mem _ ht)) with ⟨g1, g2⟩ | g2
      · exact .inl ⟨g1, LoopM.next hbody g2⟩
      · exact .inr (LoopM.next hbody g2)

/-- The tree is one that memory holds. -/
def T.ok : T → Prop
  | .mk k n ks => (-9223372036854775808 ≤ k ∧ k ≤ 9223372036854775807) ∧ (-9223372036854775808 ≤ n ∧ n ≤ 9223372036854775807) ∧ ks.length ≤ maxLen ∧ ∀ t ∈ ks, t.ok

theorem has_weight : ∀ (t : T), t.ok → ∀ (d : Int), 0 ≤ d → d ≤ 41 → Has E14 24 [enc t, .int .i64 d] [] (.int .i64 (W t d), [])
  | .mk k n ks, hok, d, h0, h1 => by
    unfold T.ok at hok
    by_cases hd : d > 40
    · have hW : W (.mk k n ks) d = 1001 := by unfold W; rw [if_pos hd]
      rw [hW]
      exact Ev.succ (Ev.of fun m => tfun_sound (w1 (pcall E14 m) m k n d (encs ks)) ⟨trivial, by simpa using hd⟩)
    · have hW : W (.mk k n ks) d = Ws ks d 1 := by unfold W; rw [if_neg hd]
      have kids : Ev fun m => ∀ t ∈ ks, pcall E14 m 24 [enc t, .int .i64 (d + 1)] [] = some (.int .i64 (W t (d + 1)), []) :=
        Ev.all ks fun t ht => has_weight t (hok.2.2.2 t ht) (d + 1) (by omega) (by omega)
      have big : Ev fun m => ks.length < m := ⟨ks.length + 1, fun m hm => by omega⟩
      refine Ev.succ ((kids.and big).mono fun m hm => ?_)
      rw [hW]
      rcases weight_loop (n := m) (d := d) (by omega) h0 ks hok.2.2.1 ks [] 1 m rfl (by omega) (by omega) hm.2 hm.1 with ⟨g1, g2⟩ | g2
      · rw [g1]
        exact tfun_sound (w2 (pcall E14 m) m k n d 1001 (encs ks)) ⟨⟨trivial, by simpa using hd⟩, by rw [encs_length]; exact g2⟩
      · exact tfun_sound (w3 (pcall E14 m) m k n d (Ws ks d 1) ks.length ks.length (decide ((ks.length : Int) < ks.length)) (encs ks)) ⟨⟨trivial, by simpa using hd⟩, by rw [encs_length]; exact g2⟩
end Go.L14

namespace Go.L14
open Go Go.Bb

theorem index_loop_34 {n : Nat} (x : PV) (p : T → Bool) (ks : List T) (hks : ks.length ≤ maxLen) : ∀ (rest pre : List T) (m : Nat), ks = pre ++ rest → rest.length < m → (∀ t ∈ rest, pcall E14 n 34 [enc t, .ro true x] [] = some (.bool (p t), [])) →
    (∃ j : Int, 0 ≤ j ∧ rest.any p = true ∧ LoopM E14 (pcall E14 n) n m 0 42 [1, 0, 1, 0] [(0, .list false (encs ks)), (1, .clo 34 [.ro true x]), (7, .int .i64 ks.length), (8, .int .i64 pre.length)] [] (.ret, [(4, .int .i64 j)], [])) ∨
    (rest.any p = false ∧ LoopM E14 (pcall E14 n) n m 0 42 [1, 0, 1, 0] [(0, .list false (encs ks)), (1, .clo 34 [.ro true x]), (7, .int .i64 ks.length), (8, .int .i64 pre.length)] []
      (.exit 0, [(0, .list false (encs ks)), (1, .clo 34 [.ro true x]), (7, .int .i64 ks.length), (8, .int .i64 ks.length), (9, .bool (decide ((ks.length : Int) < ks.length)))], []))
  | [], pre, m, he, hm, hc => by
    obtain ⟨m, rfl⟩ : ∃ m', m = m' + 1 := ⟨m - 1, by simp at hm; omega⟩
    right
    have hp : pre.length = ks.length := by rw [he]; simp
    rw [hp]
    exact ⟨rfl, LoopM.last (tbody_sound (ib0_34 _ n x (encs ks) ks.length ks.length) ⟨trivial, by simp⟩) (by simp)⟩
  | .mk k0 n0 ls :: r, pre, m, he, hm, hc => by
    obtain ⟨m, rfl⟩ : ∃ m', m = m' + 1 := ⟨m - 1, by simp at hm; omega⟩
    have hcall := hc (.mk k0 n0 ls) (by simp)
    have hlen : ks.length = pre.length + (r.length + 1) := by rw [he]; simp
    have hget : (encs ks)[pre.length]? = some (enc (.mk k0 n0 ls)) := by rw [encs_get, he]; simp
    have hix := idx_list (P := Go.Proofs.Tryd.prog) (rd := rdF [] []) (y := false) (k := .i64) u22 (by kernel_rfl) (v := enc (.mk k0 n0 ls)) (by kernel_rfl) hget
    have wi : IntKind.i64.wrap ((pre.length : Int) + 1) = ((pre ++ [T.mk k0 n0 ls]).length : Int) := by
      rw [i64w (by omega) (by unfold maxLen at hks; omega)]; simp
    cases hp : p (.mk k0 n0 ls) with
    | true =>
      rw [hp] at hcall
      exact .inl ⟨pre.length, by omega, by simp [hp], LoopM.last (tbody_sound (ib2_34 _ n x (encs ks) (encs ls) ks.length pre.length k0 n0) ⟨⟨⟨trivial, by simp; omega⟩, hix⟩, hcall⟩) (by simp)⟩
    | false =>
      rw [hp] at hcall
      have hbody := tbody_sound (ib1_34 (pcall E14 n) n x (encs ks) (encs ls) ks.length pre.length k0 n0) ⟨⟨⟨trivial, by simp; omega⟩, hix⟩, hcall⟩
      rw [wi] at hbody
      rcases index_loop_34 x p ks hks r (pre ++ [.mk k0 n0 ls]) m (by rw [he]; simp) (by simp at hm; omega) (fun t ht => hc t (List.mem_cons_of_mem _ ht)) with ⟨j, g0, g1, g2⟩ | ⟨g1, g2⟩
      · exact .inl ⟨j, g0, by simp [g1], LoopM.next hbody g2⟩
      · exact .inr ⟨by simp [hp, g1], LoopM.next hbody g2⟩

theorem contains_34 (x : PV) (p : T → Bool) (ks : List T) (hks : ks.length ≤ maxLen) (hc : ∀ t ∈ ks, Has E14 34 [enc t, .ro true x] [] (.bool (p t), [])) :
    Has E14 35 [.list false (encs ks), .clo 34 [.ro true x]] [] (.bool (ks.any p), []) := by
  have kids := Ev.all (p := fun t m => pcall E14 m 34 [enc t, .ro true x] [] = some (.bool (p t), [])) ks hc
  have big : Ev fun m => ks.length < m := ⟨ks.length + 1, fun m hm => by omega⟩
  refine Ev.succ (Ev.succ ((kids.and big).mono fun m hm => ?_))
  rcases index_loop_34 (n := m) x p ks hks ks [] m rfl hm.2 hm.1 with ⟨j, g0, g1, g2⟩ | ⟨g1, g2⟩
  · have h42 := tfun_sound (ixa_34 (pcall E14 m) m x (encs ks) j) ⟨trivial, by rw [encs_length]; exact g2⟩
    have := tfun_sound (cf_34 (pcall E14 (m + 1)) (m + 1) x (encs ks) j) ⟨trivial, h42⟩
    rw [this, g1]
    simp; omega
  · have h42 := tfun_sound (ixb_34 (pcall E14 m) m x (encs ks) ks.length ks.length (decide ((ks.length : Int) < ks.length))) ⟨trivial, by rw [encs_length]; exact g2⟩
    have := tfun_sound (cf_34 (pcall E14 (m + 1)) (m + 1) x (encs ks) (-1)) ⟨trivial, h42⟩
    rw [this, g1]
    rfl

theorem index_loop_36 {n : Nat} (x : PV) (p : T → Bool) (ks : List T) (hks : ks.length ≤ maxLen) : ∀ (rest pre : List T) (m : Nat), ks = pre ++ rest → rest.length < m → (∀ t ∈ rest, pcall E14 n 36 [enc t, .ro true x] [] = some (.bool (p t), [])) →
    (∃ j : Int, 0 ≤ j ∧ rest.any p = true ∧ LoopM E14 (pcall E14 n) n m 0 42 [1, 0, 1, 0] [(0, .list false (encs ks)), (1, .clo 36 [.ro true x]), (7, .int .i64 ks.length), (8, .int .i64 pre.length)] [] (.ret, [(4, .int .i64 j)], [])) ∨
    (rest.any p = false ∧ LoopM E14 (pcall E14 n) n m 0 42 [1, 0, 1, 0] [(0, .list false (encs ks)), (1, .clo 36 [.ro true x]), (7, .int .i64 ks.length), (8, .int .i64 pre.length)] []
      (.exit 0, [(0, .list false (encs ks)), (1, .clo 36 [.ro true x]), (7, .int .i64 ks.length), (8, .int .i64 ks.length), (9, .bool (decide ((ks.length : Int) < ks.length)))], []))
  | [], pre, m, he, hm, hc => by
    obtain ⟨m, rfl⟩ : ∃ m', m = m' + 1 := ⟨m - 1, by simp at hm; omega⟩
    right
    have hp : pre.length = ks.length := by rw [he]; simp
    rw [hp]
    exact ⟨rfl, LoopM.last (tbody_sound (ib0_36 _ n x (encs ks) ks.length ks.length) ⟨trivial, by simp⟩) (by simp)⟩
  | .mk k0 n0 ls :: r, pre, m, he, hm, hc => by
    obtain ⟨m, rfl⟩ : ∃ m', m = m' + 1 := ⟨m - 1, by simp at hm; omega⟩
    have hcall := hc (.mk k0 n0 ls) (by simp)
    have hlen : ks.length = pre.length + (r.length + 1) := by rw [he]; simp
    have hget : (encs ks)[pre.length]? = some (enc (.mk k0 n0 ls)) := by rw [encs_get, he]; simp
    have hix := idx_list (P := Go.Proofs.Tryd.prog) (rd := rdF [] []) (y := false) (k := .i64) u22 (by kernel_rfl) (v := enc (.mk k0 n0 ls)) (by kernel_rfl) hget
    have wi : IntKind.i64.wrap ((pre.length : Int) + 1) = ((pre ++ [T.mk k0 n0 ls]).length : Int) := by
      rw [i64w (by omega) (by unfold maxLen at hks; omega)]; simp
    cases hp : p (.mk k0 n0 ls) with
    | true =>
      rw [hp] at hcall
      exact .inl ⟨pre.length, by omega, by simp [hp], LoopM.last (tbody_sound (ib2_36 _ n x (encs ks) (encs ls) ks.length pre.length k0 n0) ⟨⟨⟨trivial, by simp; omega⟩, hix⟩, hcall⟩) (by simp)⟩
    | false =>
      rw [hp] at hcall
      have hbody := tbody_sound (ib1_36 (pcall E14 n) n x (encs ks) (encs ls) ks.length pre.length k0 n0) ⟨⟨⟨trivial, by simp; omega⟩, hix⟩, hcall⟩
      rw [wi] at hbody
      rcases index_loop_36 x p ks hks r (pre ++ [.mk k0 n0 ls]) m (by rw [he]; simp) (by simp at hm; omega) (fun t ht => hc t (List.mem_cons_of_mem _ ht)) with ⟨j, g0, g1, g2⟩ | ⟨g1, g2⟩
      · exact .inl ⟨j, g0, by simp [g1], LoopM.next hbody g2⟩
      · exact .inr ⟨by simp [hp, g1], LoopM.next hbody g2⟩

theorem contains_36 (x : PV) (p : T → Bool) (ks : List T) (hks : ks.length ≤ maxLen) (hc : ∀ t ∈ ks, Has E14 36 [enc t, .ro true x] [] (.bool (p t), [])) :
    Has E14 35 [.list false (encs ks), .clo 36 [.ro true x]] [] (.bool (ks.any p), []) := by
  have kids := Ev.all (p := fun t m => pcall E14 m 36 [enc t, .ro true x] [] = some (.bool (p t), [])) ks hc
  have big : Ev fun m => ks.length < m := ⟨ks.length + 1, fun m hm => by omega⟩
  refine Ev.succ (Ev.succ ((kids.and big).mono fun m hm => ?_))
  rcases index_loop_36 (n := m) x p ks hks ks [] m rfl hm.2 hm.1 with ⟨j, g0, g1, g2⟩ | ⟨g1, g2⟩
  · have h42 := tfun_sound (ixa_36 (pcall E14 m) m x (encs ks) j) ⟨trivial, by rw [encs_length]; exact g2⟩
    have := tfun_sound (cf_36 (pcall E14 (m + 1)) (m + 1) x (encs ks) j) ⟨trivial, h42⟩
    rw [this, g1]
    simp; omega
  · have h42 := tfun_sound (ixb_36 (pcall E14 m) m x (encs ks) ks.length ks.length (decide ((ks.length : Int) < ks.length))) ⟨trivial, by rw [encs_length]; exact g2⟩
    have := tfun_sound (cf_36 (pcall E14 (m + 1)) (m + 1) x (encs ks) (-1)) ⟨trivial, h42⟩
    rw [this, g1]
    rfl

theorem index_loop_37 {n : Nat} (x : PV) (p : T → Bool) (ks : List T) (hks : ks.length ≤ maxLen) : ∀ (rest pre : List T) (m : Nat), ks = pre ++ rest → rest.length < m → (∀ t ∈ rest, pcall E14 n 37 [enc t, .ro true x] [] = some (.bool (p t), [])) →
    (∃ j : Int, 0 ≤ j ∧ rest.any p = true ∧ LoopM E14 (pcall E14 n) n m 0 42 [1, 0, 1, 0] [(0, .list false (encs ks)), (1, .clo 37 [.ro true x]), (7, .int .i64 ks.length), (8, .int .i64 pre.length)] [] (.ret, [(4, .int .i64 j)], [])) ∨
    (rest.any p = false ∧ LoopM E14 (pcall E14 n) n m 0 42 [1, 0, 1, 0] [(0, .list false (encs ks)), (1, .clo 37 [.ro true x]), (7, .int .i64 ks.length), (8, .int .i64 pre.length)] []
      (.exit 0, [(0, .list false (encs ks)), (1, .clo 37 [.ro true x]), (7, .int .i64 ks.length), (8, .int .i64 ks.length), (9, .bool (decide ((ks.length : Int) < ks.length)))], []))
  | [], pre, m, he, hm, hc => by
    obtain ⟨m, rfl⟩ : ∃ m', m = m' + 1 := ⟨m - 1, by simp at hm; omega⟩
    right
    have hp : pre.length = ks.length := by rw [he]; simp
    rw [hp]
    exact ⟨rfl, LoopM.last (tbody_sound (ib0_37 _ n x (encs ks) ks.length ks.length) ⟨trivial, by simp⟩) (by simp)⟩
  | .mk k0 n0 ls :: r, pre, m, he, hm, hc => by
    obtain ⟨m, rfl⟩ : ∃ m', m = m' + 1 := ⟨m - 1, by simp at hm; omega⟩
    have hcall := hc (.mk k0 n0 ls) (by simp)
    have hlen : ks.length = pre.length + (r.length + 1) := by rw [he]; simp
    have hget : (encs ks)[pre.length]? = some (enc (.mk k0 n0 ls)) := by rw [encs_get, he]; simp
    have hix := idx_list (P := Go.Proofs.Tryd.prog) (rd := rdF [] []) (y := false) (k := .i64) u22 (by kernel_rfl) (v := enc (.mk k0 n0 ls)) (by kernel_rfl) hget
    have wi : IntKind.i64.wrap ((pre.length : Int) + 1) = ((pre ++ [T.mk k0 n0 ls]).length : Int) := by
      rw [i64w (by omega) (by unfold maxLen at hks; omega)]; simp
    cases hp : p (.mk k0 n0 ls) with
    | true =>
      rw [hp] at hcall
      exact .inl ⟨pre.length, by omega, by simp [hp], LoopM.last (tbody_sound (ib2_37 _ n x (encs ks) (encs ls) ks.length pre.length k0 n0) ⟨⟨⟨trivial, by simp; omega⟩, hix⟩, hcall⟩) (by simp)⟩
    | false =>
      rw [hp] at hcall
      have hbody := tbody_sound (ib1_37 (pcall E14 n) n x (encs ks) (encs ls) ks.length pre.length k0 n0) ⟨⟨⟨trivial, by simp; omega⟩, hix⟩, hcall⟩
      rw [wi] at hbody
      rcases index_loop_37 x p ks hks r (pre ++ [.mk k0 n0 ls]) m (by rw [he]; simp) (by simp at hm; omega) (fun t ht => hc t (List.mem_cons_of_mem _ ht)) with ⟨j, g0, g1, g2⟩ | ⟨g1, g2⟩
      · exact .inl ⟨j, g0, by simp [g1], LoopM.next hbody g2⟩
      · exact .inr ⟨by simp [hp, g1], LoopM.next hbody g2⟩

theorem contains_37 (x : PV) (p : T → Bool) (ks : List T) (hks : ks.length ≤ maxLen) (hc : ∀ t ∈ ks, Has E14 37 [enc t, .ro true x] [] (.bool (p t), [])) :
    Has E14 35 [.list false (encs ks), .clo 37 [.ro true x]] [] (.bool (ks.any p), []) := by
  have kids := Ev.all (p := fun t m => pcall E14 m 37 [enc t, .ro true x] [] = some (.bool (p t), [])) ks hc
  have big : Ev fun m => ks.length < m := ⟨ks.length + 1, fun m hm => by omega⟩
  refine Ev.succ (Ev.succ ((kids.and big).mono fun m hm => ?_))
  rcases index_loop_37 (n := m) x p ks hks ks [] m rfl hm.2 hm.1 with ⟨j, g0, g1, g2⟩ | ⟨g1, g2⟩
  · have h42 := tfun_sound (ixa_37 (pcall E14 m) m x (encs ks) j) ⟨trivial, by rw [encs_length]; exact g2⟩
    have := tfun_sound (cf_37 (pcall E14 (m + 1)) (m + 1) x (encs ks) j) ⟨trivial, h42⟩
    rw [this, g1]
    simp; omega
  · have h42 := tfun_sound (ixb_37 (pcall E14 m) m x (encs ks) ks.length ks.length (decide ((ks.length : Int) < ks.length))) ⟨trivial, by rw [encs_length]; exact g2⟩
    have := tfun_sound (cf_37 (pcall E14 (m + 1)) (m + 1) x (encs ks) (-1)) ⟨trivial, h42⟩
    rw [this, g1]
    rfl
end Go.L14

namespace Go.L14
open Go Go.Bb

def T.kind : T → Int
  | .mk k _ _ => k
mutual
def C : T → Int → List Int → Int × List Int
  | .mk k n ks, many, seen =>
    if k < 0 ∨ k > 2 then (8, seen)
    else if k = 0 then
      if ks.length > 0 then (2, seen) else if n < 0 ∨ n ≥ many then (3, seen) else if n ∈ seen then (9, seen) else (0, seen ++ [n])
    else if n ≠ 0 then (2, seen) else if ks.length < 2 then (5, seen) else if ks.any (fun t => t.kind == k) then (14, seen) else Cs ks many seen
def Cs : List T → Int → List Int → Int × List Int
  | [], _, seen => (0, seen)
  | t :: r, many, seen => if (C t many seen).1 ≠ 0 then C t many seen else Cs r many (C t many seen).2
end

def ints (l : List Int) : List PV := l.map fun n => .int .i64 n
def trues (l : List Int) : List PV := l.map fun _ => .bool true
def mp (seen : List Int) : AObj := .map (ints seen) (trues seen)

theorem findP_ints (n : Int) : ∀ (seen : List Int) (i : Nat), (n ∈ seen → ∃ j, findP (.int .i64 n) (ints seen) i = some (some (i + j)) ∧ j < seen.length) ∧ (n ∉ seen → findP (.int .i64 n) (ints seen) i = some none)
  | [], i => ⟨by simp, fun _ => rfl⟩
  | a :: r, i => by
    obtain ⟨h1, h2⟩ := findP_ints n r (i + 1)
    by_cases h : n = a
    · subst h
      refine ⟨fun _ => ⟨0, by simp [ints, findP, sameK], by simp⟩, fun hn => absurd (by simp) hn⟩
    · have hb : (n == a) = false := by simpa using h
      have hs : findP (.int .i64 n) (ints (a :: r)) i = findP (.int .i64 n) (ints r) (i + 1) := by
        simp only [ints, List.map_cons, findP, sameK, if_true, hb]
      rw [hs]
      refine ⟨fun hm => ?_, fun hn => h2 fun hm => hn (List.mem_cons_of_mem _ hm)⟩
      obtain ⟨j, e1, e2⟩ := h1 ((List.mem_cons.1 hm).resolve_left h)
      exact ⟨j + 1, by rw [e1]; congr 2; omega, by simp; omega⟩

theorem u60 : Go.Proofs.Tryd.prog.underlying 60 = some (.map 3 4) := by kernel_rfl
theorem k3 (n : Int) : keyOk Go.Proofs.Tryd.prog 3 (.int .i64 n) = true := by
  have : Go.Proofs.Tryd.prog.underlying 3 = some (.int .i64) := by kernel_rfl
  simp [keyOk, this]
theorem z4 : zeroP Go.Proofs.Tryd.prog 4 = .bool false := by kernel_rfl

theorem look_seen {rd : Rd} {seen : List Int} {n : Int} (h : rd 0 = some (mp seen)) : justO (aLookup (Envt.P E14) rd 60 (.map 0) (.int .i64 n) false) = some ⟨.bool (decide (n ∈ seen)), []⟩ := by
  obtain ⟨h1, h2⟩ := findP_ints n seen 0
  show justO (aLookup Go.Proofs.Tryd.prog rd 60 (.map 0) (.int .i64 n) false) = _
  by_cases hm : n ∈ seen
  · obtain ⟨j, e1, e2⟩ := h1 hm
    simp [aLookup, k3, mapOf, h, mp, e1, justO, hm, e2, trues]
  · simp [aLookup, k3, mapOf, h, mp, h2 hm, justO, hm, z4, okCells, cellsOf, okCell]

theorem upd_seen {rd : Rd} {seen : List Int} {n : Int} (h : rd 0 = some (mp seen)) (hn : n ∉ seen) : aMapUpdate (Envt.P E14) rd 60 (.map 0) (.int .i64 n) (.bool true) = some ⟨.tup [], [(0, mp (seen ++ [n]))]⟩ := by
  have h2 := (findP_ints n seen 0).2 hn
  simp only [ints] at h2
  show aMapUpdate Go.Proofs.Tryd.prog rd 60 (.map 0) (.int .i64 n) (.bool true) = _
  simp [aMapUpdate, k3, h, mp, h2, rest, rest1, PV.frz, ints, trues]

theorem kind37 (k n k1 n1 : Int) (ks ks1 : List T) : Has E14 37 [enc (.mk k n ks), .ro true (enc (.mk k1 n1 ks1))] [] (.bool (k == k1), []) :=
  Ev.succ (Ev.of fun m => tfun_sound (k37 (pcall E14 m) m k n k1 n1 (encs ks) (encs ks1)) trivial)

theorem any_kind (k n : Int) (ks : List T) (hks : ks.length ≤ maxLen) : Has E14 35 [.list false (encs ks), .clo 37 [.ro true (enc (.mk k n ks))]] [] (.bool (ks.any fun t => t.kind == k), []) :=
  contains_37 (enc (.mk k n ks)) (fun t => t.kind == k) ks hks fun t _ => by
    obtain ⟨k0, n0, ls⟩ := t
    exact kind37 k0 n0 k n ls ks

theorem check_loop {n : Nat} (many : Int) (ks : List T) (hks : ks.length ≤ maxLen) : ∀ (rest pre : List T) (seen : List Int) (m : Nat), ks = pre ++ rest → rest.length < m →
    (∀ t ∈ rest, ∀ s, pcall E14 n 30 [enc t, .int .i64 many, .map 0] [mp s] = some (.int .i64 (C t many s).1, [mp (C t many s).2])) →
    ((Cs rest many seen).1 ≠ 0 ∧ LoopM E14 (pcall E14 n) n m 1 30 [1, 1, 0, 1, 0] [(1, .int .i64 many), (2, .map 0), (82, .list false (encs ks)), (83, .int .i64 ks.length), (84, .int .i64 pre.length)] [mp seen]
      (.ret, [(6, .int .i64 (Cs rest many seen).1)], [mp (Cs rest many seen).2])) ∨
    ((Cs rest many seen).1 = 0 ∧ LoopM E14 (pcall E14 n) n m 1 30 [1, 1, 0, 1, 0] [(1, .int .i64 many), (2, .map 0), (82, .list false (encs ks)), (83, .int .i64 ks.length), (84, .int .i64 pre.length)] [mp seen]
      (.exit 1, [(1, .int .i64 many), (2, .map 0), (82, .list false (encs ks)), (83, .int .i64 ks.length), (84, .int .i64 ks.length), (85, .bool (decide ((ks.length : Int) < ks.length)))], [mp (Cs rest many seen).2]))
  | [], pre, seen, m, he, hm, hc => by
    obtain ⟨m, rfl⟩ : ∃ m', m = m' + 1 := ⟨m - 1, by simp at hm; omega⟩
    right
    have hp : pre.length = ks.length := by rw [he]; simp
    rw [hp]
    exact ⟨rfl, LoopM.last (tbody_sound (cb0 _ n many ks.length ks.length (encs ks) (ints seen) (trues seen)) ⟨trivial, by simp⟩) (by simp)⟩
  | .mk k0 n0 ls :: r, pre, seen, m, he, hm, hc => by
    obtain ⟨m, rfl⟩ : ∃ m', m = m' + 1 := ⟨m - 1, by simp at hm; omega⟩
    have hcall := hc (.mk k0 n0 ls) (by simp) seen
    have hlen : ks.length = pre.length + (r.length + 1) := by rw [he]; simp
    have hget : (encs ks)[pre.length]? = some (enc (.mk k0 n0 ls)) := by rw [encs_get, he]; simp
    have hix := idx_list (P := Go.Proofs.Tryd.prog) (rd := rdF [] [mp seen]) (y := false) (k := .i64) u22 (by kernel_rfl) (v := enc (.mk k0 n0 ls)) (by kernel_rfl) hget
    have wi : IntKind.i64.wrap ((pre.length : Int) + 1) = ((pre ++ [T.mk k0 n0 ls]).length : Int) := by
      rw [i64w (by omega) (by unfold maxLen at hks; omega)]; simp
    by_cases hz : (C (.mk k0 n0 ls) many seen).1 = 0
    · have hCs : Cs (.mk k0 n0 ls :: r) many seen = Cs r many (C (.mk k0 n0 ls) many seen).2 := by rw [Cs, if_neg (by simpa using hz)]
      rw [hCs]
      have hbody := tbody_sound (cb1 (pcall E14 n) n many ks.length pre.length k0 n0 (C (.mk k0 n0 ls) many seen).1 (encs ks) (ints seen) (trues seen) (encs ls) (ints (C (.mk k0 n0 ls) many seen).2) (trues (C (.mk k0 n0 ls) many seen).2))
        ⟨⟨⟨⟨trivial, by simp; omega⟩, hix⟩, hcall⟩, by simpa using hz⟩
      rw [wi] at hbody
      rcases check_loop many ks hks r (pre ++ [.mk k0 n0 ls]) (C (.mk k0 n0 ls) many seen).2 m (by rw [he]; simp) (by simp at hm; omega) (fun t ht => hc t (List.mem_cons_of_mem _ ht)) with ⟨g1, g2⟩ | ⟨g1, g2⟩
      · exact .inl ⟨g1, LoopM.next hbody g2⟩
      · exact .inr ⟨g1, LoopM.next hbody g2⟩
    · have hCs : Cs (.mk k0 n0 ls :: r) many seen = C (.mk k0 n0 ls) many seen := by rw [Cs, if_pos (by simpa using hz)]
      rw [hCs]
      exact .inl ⟨hz, LoopM.last (tbody_sound (cb2 (pcall E14 n) n many ks.length pre.length k0 n0 (C (.mk k0 n0 ls) many seen).1 (encs ks) (ints seen) (trues seen) (encs ls) (ints (C (.mk k0 n0 ls) many seen).2) (trues (C (.mk k0 n0 ls) many seen).2))
        ⟨⟨⟨⟨trivial, by simp; omega⟩, hix⟩, hcall⟩, by simpa using hz⟩) (by simp)⟩
end Go.L14

namespace Go.L14
open Go Go.Bb

theorem rd0 {seen : List Int} {σ : List AObj} : rdF [0] (mp seen :: σ) 0 = some (mp seen) := rfl

theorem check_ev : ∀ (t : T), t.ok → Ev fun m => ∀ (many : Int) (seen : List Int), pcall E14 m 30 [enc t, .int .i64 many, .map 0] [mp seen] = some (.int .i64 (C t many seen).1, [mp (C t many seen).2])
  | .mk k n ks, hok => by
    unfold T.ok at hok
    have hks := hok.2.2.1
    have hany := any_kind k n ks hks
    have kids : Ev fun m => ∀ t ∈ ks, ∀ (many : Int) (s : List Int), pcall E14 m 30 [enc t, .int .i64 many, .map 0] [mp s] = some (.int .i64 (C t many s).1, [mp (C t many s).2]) := Ev.all ks fun t ht => check_ev t (hok.2.2.2 t ht)
    have big : Ev fun m => ks.length < m := ⟨ks.length + 1, fun m hm => by omega⟩
    refine Ev.succ (((kids.and big).and hany).mono fun m hm many seen => ?_)
    obtain ⟨⟨m1, m2⟩, hm⟩ := hm
    by_cases h8 : k < 0 ∨ k > 2
    · have hC : C (.mk k n ks) many seen = (8, seen) := by rw [C, if_pos h8]
      rw [hC]
      by_cases h0 : k < 0
      · exact (tfun_sound (c8a (pcall E14 m) m k n many (encs ks) (ints seen) (trues seen)) ⟨trivial, by simpa using h0⟩)
      · exact (tfun_sound (c8b (pcall E14 m) m k n many (encs ks) (ints seen) (trues seen)) ⟨⟨trivial, by simpa using h0⟩, by simp; omega⟩)
    · have hel : ((List.length (encs ks) : Nat) : Int) = ks.length := by rw [encs_length]
      by_cases hk0 : k = 0
      · subst hk0
        by_cases hkk : ks.length > 0
        · have hC : C (.mk 0 n ks) many seen = (2, seen) := by rw [C, if_neg h8, if_pos rfl, if_pos hkk]
          rw [hC]
          exact (tfun_sound (cl2 (pcall E14 m) m n many (encs ks) (ints seen) (trues seen)) ⟨trivial, by rw [hel, decide_eq_true (by omega : (ks.length : Int) > 0)]; rfl⟩)
        · have hl0 : (decide ((List.length (encs ks) : Int) > 0) == false) = true := by rw [hel, decide_eq_false (by omega : ¬ (ks.length : Int) > 0)]; rfl
          by_cases h3 : n < 0 ∨ n ≥ many
          · have hC : C (.mk 0 n ks) many seen = (3, seen) := by rw [C, if_neg h8, if_pos rfl, if_neg hkk, if_pos h3]
            rw [hC]
            by_cases h3a : n < 0
            · exact (tfun_sound (cl3a (pcall E14 m) m n many (encs ks) (ints seen) (trues seen)) ⟨⟨trivial, hl0⟩, by simpa using h3a⟩)
            · exact (tfun_sound (cl3b (pcall E14 m) m n many (encs ks) (ints seen) (trues seen)) ⟨⟨⟨trivial, hl0⟩, by simpa using h3a⟩, by simp; omega⟩)
          · have h3a : (decide (n < 0) == false) = true := by simp; omega
            have h3b : decide (n ≥ many) = false := by simp; omega
            by_cases h9 : n ∈ seen
            · have hC : C (.mk 0 n ks) many seen = (9, seen) := by rw [C, if_neg h8, if_pos rfl, if_neg hkk, if_neg h3, if_pos h9]
              rw [hC]
              exact (tfun_sound (cl9 (pcall E14 m) m n many (encs ks) (ints seen) (trues seen)) ⟨⟨⟨⟨trivial, hl0⟩, h3a⟩, h3b⟩, (look_seen rd0).trans (by rw [decide_eq_true h9])⟩)
            · have hC : C (.mk 0 n ks) many seen = (0, seen ++ [n]) := by rw [C, if_neg h8, if_pos rfl, if_neg hkk, if_neg h3, if_neg h9]
              rw [hC]
              exact (tfun_sound (cl0 (pcall E14 m) m n many (encs ks) (ints seen) (trues seen) (ints (seen ++ [n])) (trues (seen ++ [n])))
                ⟨⟨⟨⟨⟨trivial, hl0⟩, h3a⟩, h3b⟩, (look_seen rd0).trans (by rw [decide_eq_false h9])⟩, upd_seen rd0 h9⟩)
      · have hk : k = 1 ∨ k = 2 := by omega
        by_cases hn : n ≠ 0
        · have hC : C (.mk k n ks) many seen = (2, seen) := by rw [C, if_neg h8, if_neg hk0, if_pos hn]
          rw [hC]
          rcases hk with rfl | rfl
          · exact (tfun_sound (cn2_1 (pcall E14 m) m n many (encs ks) (ints seen) (trues seen)) ⟨trivial, by simpa using hn⟩)
          · exact (tfun_sound (cn2_2 (pcall E14 m) m n many (encs ks) (ints seen) (trues seen)) ⟨trivial, by simpa using hn⟩)
        · have hn' : (n != 0) = false := by simpa using hn
          by_cases h5 : ks.length < 2
          · have hC : C (.mk k n ks) many seen = (5, seen) := by rw [C, if_neg h8, if_neg hk0, if_neg hn, if_pos h5]
            rw [hC]
            rcases hk with rfl | rfl
            · exact (tfun_sound (cn5_1 (pcall E14 m) m n many (encs ks) (ints seen) (trues seen)) ⟨⟨trivial, hn'⟩, by rw [hel]; simp; omega⟩)
            · exact (tfun_sound (cn5_2 (pcall E14 m) m n many (encs ks) (ints seen) (trues seen)) ⟨⟨trivial, hn'⟩, by rw [hel]; simp; omega⟩)
          · have h5' : decide ((List.length (encs ks) : Int) < 2) = false := by rw [hel]; simp; omega
            by_cases h14 : ks.any (fun t => t.kind == k) = true
            · have hC : C (.mk k n ks) many seen = (14, seen) := by rw [C, if_neg h8, if_neg hk0, if_neg hn, if_neg h5, if_pos h14]
              rw [hC]
              rw [h14] at hm
              rcases hk with rfl | rfl
              · exact (tfun_sound (cn14_1 (pcall E14 m) m n many (encs ks) (ints seen) (trues seen)) ⟨⟨⟨trivial, hn'⟩, h5'⟩, hm⟩)
              · exact (tfun_sound (cn14_2 (pcall E14 m) m n many (encs ks) (ints seen) (trues seen)) ⟨⟨⟨trivial, hn'⟩, h5'⟩, hm⟩)
            · have hC : C (.mk k n ks) many seen = Cs ks many seen := by rw [C, if_neg h8, if_neg hk0, if_neg hn, if_neg h5, if_neg h14]
              rw [hC]
              have h14' : (ks.any fun t => t.kind == k) = false := by simpa using h14
              rw [h14'] at hm
              rcases check_loop (n := m) many ks hks ks [] seen m rfl m2 (fun t ht s => m1 t ht many s) with ⟨g1, g2⟩ | ⟨g1, g2⟩
              · rcases hk with rfl | rfl
                · exact tfun_sound (cnr_1 (pcall E14 m) m n many (encs ks) (ints seen) (trues seen) (ints (Cs ks many seen).2) (trues (Cs ks many seen).2) (Cs ks many seen).1) ⟨⟨⟨⟨trivial, hn'⟩, h5'⟩, hm⟩, by rw [encs_length]; exact g2⟩
                · exact tfun_sound (cnr_2 (pcall E14 m) m n many (encs ks) (ints seen) (trues seen) (ints (Cs ks many seen).2) (trues (Cs ks many seen).2) (Cs ks many seen).1) ⟨⟨⟨⟨trivial, hn'⟩, h5'⟩, hm⟩, by rw [encs_length]; exact g2⟩
              · rw [g1]
                rcases hk with rfl | rfl
                · exact tfun_sound (cnx_1 (pcall E14 m) m n many (encs ks) (ints seen) (trues seen) (ints (Cs ks many seen).2) (trues (Cs ks many seen).2) ks.length ks.length (decide ((ks.length : Int) < ks.length))) ⟨⟨⟨⟨trivial, hn'⟩, h5'⟩, hm⟩, by rw [encs_length]; exact g2⟩
                · exact tfun_sound (cnx_2 (pcall E14 m) m n many (encs ks) (ints seen) (trues seen) (ints (Cs ks many seen).2) (trues (Cs ks many seen).2) ks.length ks.length (decide ((ks.length : Int) < ks.length))) ⟨⟨⟨⟨trivial, hn'⟩, h5'⟩, hm⟩, by rw [encs_length]; exact g2⟩
end Go.L14

namespace Go.L14
open Go Go.Bb

def Chk (t : T) (many : Int) : Int := if (C t many []).1 = 0 then (if ((C t many []).2.length : Int) ≠ max 0 many then 4 else 0) else (C t many []).1

theorem check16_ev (t : T) (hok : t.ok) : Ev fun m => ∀ (many : Int), pcall E14 m 16 [enc t, .int .i64 many] [] = some (.int .i64 (Chk t many), []) := by
  refine Ev.succ ((check_ev t hok).mono fun m hm many => ?_)
  obtain ⟨k, n, ks⟩ := t
  have hc := hm many []
  have hmax : (bif true then if many > 0 then many else 0 else if many < 0 then many else 0) = max 0 many := by
    simp only [cond_true]; split <;> omega
  have hl : ((List.length (ints (C (.mk k n ks) many []).2) : Nat) : Int) = (C (.mk k n ks) many []).2.length := by simp [ints]
  unfold Chk
  by_cases h0 : (C (.mk k n ks) many []).1 = 0
  · have hg : (((C (.mk k n ks) many []).1 == 0) == true) = true := by simpa using h0
    rw [if_pos h0]
    by_cases h4 : ((C (.mk k n ks) many []).2.length : Int) ≠ max 0 many
    · rw [if_pos h4]
      exact tfun_sound (k16b (pcall E14 m) m k n many (C (.mk k n ks) many []).1 (encs ks) (ints (C (.mk k n ks) many []).2) (trues (C (.mk k n ks) many []).2)) ⟨⟨⟨trivial, hc⟩, hg⟩, by rw [hmax, hl]; simpa using h4⟩
    · rw [if_neg h4]
      have := tfun_sound (k16c (pcall E14 m) m k n many (C (.mk k n ks) many []).1 (encs ks) (ints (C (.mk k n ks) many []).2) (trues (C (.mk k n ks) many []).2)) ⟨⟨⟨trivial, hc⟩, hg⟩, by rw [hmax, hl]; simpa using h4⟩
      rwa [h0] at this
  · rw [if_neg h0]
    exact tfun_sound (k16a (pcall E14 m) m k n many (C (.mk k n ks) many []).1 (encs ks) (ints (C (.mk k n ks) many []).2) (trues (C (.mk k n ks) many []).2)) ⟨⟨trivial, hc⟩, by simpa using h0⟩

/- eval -/
/-- The leaves lie within. -/
def T.fits (many : Int) : T → Prop
  | .mk k n ks => if k = 0 then (0 ≤ n ∧ n < many) ∧ ks = [] else (k = 1 ∨ k = 2) ∧ ∀ t ∈ ks, t.fits many
def on1 (on : List Bool) (n : Int) : Bool := on.getD n.toNat false
mutual
def V (on : List Bool) : T → Bool
  | .mk k n ks => if k = 1 then Vall on ks else if k = 2 then Vany on ks else on1 on n
def Vall (on : List Bool) : List T → Bool
  | [] => true
  | t :: r => V on t && Vall on r
def Vany (on : List Bool) : List T → Bool
  | [] => false
  | t :: r => V on t || Vany on r
end
theorem Vall_eq (on : List Bool) : ∀ ks, Vall on ks = !(ks.any fun t => !V on t)
  | [] => rfl
  | t :: r => by simp only [Vall, List.any_cons, Vall_eq on r]; cases V on t <;> simp
theorem Vany_eq (on : List Bool) : ∀ ks, Vany on ks = ks.any (V on)
  | [] => rfl
  | t :: r => by simp only [Vany, List.any_cons, Vany_eq on r]
def bools (l : List Bool) : List PV := l.map .bool

theorem u25 : Go.Proofs.Tryd.prog.underlying 25 = some (.slice 4) := by kernel_rfl

theorem eval_has (y : Bool) (on : List Bool) : ∀ (t : T), t.ok → t.fits on.length → Has E14 27 [enc t, .list y (bools on)] [] (.bool (V on t), [])
  | .mk k n ks, hok, hf => by
    unfold T.ok at hok
    have hks := hok.2.2.1
    unfold T.fits at hf
    by_cases hk0 : k = 0
    · subst hk0
      rw [if_pos rfl] at hf
      obtain ⟨⟨f1, f2⟩, _⟩ := hf
      have hn : n = (n.toNat : Int) := by omega
      have hlt : n.toNat < on.length := by omega
      have hget : (bools on)[n.toNat]? = some (.bool (on1 on n)) := by simp [bools, on1, hlt]
      have hV : V on (.mk 0 n ks) = on1 on n := by rw [V]; simp
      rw [hV]
      refine Ev.succ (Ev.of fun m => tfun_sound (ev0 (pcall E14 m) m n (encs ks) (bools on) y (on1 on n)) ⟨trivial, ?_⟩)
      have := idx_list (P := Go.Proofs.Tryd.prog) (rd := rdF [] []) (y := y) (k := .i64) u25 (by kernel_rfl) (v := .bool (on1 on n)) (by kernel_rfl) hget
      rw [← hn] at this
      exact this
    · rw [if_neg hk0] at hf
      obtain ⟨hk, hf⟩ := hf
      have kids : ∀ t ∈ ks, Has E14 34 [enc t, .ro true (.list y (bools on))] [] (.bool (V on t), []) := fun t ht => by
        have := eval_has y on t (hok.2.2.2 t ht) (hf t ht)
        obtain ⟨k0, n0, ls⟩ := t
        exact Ev.succ (this.mono fun m hm => tfun_sound (ec34 (pcall E14 m) m k0 n0 (encs ls) (bools on) y (V on (.mk k0 n0 ls))) ⟨trivial, hm⟩)
      rcases hk with rfl | rfl
      · have kids' : ∀ t ∈ ks, Has E14 36 [enc t, .ro true (.clo 34 [.ro true (.list y (bools on))])] [] (.bool (!V on t), []) := fun t ht => by
          have := kids t ht
          obtain ⟨k0, n0, ls⟩ := t
          exact Ev.succ (this.mono fun m hm => tfun_sound (ec36 (pcall E14 m) m k0 n0 (encs ls) (bools on) y (V on (.mk k0 n0 ls))) ⟨trivial, hm⟩)
        have hc := contains_36 (.clo 34 [.ro true (.list y (bools on))]) (fun t => !V on t) ks hks kids'
        have hV : V on (.mk 1 n ks) = !(ks.any fun t => !V on t) := by rw [V, if_pos rfl, Vall_eq]
        rw [hV]
        exact Ev.succ (hc.mono fun m hm => tfun_sound (ev1 (pcall E14 m) m n (encs ks) (bools on) y (ks.any fun t => !V on t)) ⟨trivial, hm⟩)
      · have hc := contains_34 (.list y (bools on)) (V on) ks hks kids
        have hV : V on (.mk 2 n ks) = ks.any (V on) := by rw [V, if_neg (by decide), if_pos rfl, Vany_eq]
        rw [hV]
        exact Ev.succ (hc.mono fun m hm => tfun_sound (ev2 (pcall E14 m) m n (encs ks) (bools on) y (ks.any (V on))) ⟨trivial, hm⟩)
end Go.L14

namespace Go.L14
open Go Go.Bb

mutual
/-- The number of nodes. -/
def sz : T → Int
  | .mk _ _ ks => 1 + szs ks
def szs : List T → Int
  | [] => 0
  | t :: r => sz t + szs r
end
mutual
theorem sz_pos : ∀ t, 1 ≤ sz t
  | .mk _ _ ks => by unfold sz; have := szs_pos ks; omega
theorem szs_pos : ∀ ks, 0 ≤ szs ks
  | [] => by simp [szs]
  | t :: r => by unfold szs; have := sz_pos t; have := szs_pos r; omega
end
def T.num : T → Int
  | .mk _ n _ => n
mutual
def D (on : List Bool) : T → Int
  | .mk _ _ ks => Ds on ks true 0
/-- The kids from here on; 'first': none was before. -/
def Ds (on : List Bool) : List T → Bool → Int → Int
  | [], _, d => d
  | .mk k n ls :: r, first, d =>
    if first then Ds on r false (D on (.mk k n ls))
    else if k ≠ 0 ∨ on1 on n = true then Ds on r false (max d (1 + D on (.mk k n ls))) else Ds on r false d
end
mutual
theorem D_bound (on : List Bool) : ∀ t, 0 ≤ D on t ∧ D on t < sz t
  | .mk _ _ ks => by
    unfold D sz
    have := Ds_bound on ks true 0 (by omega)
    have h2 := szs_pos ks
    omega
theorem Ds_bound (on : List Bool) : ∀ ks first (d : Int), 0 ≤ d → 0 ≤ Ds on ks first d ∧ Ds on ks first d ≤ max d (szs ks)
  | [], _, d, h => by simp [Ds, szs]; omega
  | .mk k n ls :: r, first, d, h => by
    have hb := D_bound on (.mk k n ls)
    have hr := szs_pos r
    unfold Ds szs
    split
    · have := Ds_bound on r false (D on (.mk k n ls)) hb.1
      omega
    · split
      · have := Ds_bound on r false (max d (1 + D on (.mk k n ls))) (by omega)
        omega
      · have := Ds_bound on r false d h
        have := sz_pos (.mk k n ls)
        omega
end

theorem depth_loop {n : Nat} (y : Bool) (on : List Bool) (ks : List T) (hks : ks.length ≤ maxLen) : ∀ (rest pre : List T) (d : Int) (m : Nat), ks = pre ++ rest → 0 ≤ d → d + szs rest < 9223372036854775807 → rest.length < m →
    (∀ t ∈ rest, t.fits on.length) → (∀ t ∈ rest, pcall E14 n 28 [enc t, .list y (bools on)] [] = some (.int .i64 (D on t), [])) →
    LoopM E14 (pcall E14 n) n m 0 28 [1, 1, 0, 1, 0] [(1, .list y (bools on)), (5, .int .i64 d), (9, .list false (encs ks)), (10, .int .i64 ks.length), (11, .int .i64 pre.length)] []
      (.exit 0, [(1, .list y (bools on)), (5, .int .i64 (Ds on rest (pre.length == 0) d)), (9, .list false (encs ks)), (10, .int .i64 ks.length), (11, .int .i64 ks.length), (12, .bool (decide ((ks.length : Int) < ks.length)))], [])
  | [], pre, d, m, he, h0, hd, hm, hf, hc => by
    obtain ⟨m, rfl⟩ : ∃ m', m = m' + 1 := ⟨m - 1, by simp at hm; omega⟩
    have hp : pre.length = ks.length := by rw [he]; simp
    rw [hp]
    exact LoopM.last (tbody_sound (db0 _ n d ks.length ks.length (encs ks) (bools on) y) ⟨trivial, by simp⟩) (by simp)
  | .mk k0 n0 ls :: r, pre, d, m, he, h0, hd, hm, hf, hc => by
    obtain ⟨m, rfl⟩ : ∃ m', m = m' + 1 := ⟨m - 1, by simp at hm; omega⟩
    have hcall := hc (.mk k0 n0 ls) (by simp)
    have hb := D_bound on (.mk k0 n0 ls)
    have hsr := szs_pos r
    have hsp := sz_pos (.mk k0 n0 ls)
    have hlen : ks.length = pre.length + (r.length + 1) := by rw [he]; simp
    have hget : (encs ks)[pre.length]? = some (enc (.mk k0 n0 ls)) := by rw [encs_get, he]; simp
    have hix := idx_list (P := Go.Proofs.Tryd.prog) (rd := rdF [] []) (y := false) (k := .i64) u22 (by kernel_rfl) (v := enc (.mk k0 n0 ls)) (by kernel_rfl) hget
    have wi : IntKind.i64.wrap ((pre.length : Int) + 1) = ((pre ++ [T.mk k0 n0 ls]).length : Int) := by
      rw [i64w (by omega) (by unfold maxLen at hks; omega)]; simp
    have hszs : szs (.mk k0 n0 ls :: r) = sz (.mk k0 n0 ls) + szs r := by rw [szs]
    rw [hszs] at hd
    have hlt : decide ((pre.length : Int) < ks.length) = true := by simp; omega
    have hnf : ((pre ++ [T.mk k0 n0 ls]).length == 0) = false := by simp
    have go : ∀ d', 0 ≤ d' → d' + szs r < 9223372036854775807 → LoopM E14 (pcall E14 n) n m 0 28 [1, 1, 0, 1, 0] [(1, .list y (bools on)), (5, .int .i64 d'), (9, .list false (encs ks)), (10, .int .i64 ks.length), (11, .int .i64 (pre ++ [T.mk k0 n0 ls]).length)] []
      (.exit 0, [(1, .list y (bools on)), (5, .int .i64 (Ds on r false d')), (9, .list false (encs ks)), (10, .int .i64 ks.length), (11, .int .i64 ks.length), (12, .bool (decide ((ks.length : Int) < ks.length)))], []) := fun d' a b => by
      have := depth_loop y on ks hks r (pre ++ [.mk k0 n0 ls]) d' m (by rw [he]; simp) a b (by simp at hm; omega) (fun t ht => hf t (List.mem_cons_of_mem _ ht)) (fun t ht => hc t (List.mem_cons_of_mem _ ht))
      rwa [hnf] at this
    by_cases hp0 : pre.length = 0
    · have hD : Ds on (.mk k0 n0 ls :: r) (pre.length == 0) d = Ds on r false (D on (.mk k0 n0 ls)) := by rw [Ds]; simp [hp0]
      rw [hD]
      have hbody := tbody_sound (db1 (pcall E14 n) n d ks.length k0 n0 (D on (.mk k0 n0 ls)) (encs ks) (bools on) (encs ls) y) ⟨⟨⟨trivial, by simp; omega⟩, by have := hix; rw [hp0] at this; exact this⟩, hcall⟩
      have w1 : IntKind.i64.wrap ((0 : Int) + 1) = ((pre ++ [T.mk k0 n0 ls]).length : Int) := by rw [← wi, hp0]; rfl
      rw [w1] at hbody
      rw [hp0]
      exact LoopM.next hbody (go _ hb.1 (by omega))
    · have hpf : (pre.length == 0) = false := by simpa using hp0
      have hpi : ((pre.length : Int) == 0) = false := by simpa using hp0
      have hmx : (bif true then if IntKind.i64.wrap (1 + D on (.mk k0 n0 ls)) > d then IntKind.i64.wrap (1 + D on (.mk k0 n0 ls)) else d else if IntKind.i64.wrap (1 + D on (.mk k0 n0 ls)) < d then IntKind.i64.wrap (1 + D on (.mk k0 n0 ls)) else d) = max d (1 + D on (.mk k0 n0 ls)) := by
        rw [i64w (by omega) (by omega)]; simp only [cond_true]; split <;> omega
      by_cases hk : k0 ≠ 0
      · have hD : Ds on (.mk k0 n0 ls :: r) (pre.length == 0) d = Ds on r false (max d (1 + D on (.mk k0 n0 ls))) := by rw [Ds, hpf]; simp [hk]
        rw [hD]
        have hbody := tbody_sound (db2 (pcall E14 n) n d ks.length pre.length k0 n0 (D on (.mk k0 n0 ls)) (encs ks) (bools on) (encs ls) y) ⟨⟨⟨⟨⟨trivial, hlt⟩, hix⟩, hpi⟩, by simpa using hk⟩, hcall⟩
        rw [hmx, wi] at hbody
        exact LoopM.next hbody (go _ (by omega) (by omega))
      · have hk : k0 = 0 := by omega
        have hfit := hf (.mk k0 n0 ls) (by simp)
        unfold T.fits at hfit
        rw [if_pos hk] at hfit
        obtain ⟨hfit, _⟩ := hfit
        have hn : n0 = (n0.toNat : Int) := by omega
        have hlt2 : n0.toNat < on.length := by omega
        have hg : (bools on)[n0.toNat]? = some (.bool (on1 on n0)) := by simp [bools, on1, hlt2]
        have hix2 := idx_list (P := Go.Proofs.Tryd.prog) (rd := rdF [] [AObj.arr 0 0 [], AObj.var (PV.agg [PV.int IntKind.i64 k0, PV.int IntKind.i64 n0, PV.list false (encs ls)])]) (y := y) (k := .i64) u25 (by kernel_rfl) (v := .bool (on1 on n0)) (by kernel_rfl) hg
        rw [← hn] at hix2
        by_cases ho : on1 on n0 = true
        · have hD : Ds on (.mk k0 n0 ls :: r) (pre.length == 0) d = Ds on r false (max d (1 + D on (.mk k0 n0 ls))) := by rw [Ds, hpf]; simp [ho]
          rw [hD]
          rw [ho] at hix2
          have hbody := tbody_sound (db3 (pcall E14 n) n d ks.length pre.length k0 n0 (D on (.mk k0 n0 ls)) (encs ks) (bools on) (encs ls) y) ⟨⟨⟨⟨⟨⟨trivial, hlt⟩, hix⟩, hpi⟩, by simp [hk]⟩, hix2⟩, hcall⟩
          rw [hmx, wi] at hbody
          exact LoopM.next hbody (go _ (by omega) (by omega))
        · have ho' : on1 on n0 = false := by simpa using ho
          have hD : Ds on (.mk k0 n0 ls :: r) (pre.length == 0) d = Ds on r false d := by rw [Ds, hpf]; simp [ho', hk]
          rw [hD]
          rw [ho'] at hix2
          have hbody := tbody_sound (db4 (pcall E14 n) n d ks.length pre.length k0 n0 (encs ks) (bools on) (encs ls) y) ⟨⟨⟨⟨⟨trivial, hlt⟩, hix⟩, hpi⟩, by simp [hk]⟩, hix2⟩
          rw [wi] at hbody
          exact LoopM.next hbody (go _ h0 (by omega))

theorem fits_kids {many : Int} {k n : Int} {ks : List T} (h : (T.mk k n ks).fits many) : ∀ t ∈ ks, t.fits many := by
  unfold T.fits at h
  split at h
  · rw [h.2]; simp
  · exact h.2

theorem szs_mem : ∀ (ks : List T) (t : T), t ∈ ks → sz t ≤ szs ks
  | [], t, h => by simp at h
  | a :: r, t, h => by
    unfold szs
    have := szs_pos r
    have := sz_pos a
    rcases List.mem_cons.1 h with rfl | h
    · omega
    · have := szs_mem r t h; omega

theorem depth_has (y : Bool) (on : List Bool) : ∀ (t : T), t.ok → sz t < 9223372036854775807 → t.fits on.length → Has E14 28 [enc t, .list y (bools on)] [] (.int .i64 (D on t), [])
  | .mk k n ks, hok, hs, hf => by
    unfold T.ok at hok
    unfold sz at hs
    have hks := hok.2.2.1
    have kids : Ev fun m => ∀ t ∈ ks, pcall E14 m 28 [enc t, .list y (bools on)] [] = some (.int .i64 (D on t), []) :=
      Ev.all ks fun t ht => depth_has y on t (hok.2.2.2 t ht) (by have := szs_mem ks t ht; omega) (fits_kids hf t ht)
    have big : Ev fun m => ks.length < m := ⟨ks.length + 1, fun m hm => by omega⟩
    refine Ev.succ ((kids.and big).mono fun m hm => ?_)
    have hl := depth_loop (n := m) y on ks hks ks [] 0 m rfl (by omega) (by omega) hm.2 (fits_kids hf) hm.1
    have hD : D on (.mk k n ks) = Ds on ks true 0 := by rw [D]
    rw [hD]
    exact tfun_sound (dp (pcall E14 m) m k n (Ds on ks true 0) ks.length ks.length (encs ks) (bools on) y (decide ((ks.length : Int) < ks.length))) ⟨trivial, by rw [encs_length]; exact hl⟩
end Go.L14

namespace Go.L14
open Go Go.Bb

mutual
theorem C_fits (many : Int) : ∀ (t : T) (seen : List Int), (C t many seen).1 = 0 → t.fits many
  | .mk k n ks, seen, h => by
    unfold C at h
    unfold T.fits
    split at h
    · simp at h
    · split at h
      · rename_i hk
        rw [if_pos hk]
        split at h
        · simp at h
        · split at h
          · simp at h
          · rename_i h1 h2
            refine ⟨by omega, ?_⟩
            cases ks with
            | nil => rfl
            | cons a r => simp at h1
      · rename_i hk
        rw [if_neg hk]
        split at h
        · simp at h
        · split at h
          · simp at h
          · split at h
            · simp at h
            · exact ⟨by omega, Cs_fits many ks seen h⟩
theorem Cs_fits (many : Int) : ∀ (ks : List T) (seen : List Int), (Cs ks many seen).1 = 0 → ∀ t ∈ ks, t.fits many
  | [], _, _ => by simp
  | a :: r, seen, h => by
    unfold Cs at h
    split at h
    · rename_i hne; exact absurd h hne
    · rename_i he
      intro t ht
      have ha := C_fits many a seen (by simpa using he)
      rcases List.mem_cons.1 ht with hta | ht
      · rw [hta]; exact ha
      · exact Cs_fits many r _ h t ht
end
theorem Chk_fits {t : T} {many : Int} (h : Chk t many = 0) : t.fits many := by
  unfold Chk at h
  split at h
  · rename_i h0; exact C_fits many t [] h0
  · rename_i h0; exact absurd h h0

theorem eval10 (y : Bool) (on : List Bool) (t : T) (hok : t.ok) : Has E14 10 [enc t, .list y (bools on)] [] (.tup [.bool (if Chk t on.length = 0 then V on t else false), .int .i64 (Chk t on.length)], []) := by
  have hc := check16_ev t hok
  have hl : ((List.length (bools on) : Nat) : Int) = on.length := by simp [bools]
  by_cases h0 : Chk t on.length = 0
  · have he := eval_has y on t hok (Chk_fits h0)
    refine Ev.succ ((hc.and he).mono fun m hm => ?_)
    obtain ⟨k, n, ks⟩ := t
    have h1 := hm.1 on.length
    rw [if_pos h0]
    rw [h0] at h1 ⊢
    exact tfun_sound (e10b (pcall E14 m) m k n 0 (encs ks) (bools on) y (V on (.mk k n ks))) ⟨⟨⟨trivial, by rw [hl]; exact h1⟩, rfl⟩, hm.2⟩
  · refine Ev.succ (hc.mono fun m hm => ?_)
    obtain ⟨k, n, ks⟩ := t
    rw [if_neg h0]
    exact tfun_sound (e10a (pcall E14 m) m k n (Chk (.mk k n ks) on.length) (encs ks) (bools on) y) ⟨⟨trivial, by rw [hl]; exact hm on.length⟩, by simpa using h0⟩

theorem depth11 (y : Bool) (on : List Bool) (t : T) (hok : t.ok) (hs : sz t < 9223372036854775807) : Has E14 11 [enc t, .list y (bools on)] [] (.tup [.int .i64 (if Chk t on.length = 0 then D on t else 0), .int .i64 (Chk t on.length)], []) := by
  have hc := check16_ev t hok
  have hl : ((List.length (bools on) : Nat) : Int) = on.length := by simp [bools]
  by_cases h0 : Chk t on.length = 0
  · have he := depth_has y on t hok hs (Chk_fits h0)
    refine Ev.succ ((hc.and he).mono fun m hm => ?_)
    obtain ⟨k, n, ks⟩ := t
    have h1 := hm.1 on.length
    rw [if_pos h0]
    rw [h0] at h1 ⊢
    exact tfun_sound (e11b (pcall E14 m) m k n 0 (D on (.mk k n ks)) (encs ks) (bools on) y) ⟨⟨⟨trivial, by rw [hl]; exact h1⟩, rfl⟩, hm.2⟩
  · refine Ev.succ (hc.mono fun m hm => ?_)
    obtain ⟨k, n, ks⟩ := t
    rw [if_neg h0]
    exact tfun_sound (e11a (pcall E14 m) m k n (Chk (.mk k n ks) on.length) (encs ks) (bools on) y) ⟨⟨trivial, by rw [hl]; exact hm on.length⟩, by simpa using h0⟩
end Go.L14

namespace Go.L14
open Go Go.Bb

theorem tooLarge8 (t : T) (hok : t.ok) : Has E14 8 [enc t] [] (.int .i64 (if W t 0 > 1000 then 1 else 0), []) := by
  have hw := has_weight t hok 0 (by omega) (by omega)
  refine Ev.succ (hw.mono fun m hm => ?_)
  obtain ⟨k, n, ks⟩ := t
  by_cases h : W (.mk k n ks) 0 > 1000
  · rw [if_pos h]
    exact tfun_sound (tl (pcall E14 m) m k n (W (.mk k n ks) 0) (encs ks)) ⟨⟨trivial, hm⟩, by simpa using h⟩
  · rw [if_neg h]
    exact tfun_sound (tl2 (pcall E14 m) m k n (W (.mk k n ks) 0) (encs ks)) ⟨⟨trivial, hm⟩, by simpa using h⟩

mutual
theorem W_sz : ∀ (t : T) (d : Int), W t d ≤ 1000 → W t d = sz t
  | .mk k n ks, d, h => by
    unfold W at h ⊢
    unfold sz
    split at h
    · omega
    · rename_i hd
      rw [if_neg hd]
      exact Ws_sz ks d 1 (by omega) h
theorem Ws_sz : ∀ (ks : List T) (d s : Int), 0 ≤ s → Ws ks d s ≤ 1000 → Ws ks d s = s + szs ks
  | [], d, s, hs, h => by simp [Ws, szs]
  | t :: r, d, s, hs, h => by
    unfold Ws at h ⊢
    have hb2 := W_bound t (d + 1)
    unfold szs
    split at h
    · omega
    · rename_i hb
      rw [if_neg hb]
      have h2 := Ws_sz r d _ (by omega) h
      have hr := szs_pos r
      have h1 := W_sz t (d + 1)
      have hb2 := W_bound t (d + 1)
      by_cases hw : W t (d + 1) ≤ 1000
      · rw [h2, h1 hw]; omega
      · omega
end
end Go.L14

namespace Go.L14
open Go Go.Bb

def szI (i : Nat) : Nat := if i = 0 then 0 else 3
theorem encs_append : ∀ (a b : List T), encs (a ++ b) = encs a ++ encs b
  | [], b => rfl
  | t :: r, b => by simp [encs, encs_append r b]
abbrev ofσ (k n : Int) (ks : List T) (i : Nat) (xs : List PV) : List AObj :=
  [.var (.agg [.int .i64 k, .int .i64 n, .list false (encs ks)]), .arr 0 0 [], .var (.agg [.int .i64 0, .int .i64 0, .own 1 0 0 0]), .arr 0 0 [], .var (.agg [.int .i64 k, .int .i64 n, .own 5 i 0 i]), .arr i (szI i) xs]

theorem e33 : elemT Go.Proofs.Tryd.prog 33 = some 35 := by kernel_rfl
theorem s35 : szOf Go.Proofs.Tryd.prog 35 = 3 := by kernel_rfl
theorem b35 : bytesOf Go.Proofs.Tryd.prog 35 = 40 := by kernel_rfl

theorem of_loop {n' : Nat} (k n : Int) (ks : List T) (hks : ks.length ≤ 1000000) : ∀ (rest pre : List T) (m : Nat), ks = pre ++ rest → rest.length < m → (∀ t ∈ rest, pcall E14 n' 12 [enc t] [] = some (enc t, [])) →
    LoopM E14 (pcall E14 n') n' m 0 12 [1, 1, 0, 1, 0] [(2, .refv 2 0), (3, .refv 4 0), (12, .list false (encs ks)), (13, .int .i64 ks.length), (14, .int .i64 pre.length)] (ofσ k n ks pre.length (encs pre))
      (.exit 0, [(2, .refv 2 0), (3, .refv 4 0), (12, .list false (encs ks)), (13, .int .i64 ks.length), (14, .int .i64 ks.length), (15, .bool (decide ((ks.length : Int) < ks.length)))], ofσ k n ks ks.length (encs ks))
  | [], pre, m, he, hm, hc => by
    obtain ⟨m, rfl⟩ : ∃ m', m = m' + 1 := ⟨m - 1, by simp at hm; omega⟩
    have hp : pre = ks := by rw [he]; simp
    rw [hp]
    exact LoopM.last (tbody_sound (ob0 _ n' k n ks.length ks.length ks.length ks.length (szI ks.length) (encs ks) (encs ks)) ⟨trivial, by simp⟩) (by simp)
  | .mk k0 n0 ls :: r, pre, m, he, hm, hc => by
    obtain ⟨m, rfl⟩ : ∃ m', m = m' + 1 := ⟨m - 1, by simp at hm; omega⟩
    have hcall := hc (.mk k0 n0 ls) (by simp)
    have hlen : ks.length = pre.length + (r.length + 1) := by rw [he]; simp
    have hget : (encs ks)[pre.length]? = some (enc (.mk k0 n0 ls)) := by rw [encs_get, he]; simp
    have hix := idx_list (P := Go.Proofs.Tryd.prog) (rd := rdF [] (ofσ k n ks pre.length (encs pre))) (y := false) (k := .i64) u22 (by kernel_rfl) (v := enc (.mk k0 n0 ls)) (by kernel_rfl) hget
    have wi : IntKind.i64.wrap ((pre.length : Int) + 1) = ((pre ++ [T.mk k0 n0 ls]).length : Int) := by
      rw [i64w (by omega) (by omega)]; simp
    have happ := app_own (P := Go.Proofs.Tryd.prog) (rd := rdF [5, 8] (ofσ k n ks pre.length (encs pre) ++ [.arr 0 0 [], .var (enc (.mk k0 n0 ls)), .arr 0 3 [enc (.mk k0 n0 ls)]])) (k := 9) (o := 5) (v := pre.length) (sz := szI pre.length) (t := 33) (xt := 33) (xs := encs pre)
      (ys := [enc (.mk k0 n0 ls)]) (x := .own 8 0 0 1) e33 (by rw [s35]; rfl) (by rw [s35]; rfl) (by kernel_rfl) (by kernel_rfl) rfl (by rw [s35]; unfold szI; split <;> rfl) (by simp) (by rw [b35, encs_length]; simp; omega)
    rw [encs_length, s35] at happ
    have hbody := tbody_sound (ob1 (pcall E14 n') n' k n ks.length pre.length k0 n0 pre.length pre.length (szI pre.length) (pre.length + 1) (pre.length + 1) 3 (encs ks) (encs pre) (encs ls) (encs pre ++ [enc (.mk k0 n0 ls)]))
      ⟨⟨⟨⟨trivial, by simp; omega⟩, hix⟩, hcall⟩, happ⟩
    rw [wi] at hbody
    have hgo := of_loop k n ks hks r (pre ++ [.mk k0 n0 ls]) m (by rw [he]; simp) (by simp at hm; omega) (fun t ht => hc t (List.mem_cons_of_mem _ ht))
    have e1 : (pre ++ [T.mk k0 n0 ls]).length = pre.length + 1 := by simp
    rw [e1, encs_append] at hgo
    rw [e1] at hbody
    exact LoopM.next hbody hgo
end Go.L14

namespace Go.L14
open Go Go.Bb

theorem fin_of (k n : Int) (ks xs : List PV) (v sz : Nat) :
    fin false 0 (PV.agg [PV.int IntKind.i64 k, PV.int IntKind.i64 n, PV.own 5 v 0 xs.length]) [AObj.var (PV.agg [PV.int IntKind.i64 k, PV.int IntKind.i64 n, PV.list false ks]), AObj.arr 0 0 [], AObj.var (PV.agg [PV.int IntKind.i64 k, PV.int IntKind.i64 n, PV.own 5 v 0 xs.length]), AObj.arr 0 0 [], AObj.var (PV.agg [PV.int IntKind.i64 k, PV.int IntKind.i64 n, PV.own 5 v 0 xs.length]), AObj.arr v sz xs] = some (PV.agg [PV.int IntKind.i64 k, PV.int IntKind.i64 n, PV.list false xs], []) := by
  have c1 : Nat.ble xs.length xs.length = true := Nat.ble_eq_true_of_le (Nat.le_refl _)
  have c2 : Nat.ble 0 5 = true := rfl
  have hfd : freeD 0 (([AObj.var (PV.agg [PV.int IntKind.i64 k, PV.int IntKind.i64 n, PV.list false ks]), AObj.arr 0 0 [], AObj.var (PV.agg [PV.int IntKind.i64 k, PV.int IntKind.i64 n, PV.own 5 v 0 xs.length]), AObj.arr 0 0 [], AObj.var (PV.agg [PV.int IntKind.i64 k, PV.int IntKind.i64 n, PV.own 5 v 0 xs.length]), AObj.arr v sz xs])[·]?) 4
      (PV.agg [PV.int IntKind.i64 k, PV.int IntKind.i64 n, PV.own 5 v 0 xs.length]) = some (PV.agg [PV.int IntKind.i64 k, PV.int IntKind.i64 n, PV.list false xs]) := by
    simp [freeD, mapO, rdSl, c1, c2, Nat.beq_refl]
  unfold fin
  simp only [cond_false, hfd]
  rfl

theorem of12 : ∀ (t : T), t.ok → sz t ≤ 1000000 → Has E14 12 [enc t] [] (enc t, [])
  | .mk k n ks, hok, hs => by
    unfold T.ok at hok
    unfold sz at hs
    have hlen : ∀ (ks : List T), (ks.length : Int) ≤ szs ks := by
      intro ks
      induction ks with
      | nil => simp [szs]
      | cons a r ih => have := sz_pos a; simp only [szs, List.length_cons]; omega
    have hk := hlen ks
    have kids : Ev fun m => ∀ t ∈ ks, pcall E14 m 12 [enc t] [] = some (enc t, []) := Ev.all ks fun t ht => of12 t (hok.2.2.2 t ht) (by have := szs_mem ks t ht; omega)
    have big : Ev fun m => ks.length < m := ⟨ks.length + 1, fun m hm => by omega⟩
    refine Ev.succ ((kids.and big).mono fun m hm => ?_)
    have hl := of_loop (n' := m) k n ks (by omega) ks [] m rfl hm.2 hm.1
    have hfin := fin_of k n (encs ks) (encs ks) ks.length (szI ks.length)
    rw [encs_length] at hfin
    exact tfun_sound (of (pcall E14 m) m k n ks.length ks.length ks.length ks.length (szI ks.length) (encs ks) (encs ks) (decide ((ks.length : Int) < ks.length))) ⟨⟨trivial, by rw [encs_length]; exact hl⟩, hfin⟩
end Go.L14

