/-  -/
import Derived.Test.YtpififklhcfcnaaDoorB8
namespace Go.L14
open Go Go.Bb
theorem u33 : Go.Proofs.Tryd.prog.underlying 33 = some (.slice 35) := by kernel_rfl

theorem rev_loop_1 {n' : Nat} (y : Bool) (on : List Bool) (n : Int) (ks : List T) (hks : ks.length ≤ maxLen) : ∀ (rest pre : List T) (m : Nat), ks = pre ++ rest → rest.length < m → (∀ t ∈ rest, pcall E14 n' 14 [enc t, .list y (bools on)] [] = some (.bool (V on t), [])) →
    LoopM E14 (pcall E14 n') n' m 0 14 [1, 1, 1, 0, 1, 0] [(1, .list y (bools on)), (2, .refv 0 0), (5, .int .i64 (pre.countP (V on))), (6, .int .i64 pre.length)] [.var (enc (.mk 1 n ks))]
      (.exit 0, [(1, .list y (bools on)), (2, .refv 0 0), (5, .int .i64 (ks.countP (V on))), (6, .int .i64 ks.length), (19, .bool (decide ((ks.length : Int) < ks.length)))], [.var (enc (.mk 1 n ks))])
  | [], pre, m, he, hm, hc => by
    obtain ⟨m, rfl⟩ : ∃ m', m = m' + 1 := ⟨m - 1, by simp at hm; omega⟩
    have hp : pre = ks := by rw [he]; simp
    rw [hp]
    have := tbody_sound (rb0_1 (pcall E14 n') n' n (ks.countP (V on)) ks.length (encs ks) (bools on) y) ⟨trivial, by rw [encs_length]; simp⟩
    rw [encs_length] at this
    exact LoopM.last this (by simp)
  | .mk k0 n0 ls :: r, pre, m, he, hm, hc => by
    obtain ⟨m, rfl⟩ : ∃ m', m = m' + 1 := ⟨m - 1, by simp at hm; omega⟩
    have hcall := hc (.mk k0 n0 ls) (by simp)
    have hlen : ks.length = pre.length + (r.length + 1) := by rw [he]; simp
    have hget : (encs ks)[pre.length]? = some (enc (.mk k0 n0 ls)) := by rw [encs_get, he]; simp
    have hix := idx_list (P := Go.Proofs.Tryd.prog) (rd := rdF [] [.var (enc (.mk 1 n ks))]) (y := false) (k := .i64) u33 (by kernel_rfl) (v := enc (.mk k0 n0 ls)) (by kernel_rfl) hget
    have hcp : pre.countP (V on) ≤ pre.length := List.countP_le_length
    have wi : IntKind.i64.wrap ((pre.length : Int) + 1) = ((pre ++ [T.mk k0 n0 ls]).length : Int) := by
      rw [i64w (by omega) (by unfold maxLen at hks; omega)]; simp
    have hgo := rev_loop_1 y on n ks hks r (pre ++ [.mk k0 n0 ls]) m (by rw [he]; simp) (by simp at hm; omega) (fun t ht => hc t (List.mem_cons_of_mem _ ht))
    cases hv : V on (.mk k0 n0 ls) with
    | true =>
      rw [hv] at hcall
      have hbody := tbody_sound (rb1_1 (pcall E14 n') n' n (pre.countP (V on)) pre.length k0 n0 (encs ks) (bools on) (encs ls) y) ⟨⟨⟨trivial, by rw [encs_length]; simp; omega⟩, hix⟩, hcall⟩
      have wc : IntKind.i64.wrap ((pre.countP (V on) : Int) + 1) = ((pre ++ [T.mk k0 n0 ls]).countP (V on) : Int) := by
        rw [i64w (by omega) (by unfold maxLen at hks; omega)]; simp [List.countP_append, hv]
      rw [wi, wc] at hbody
      exact LoopM.next hbody hgo
    | false =>
      rw [hv] at hcall
      have hbody := tbody_sound (rb2_1 (pcall E14 n') n' n (pre.countP (V on)) pre.length k0 n0 (encs ks) (bools on) (encs ls) y) ⟨⟨⟨trivial, by rw [encs_length]; simp; omega⟩, hix⟩, hcall⟩
      have wc : (pre.countP (V on) : Int) = ((pre ++ [T.mk k0 n0 ls]).countP (V on) : Int) := by simp [List.countP_append, hv]
      rw [wi, wc] at hbody
      rw [wc]
      exact LoopM.next hbody hgo

theorem rev_loop_2 {n' : Nat} (y : Bool) (on : List Bool) (n : Int) (ks : List T) (hks : ks.length ≤ maxLen) : ∀ (rest pre : List T) (m : Nat), ks = pre ++ rest → rest.length < m → (∀ t ∈ rest, pcall E14 n' 14 [enc t, .list y (bools on)] [] = some (.bool (V on t), [])) →
    LoopM E14 (pcall E14 n') n' m 0 14 [1, 1, 1, 0, 1, 0] [(1, .list y (bools on)), (2, .refv 0 0), (5, .int .i64 (pre.countP (V on))), (6, .int .i64 pre.length)] [.var (enc (.mk 2 n ks))]
      (.exit 0, [(1, .list y (bools on)), (2, .refv 0 0), (5, .int .i64 (ks.countP (V on))), (6, .int .i64 ks.length), (19, .bool (decide ((ks.length : Int) < ks.length)))], [.var (enc (.mk 2 n ks))])
  | [], pre, m, he, hm, hc => by
    obtain ⟨m, rfl⟩ : ∃ m', m = m' + 1 := ⟨m - 1, by simp at hm; omega⟩
    have hp : pre = ks := by rw [he]; simp
    rw [hp]
    have := tbody_sound (rb0_2 (pcall E14 n') n' n (ks.countP (V on)) ks.length (encs ks) (bools on) y) ⟨trivial, by rw [encs_length]; simp⟩
    rw [encs_length] at this
    exact LoopM.last this (by simp)
  | .mk k0 n0 ls :: r, pre, m, he, hm, hc => by
    obtain ⟨m, rfl⟩ : ∃ m', m = m' + 1 := ⟨m - 1, by simp at hm; omega⟩
    have hcall := hc (.mk k0 n0 ls) (by simp)
    have hlen : ks.length = pre.length + (r.length + 1) := by rw [he]; simp
    have hget : (encs ks)[pre.length]? = some (enc (.mk k0 n0 ls)) := by rw [encs_get, he]; simp
    have hix := idx_list (P := Go.Proofs.Tryd.prog) (rd := rdF [] [.var (enc (.mk 2 n ks))]) (y := false) (k := .i64) u33 (by kernel_rfl) (v := enc (.mk k0 n0 ls)) (by kernel_rfl) hget
    have hcp : pre.countP (V on) ≤ pre.length := List.countP_le_length
    have wi : IntKind.i64.wrap ((pre.length : Int) + 1) = ((pre ++ [T.mk k0 n0 ls]).length : Int) := by
      rw [i64w (by omega) (by unfold maxLen at hks; omega)]; simp
    have hgo := rev_loop_2 y on n ks hks r (pre ++ [.mk k0 n0 ls]) m (by rw [he]; simp) (by simp at hm; omega) (fun t ht => hc t (List.mem_cons_of_mem _ ht))
    cases hv : V on (.mk k0 n0 ls) with
    | true =>
      rw [hv] at hcall
      have hbody := tbody_sound (rb1_2 (pcall E14 n') n' n (pre.countP (V on)) pre.length k0 n0 (encs ks) (bools on) (encs ls) y) ⟨⟨⟨trivial, by rw [encs_length]; simp; omega⟩, hix⟩, hcall⟩
      have wc : IntKind.i64.wrap ((pre.countP (V on) : Int) + 1) = ((pre ++ [T.mk k0 n0 ls]).countP (V on) : Int) := by
        rw [i64w (by omega) (by unfold maxLen at hks; omega)]; simp [List.countP_append, hv]
      rw [wi, wc] at hbody
      exact LoopM.next hbody hgo
    | false =>
      rw [hv] at hcall
      have hbody := tbody_sound (rb2_2 (pcall E14 n') n' n (pre.countP (V on)) pre.length k0 n0 (encs ks) (bools on) (encs ls) y) ⟨⟨⟨trivial, by rw [encs_length]; simp; omega⟩, hix⟩, hcall⟩
      have wc : (pre.countP (V on) : Int) = ((pre ++ [T.mk k0 n0 ls]).countP (V on) : Int) := by simp [List.countP_append, hv]
      rw [wi, wc] at hbody
      rw [wc]
      exact LoopM.next hbody hgo
end Go.L14

namespace Go.L14
open Go Go.Bb

theorem Vall_count (on : List Bool) : ∀ ks : List T, Vall on ks = decide (ks.countP (V on) = ks.length)
  | [] => rfl
  | t :: r => by
    have h := List.countP_le_length (p := V on) (l := r)
    simp only [Vall, Vall_count on r, List.countP_cons, List.length_cons]
    cases V on t <;> simp <;> omega
theorem Vany_count (on : List Bool) : ∀ ks : List T, Vany on ks = decide (0 < ks.countP (V on))
  | [] => rfl
  | t :: r => by
    simp only [Vany, Vany_count on r, List.countP_cons]
    cases V on t <;> simp

theorem reval (y : Bool) (on : List Bool) : ∀ (t : T), t.ok → t.fits on.length → Has E14 14 [enc t, .list y (bools on)] [] (.bool (V on t), [])
  | .mk k n ks, hok, hf => by
    unfold T.ok at hok
    have hks := hok.2.2.1
    have kids : Ev fun m => ∀ t ∈ ks, pcall E14 m 14 [enc t, .list y (bools on)] [] = some (.bool (V on t), []) := Ev.all ks fun t ht => reval y on t (hok.2.2.2 t ht) (fits_kids hf t ht)
    have big : Ev fun m => ks.length < m := ⟨ks.length + 1, fun m hm => by omega⟩
    unfold T.fits at hf
    by_cases hk0 : k = 0
    · subst hk0
      rw [if_pos rfl] at hf
      obtain ⟨⟨f1, f2⟩, _⟩ := hf
      have hn : n = (n.toNat : Int) := by omega
      have hlt : n.toNat < on.length := by omega
      have hget : (bools on)[n.toNat]? = some (.bool (on1 on n)) := by simp [bools, on1, hlt]
      have hV : V on (.mk 0 n ks) = on1 on n := by rw [V]; simp
      rw [hV]
      refine Ev.succ (Ev.of fun m => tfun_sound (re0 (pcall E14 m) m n (encs ks) (bools on) y (on1 on n)) ⟨trivial, ?_⟩)
      have := idx_list (P := Go.Proofs.Tryd.prog) (rd := rdF [] [.var (enc (.mk 0 n ks))]) (y := y) (k := .i64) u25 (by kernel_rfl) (v := .bool (on1 on n)) (by kernel_rfl) hget
      rw [← hn] at this
      exact this
    · rw [if_neg hk0] at hf
      refine Ev.succ ((kids.and big).mono fun m hm => ?_)
      rcases hf.1 with rfl | rfl
      · have hl := rev_loop_1 (n' := m) y on n ks hks ks [] m rfl hm.2 hm.1
        have := tfun_sound (re_1 (pcall E14 m) m n (ks.countP (V on)) ks.length (encs ks) (bools on) y (decide ((ks.length : Int) < ks.length))) ⟨trivial, hl⟩
        have hV : V on (.mk 1 n ks) = (((ks.countP (V on) : Nat) : Int) == ((encs ks).length : Int)) := by
          rw [V, if_pos rfl, Vall_count, encs_length, Bool.eq_iff_iff, decide_eq_true_iff, beq_iff_eq]; omega
        rw [hV]; exact this
      · have hl := rev_loop_2 (n' := m) y on n ks hks ks [] m rfl hm.2 hm.1
        have := tfun_sound (re_2 (pcall E14 m) m n (ks.countP (V on)) ks.length (encs ks) (bools on) y (decide ((ks.length : Int) < ks.length))) ⟨trivial, hl⟩
        have hV : V on (.mk 2 n ks) = decide (((ks.countP (V on) : Nat) : Int) > 0) := by
          rw [V, if_neg (by decide), if_pos rfl, Vany_count, Bool.eq_iff_iff, decide_eq_true_iff, decide_eq_true_iff]; omega
        rw [hV]; exact this
end Go.L14

namespace Go.L14
open Go Go.Bb

theorem sd_loop_1 {n' : Nat} (y : Bool) (on : List Bool) (n : Int) (ks : List T) (hks : ks.length ≤ maxLen) : ∀ (rest pre : List T) (d : Int) (m : Nat), ks = pre ++ rest → 0 ≤ d → d + szs rest < 9223372036854775807 → rest.length < m →
    (∀ t ∈ rest, t.fits on.length) → (∀ t ∈ rest, pcall E14 n' 15 [enc t, .list y (bools on)] [] = some (.int .i64 (D on t), [])) →
    LoopM E14 (pcall E14 n') n' m 0 15 [1, 1, 1, 0, 1, 0] [(1, .list y (bools on)), (2, .refv 0 0), (5, .int .i64 d), (6, .int .i64 pre.length)] [.var (enc (.mk 1 n ks))]
      (.exit 0, [(1, .list y (bools on)), (2, .refv 0 0), (5, .int .i64 (Ds on rest false d)), (6, .int .i64 ks.length), (22, .bool (decide ((ks.length : Int) < ks.length)))], [.var (enc (.mk 1 n ks))])
  | [], pre, d, m, he, h0, hd, hm, hf, hc => by
    obtain ⟨m, rfl⟩ : ∃ m', m = m' + 1 := ⟨m - 1, by simp at hm; omega⟩
    have hp : pre = ks := by rw [he]; simp
    rw [hp]
    have := tbody_sound (sb0_1 (pcall E14 n') n' n d ks.length (encs ks) (bools on) y) ⟨trivial, by rw [encs_length]; simp⟩
    rw [encs_length] at this
    exact LoopM.last this (by simp)
  | .mk k0 n0 ls :: r, pre, d, m, he, h0, hd, hm, hf, hc => by
    obtain ⟨m, rfl⟩ : ∃ m', m = m' + 1 := ⟨m - 1, by simp at hm; omega⟩
    have hcall := hc (.mk k0 n0 ls) (by simp)
    have hb := D_bound on (.mk k0 n0 ls)
    have hsr := szs_pos r
    have hlen : ks.length = pre.length + (r.length + 1) := by rw [he]; simp
    have hget : (encs ks)[pre.length]? = some (enc (.mk k0 n0 ls)) := by rw [encs_get, he]; simp
    have hix := idx_list (P := Go.Proofs.Tryd.prog) (rd := rdF [] [.var (enc (.mk 1 n ks))]) (y := false) (k := .i64) u33 (by kernel_rfl) (v := enc (.mk k0 n0 ls)) (by kernel_rfl) hget
    have wi : IntKind.i64.wrap ((pre.length : Int) + 1) = ((pre ++ [T.mk k0 n0 ls]).length : Int) := by
      rw [i64w (by omega) (by unfold maxLen at hks; omega)]; simp
    have hszs : szs (.mk k0 n0 ls :: r) = sz (.mk k0 n0 ls) + szs r := by rw [szs]
    rw [hszs] at hd
    have hlt : decide ((pre.length : Int) < ((encs ks).length : Int)) = true := by rw [encs_length]; simp; omega
    have w1 : IntKind.i64.wrap (1 + D on (.mk k0 n0 ls)) = 1 + D on (.mk k0 n0 ls) := i64w (by omega) (by omega)
    have go : ∀ d', 0 ≤ d' → d' + szs r < 9223372036854775807 → _ := fun d' a b =>
      sd_loop_1 y on n ks hks r (pre ++ [.mk k0 n0 ls]) d' m (by rw [he]; simp) a b (by simp at hm; omega) (fun t ht => hf t (List.mem_cons_of_mem _ ht)) (fun t ht => hc t (List.mem_cons_of_mem _ ht))
    by_cases hk : k0 ≠ 0
    · have hk' : ((k0 == 0) == true) = false := by simpa using hk
      have hD : Ds on (.mk k0 n0 ls :: r) false d = Ds on r false (max d (1 + D on (.mk k0 n0 ls))) := by rw [Ds]; simp [hk]
      rw [hD]
      by_cases hx : 1 + D on (.mk k0 n0 ls) > d
      · have hbody := tbody_sound (sb1_1 (pcall E14 n') n' n d pre.length k0 n0 (D on (.mk k0 n0 ls)) (encs ks) (bools on) (encs ls) y) ⟨⟨⟨⟨⟨trivial, hlt⟩, hix⟩, hk'⟩, hcall⟩, by rw [w1]; simpa using hx⟩
        rw [w1, wi] at hbody
        rw [show max d (1 + D on (.mk k0 n0 ls)) = 1 + D on (.mk k0 n0 ls) by omega]
        exact LoopM.next hbody (go _ (by omega) (by omega))
      · have hbody := tbody_sound (sb2_1 (pcall E14 n') n' n d pre.length k0 n0 (D on (.mk k0 n0 ls)) (encs ks) (bools on) (encs ls) y) ⟨⟨⟨⟨⟨trivial, hlt⟩, hix⟩, hk'⟩, hcall⟩, by rw [w1]; simpa using hx⟩
        rw [wi] at hbody
        rw [show max d (1 + D on (.mk k0 n0 ls)) = d by omega]
        exact LoopM.next hbody (go _ h0 (by omega))
    · have hk : k0 = 0 := by omega
      have hk' : ((k0 == 0) == true) = true := by simp [hk]
      have hfit := hf (.mk k0 n0 ls) (by simp)
      unfold T.fits at hfit
      rw [if_pos hk] at hfit
      obtain ⟨hfit, _⟩ := hfit
      have hn : n0 = (n0.toNat : Int) := by omega
      have hlt2 : n0.toNat < on.length := by omega
      have hg : (bools on)[n0.toNat]? = some (.bool (on1 on n0)) := by simp [bools, on1, hlt2]
      have hix2 := idx_list (P := Go.Proofs.Tryd.prog) (rd := rdF [] [.var (enc (.mk 1 n ks)), .arr 0 0 [], .var (enc (.mk k0 n0 ls))]) (y := y) (k := .i64) u25 (by kernel_rfl) (v := .bool (on1 on n0)) (by kernel_rfl) hg
      rw [← hn] at hix2
      by_cases ho : on1 on n0 = true
      · have hD : Ds on (.mk k0 n0 ls :: r) false d = Ds on r false (max d (1 + D on (.mk k0 n0 ls))) := by rw [Ds]; simp [ho]
        rw [hD]
        rw [ho] at hix2
        by_cases hx : 1 + D on (.mk k0 n0 ls) > d
        · have hbody := tbody_sound (sb3_1 (pcall E14 n') n' n d pre.length k0 n0 (D on (.mk k0 n0 ls)) (encs ks) (bools on) (encs ls) y) ⟨⟨⟨⟨⟨⟨trivial, hlt⟩, hix⟩, hk'⟩, hix2⟩, hcall⟩, by rw [w1]; simpa using hx⟩
          rw [w1, wi] at hbody
          rw [show max d (1 + D on (.mk k0 n0 ls)) = 1 + D on (.mk k0 n0 ls) by omega]
          exact LoopM.next hbody (go _ (by omega) (by omega))
        · have hbody := tbody_sound (sb4_1 (pcall E14 n') n' n d pre.length k0 n0 (D on (.mk k0 n0 ls)) (encs ks) (bools on) (encs ls) y) ⟨⟨⟨⟨⟨⟨trivial, hlt⟩, hix⟩, hk'⟩, hix2⟩, hcall⟩, by rw [w1]; simpa using hx⟩
          rw [wi] at hbody
          rw [show max d (1 + D on (.mk k0 n0 ls)) = d by omega]
          exact LoopM.next hbody (go _ h0 (by omega))
      · have ho' : on1 on n0 = false := by simpa using ho
        have hD : Ds on (.mk k0 n0 ls :: r) false d = Ds on r false d := by rw [Ds]; simp [ho', hk]
        rw [hD]
        rw [ho'] at hix2
        have hbody := tbody_sound (sb5_1 (pcall E14 n') n' n d pre.length k0 n0 (encs ks) (bools on) (encs ls) y) ⟨⟨⟨⟨trivial, hlt⟩, hix⟩, hk'⟩, hix2⟩
        rw [wi] at hbody
        have hs1 := sz_pos (.mk k0 n0 ls)
        exact LoopM.next hbody (go _ h0 (by omega))

theorem sd_loop_2 {n' : Nat} (y : Bool) (on : List Bool) (n : Int) (ks : List T) (hks : ks.length ≤ maxLen) : ∀ (rest pre : List T) (d : Int) (m : Nat), ks = pre ++ rest → 0 ≤ d → d + szs rest < 9223372036854775807 → rest.length < m →
    (∀ t ∈ rest, t.fits on.length) → (∀ t ∈ rest, pcall E14 n' 15 [enc t, .list y (bools on)] [] = some (.int .i64 (D on t), [])) →
    LoopM E14 (pcall E14 n') n' m 0 15 [1, 1, 1, 0, 1, 0] [(1, .list y (bools on)), (2, .refv 0 0), (5, .int .i64 d), (6, .int .i64 pre.length)] [.var (enc (.mk 2 n ks))]
      (.exit 0, [(1, .list y (bools on)), (2, .refv 0 0), (5, .int .i64 (Ds on rest false d)), (6, .int .i64 ks.length), (22, .bool (decide ((ks.length : Int) < ks.length)))], [.var (enc (.mk 2 n ks))])
  | [], pre, d, m, he, h0, hd, hm, hf, hc => by
    obtain ⟨m, rfl⟩ : ∃ m', m = m' + 1 := ⟨m - 1, by simp at hm; omega⟩
    have hp : pre = ks := by rw [he]; simp
    rw [hp]
    have := tbody_sound (sb0_2 (pcall E14 n') n' n d ks.length (encs ks) (bools on) y) ⟨trivial, by rw [encs_length]; simp⟩
    rw [encs_length] at this
    exact LoopM.last this (by simp)
  | .mk k0 n0 ls :: r, pre, d, m, he, h0, hd, hm, hf, hc => by
    obtain ⟨m, rfl⟩ : ∃ m', m = m' + 1 := ⟨m - 1, by simp at hm; omega⟩
    have hcall := hc (.mk k0 n0 ls) (by simp)
    have hb := D_bound on (.mk k0 n0 ls)
    have hsr := szs_pos r
    have hlen : ks.length = pre.length + (r.length + 1) := by rw [he]; simp
    have hget : (encs ks)[pre.length]? = some (enc (.mk k0 n0 ls)) := by rw [encs_get, he]; simp
    have hix := idx_list (P := Go.Proofs.Tryd.prog) (rd := rdF [] [.var (enc (.mk 2 n ks))]) (y := false) (k := .i64) u33 (by kernel_rfl) (v := enc (.mk k0 n0 ls)) (by kernel_rfl) hget
    have wi : IntKind.i64.wrap ((pre.length : Int) + 1) = ((pre ++ [T.mk k0 n0 ls]).length : Int) := by
      rw [i64w (by omega) (by unfold maxLen at hks; omega)]; simp
    have hszs : szs (.mk k0 n0 ls :: r) = sz (.mk k0 n0 ls) + szs r := by rw [szs]
    rw [hszs] at hd
    have hlt : decide ((pre.length : Int) < ((encs ks).length : Int)) = true := by rw [encs_length]; simp; omega
    have w1 : IntKind.i64.wrap (1 + D on (.mk k0 n0 ls)) = 1 + D on (.mk k0 n0 ls) := i64w (by omega) (by omega)
    have go : ∀ d', 0 ≤ d' → d' + szs r < 9223372036854775807 → _ := fun d' a b =>
      sd_loop_2 y on n ks hks r (pre ++ [.mk k0 n0 ls]) d' m (by rw [he]; simp) a b (by simp at hm; omega) (fun t ht => hf t (List.mem_cons_of_mem _ ht)) (fun t ht => hc t (List.mem_cons_of_mem _ ht))
    by_cases hk : k0 ≠ 0
    · have hk' : ((k0 == 0) == true) = false := by simpa using hk
      have hD : Ds on (.mk k0 n0 ls :: r) false d = Ds on r false (max d (1 + D on (.mk k0 n0 ls))) := by rw [Ds]; simp [hk]
      rw [hD]
      by_cases hx : 1 + D on (.mk k0 n0 ls) > d
      · have hbody := tbody_sound (sb1_2 (pcall E14 n') n' n d pre.length k0 n0 (D on (.mk k0 n0 ls)) (encs ks) (bools on) (encs ls) y) ⟨⟨⟨⟨⟨trivial, hlt⟩, hix⟩, hk'⟩, hcall⟩, by rw [w1]; simpa using hx⟩
        rw [w1, wi] at hbody
        rw [show max d (1 + D on (.mk k0 n0 ls)) = 1 + D on (.mk k0 n0 ls) by omega]
        exact LoopM.next hbody (go _ (by omega) (by omega))
      · have hbody := tbody_sound (sb2_2 (pcall E14 n') n' n d pre.length k0 n0 (D on (.mk k0 n0 ls)) (encs ks) (bools on) (encs ls) y) ⟨⟨⟨⟨⟨trivial, hlt⟩, hix⟩, hk'⟩, hcall⟩, by rw [w1]; simpa using hx⟩
        rw [wi] at hbody
        rw [show max d (1 + D on (.mk k0 n0 ls)) = d by omega]
        exact LoopM.next hbody (go _ h0 (by omega))
    · have hk : k0 = 0 := by omega
      have hk' : ((k0 == 0) == true) = true := by simp [hk]
      have hfit := hf (.mk k0 n0 ls) (by simp)
      unfold T.fits at hfit
      rw [if_pos hk] at hfit
      obtain ⟨hfit, _⟩ := hfit
      have hn : n0 = (n0.toNat : Int) := by omega
      have hlt2 : n0.toNat < on.length := by omega
      have hg : (bools on)[n0.toNat]? = some (.bool (on1 on n0)) := by simp [bools, on1, hlt2]
      have hix2 := idx_list (P := Go.Proofs.Tryd.prog) (rd := rdF [] [.var (enc (.mk 2 n ks)), .arr 0 0 [], .var (enc (.mk k0 n0 ls))]) (y := y) (k := .i64) u25 (by kernel_rfl) (v := .bool (on1 on n0)) (by kernel_rfl) hg
      rw [← hn] at hix2
      by_cases ho : on1 on n0 = true
      · have hD : Ds on (.mk k0 n0 ls :: r) false d = Ds on r false (max d (1 + D on (.mk k0 n0 ls))) := by rw [Ds]; simp [ho]
        rw [hD]
        rw [ho] at hix2
        by_cases hx : 1 + D on (.mk k0 n0 ls) > d
        · have hbody := tbody_sound (sb3_2 (pcall E14 n') n' n d pre.length k0 n0 (D on (.mk k0 n0 ls)) (encs ks) (bools on) (encs ls) y) ⟨⟨⟨⟨⟨⟨trivial, hlt⟩, hix⟩, hk'⟩, hix2⟩, hcall⟩, by rw [w1]; simpa using hx⟩
          rw [w1, wi] at hbody
          rw [show max d (1 + D on (.mk k0 n0 ls)) = 1 + D on (.mk k0 n0 ls) by omega]
          exact LoopM.next hbody (go _ (by omega) (by omega))
        · have hbody := tbody_sound (sb4_2 (pcall E14 n') n' n d pre.length k0 n0 (D on (.mk k0 n0 ls)) (encs ks) (bools on) (encs ls) y) ⟨⟨⟨⟨⟨⟨trivial, hlt⟩, hix⟩, hk'⟩, hix2⟩, hcall⟩, by rw [w1]; simpa using hx⟩
          rw [wi] at hbody
          rw [show max d (1 + D on (.mk k0 n0 ls)) = d by omega]
          exact LoopM.next hbody (go _ h0 (by omega))
      · have ho' : on1 on n0 = false := by simpa using ho
        have hD : Ds on (.mk k0 n0 ls :: r) false d = Ds on r false d := by rw [Ds]; simp [ho', hk]
        rw [hD]
        rw [ho'] at hix2
        have hbody := tbody_sound (sb5_2 (pcall E14 n') n' n d pre.length k0 n0 (encs ks) (bools on) (encs ls) y) ⟨⟨⟨⟨trivial, hlt⟩, hix⟩, hk'⟩, hix2⟩
        rw [wi] at hbody
        have hs1 := sz_pos (.mk k0 n0 ls)
        exact LoopM.next hbody (go _ h0 (by omega))
end Go.L14

