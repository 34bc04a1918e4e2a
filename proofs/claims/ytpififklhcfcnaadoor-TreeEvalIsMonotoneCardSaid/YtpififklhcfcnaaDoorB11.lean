/- Leaves, Equal, and the reference's StackDepth. The reference's check. The reference's check and Check. Equality of trees and of lists; trees turned. Trees turned; a leaf joined to a tree. -/
import Derived.Test.YtpififklhcfcnaaDoorB9
import Derived.Test.YtpififklhcfcnaaDoorB6
import Derived.Test.YtpififklhcfcnaaDoorB10
namespace Go.L14
open Go Go.Bb

/-- Inner nodes have two kids at least. -/
def T.two : T → Prop
  | .mk k _ ks => (k = 0 ∨ 2 ≤ ks.length) ∧ ∀ t ∈ ks, t.two
mutual
theorem C_two (many : Int) : ∀ (t : T) (seen : List Int), (C t many seen).1 = 0 → t.two
  | .mk k n ks, seen, h => by
    unfold C at h
    unfold T.two
    split at h
    · simp at h
    · split at h
      · rename_i hk
        split at h
        · simp at h
        · rename_i h1
          refine ⟨.inl hk, ?_⟩
          cases ks with
          | nil => simp
          | cons a r => simp at h1
      · split at h
        · simp at h
        · split at h
          · simp at h
          · split at h
            · simp at h
            · exact ⟨.inr (by omega), Cs_two many ks seen h⟩
theorem Cs_two (many : Int) : ∀ (ks : List T) (seen : List Int), (Cs ks many seen).1 = 0 → ∀ t ∈ ks, t.two
  | [], _, _ => by simp
  | a :: r, seen, h => by
    unfold Cs at h
    split at h
    · rename_i hne; exact absurd h hne
    · rename_i he
      intro t ht
      have ha := C_two many a seen (by simpa using he)
      rcases List.mem_cons.1 ht with hta | ht
      · rw [hta]; exact ha
      · exact Cs_two many r _ h t ht
end
theorem Chk_two {t : T} {many : Int} (h : Chk t many = 0) : t.two := by
  unfold Chk at h
  split at h
  · rename_i h0; exact C_two many t [] h0
  · rename_i h0; exact absurd h h0

theorem rdepth (y : Bool) (on : List Bool) : ∀ (t : T), t.ok → sz t < 9223372036854775807 → t.fits on.length → t.two → Has E14 15 [enc t, .list y (bools on)] [] (.int .i64 (D on t), [])
  | .mk k n ks, hok, hs, hf, h2 => by
    unfold T.ok at hok
    unfold T.two at h2
    have hks := hok.2.2.1
    have hfk := fits_kids hf
    unfold sz at hs
    by_cases hk0 : k = 0
    · subst hk0
      have hnil : ks = [] := by unfold T.fits at hf; rw [if_pos rfl] at hf; exact hf.2
      subst hnil
      have hD : D on (.mk 0 n []) = 0 := by simp [D, Ds]
      rw [hD]
      exact Ev.succ (Ev.of fun m => tfun_sound (sd0 (pcall E14 m) m n [] (bools on) y) trivial)
    · have hlen : 2 ≤ ks.length := h2.1.resolve_left hk0
      have kids : Ev fun m => ∀ t ∈ ks, pcall E14 m 15 [enc t, .list y (bools on)] [] = some (.int .i64 (D on t), []) := Ev.all _ fun t ht => rdepth y on t (hok.2.2.2 t ht) (by have := szs_mem _ t ht; omega) (hfk t ht) (h2.2 t ht)
      obtain ⟨k0, n0, ls, r, rfl⟩ : ∃ k0 n0 ls r, ks = .mk k0 n0 ls :: r := by
        match ks, hlen with
        | .mk k0 n0 ls :: r, _ => exact ⟨k0, n0, ls, r, rfl⟩
      · skip
        have big : Ev fun m => r.length < m := ⟨r.length + 1, fun m hm => by omega⟩
        have hD : D on (.mk k n (.mk k0 n0 ls :: r)) = Ds on r false (D on (.mk k0 n0 ls)) := by rw [D, Ds]; simp
        rw [hD]
        have hb := D_bound on (.mk k0 n0 ls)
        have hsz : szs (.mk k0 n0 ls :: r) = sz (.mk k0 n0 ls) + szs r := by rw [szs]
        rw [hsz] at hs
        have hsr := szs_pos r
        unfold T.fits at hf
        rw [if_neg hk0] at hf
        refine Ev.succ ((kids.and big).mono fun m hm => ?_)
        have hcall := hm.1 (.mk k0 n0 ls) (by simp)
        rcases hf.1 with rfl | rfl
        · have hl := sd_loop_1 (n' := m) y on n (.mk k0 n0 ls :: r) hks r [.mk k0 n0 ls] (D on (.mk k0 n0 ls)) m rfl hb.1 (by omega) hm.2 (fun t ht => hfk t (List.mem_cons_of_mem _ ht)) (fun t ht => hm.1 t (List.mem_cons_of_mem _ ht))
          have hix := idx_list (P := Go.Proofs.Tryd.prog) (rd := rdF [] [.var (enc (.mk 1 n (.mk k0 n0 ls :: r)))]) (y := false) (k := .i64) u33 (by kernel_rfl) (v := enc (.mk k0 n0 ls)) (xs := encs (.mk k0 n0 ls :: r)) (i := 0) (by kernel_rfl) rfl
          exact tfun_sound (sd_1 (pcall E14 m) m n _ (D on (.mk k0 n0 ls)) _ k0 n0 (encs (.mk k0 n0 ls :: r)) (bools on) (encs ls) y _) ⟨⟨⟨trivial, hix⟩, hcall⟩, hl⟩
        · have hl := sd_loop_2 (n' := m) y on n (.mk k0 n0 ls :: r) hks r [.mk k0 n0 ls] (D on (.mk k0 n0 ls)) m rfl hb.1 (by omega) hm.2 (fun t ht => hfk t (List.mem_cons_of_mem _ ht)) (fun t ht => hm.1 t (List.mem_cons_of_mem _ ht))
          have hix := idx_list (P := Go.Proofs.Tryd.prog) (rd := rdF [] [.var (enc (.mk 2 n (.mk k0 n0 ls :: r)))]) (y := false) (k := .i64) u33 (by kernel_rfl) (v := enc (.mk k0 n0 ls)) (xs := encs (.mk k0 n0 ls :: r)) (i := 0) (by kernel_rfl) rfl
          exact tfun_sound (sd_2 (pcall E14 m) m n _ (D on (.mk k0 n0 ls)) _ k0 n0 (encs (.mk k0 n0 ls :: r)) (bools on) (encs ls) y _) ⟨⟨⟨trivial, hix⟩, hcall⟩, hl⟩

/- Leaves -/
mutual
def Lv : T → List Int
  | .mk k n ks => if k = 0 then [n] else if k = 1 ∨ k = 2 then Lvs ks else []
def Lvs : List T → List Int
  | [] => []
  | t :: r => Lv t ++ Lvs r
end
theorem Lvs_append : ∀ (a b : List T), Lvs (a ++ b) = Lvs a ++ Lvs b
  | [], b => by simp [Lvs]
  | t :: r, b => by simp [Lvs, Lvs_append r b]
mutual
theorem Lv_sz : ∀ t, ((Lv t).length : Int) ≤ sz t
  | .mk k n ks => by
    unfold Lv sz
    have := Lvs_sz ks
    have := szs_pos ks
    split
    · simp; omega
    · split
      · omega
      · simp; omega
theorem Lvs_sz : ∀ ks, ((Lvs ks).length : Int) ≤ szs ks
  | [] => by simp [Lvs, szs]
  | t :: r => by
    unfold Lvs szs
    have := Lv_sz t
    have := Lvs_sz r
    simp; omega
end
theorem ints_append (a b : List Int) : ints (a ++ b) = ints a ++ ints b := List.map_append
theorem ints_length (a : List Int) : (ints a).length = a.length := List.length_map ..
theorem szs_append : ∀ (a b : List T), szs (a ++ b) = szs a + szs b
  | [], b => by simp [szs]
  | t :: r, b => by simp [szs, szs_append r b]; omega

theorem e47 : elemT Go.Proofs.Tryd.prog 47 = some 3 := by kernel_rfl
theorem s3 : szOf Go.Proofs.Tryd.prog 3 = 1 := by kernel_rfl
theorem b3 : bytesOf Go.Proofs.Tryd.prog 3 = 8 := by kernel_rfl
theorem sizeOk_ints : ∀ (l : List Int), sizeOk 1 (ints l) = true
  | [] => rfl
  | _ :: r => sizeOk_ints r
theorem app47 {rd : Rd} {k o v z : Nat} {xs : List Int} {ys : List Int} {x : PV} (hs : srcOf rd 1 x = some (ints ys)) (ho : rd o = some (.arr v z (ints xs))) (hz : zOk z 1 (ints xs)) (hb : xs.length + ys.length ≤ 1000000) :
    ∃ v' z', zOk z' 1 (ints (xs ++ ys)) ∧ aAppend (Envt.P E14) rd k 47 47 (.own o v 0 xs.length) x = some ⟨.own o v' 0 (xs ++ ys).length, [(o, .arr v' z' (ints (xs ++ ys)))]⟩ := by
  obtain ⟨v', z', h1, h2⟩ := app_ex (P := Go.Proofs.Tryd.prog) (rd := rd) (k := k) (o := o) (v := v) (sz := z) (m := xs.length) (t := 47) (xt := 47) (e := 3) (xs := ints xs) (ys := ints ys) (x := x) (ints_length xs).symm e47 (by rw [s3]; exact hs) (by rw [s3]; exact sizeOk_ints ys) (by kernel_rfl) (by kernel_rfl) ho (by rw [s3]; exact hz) (by rw [b3, ints_length, ints_length]; omega)
  rw [s3, ← ints_append] at h1
  rw [← ints_append, ints_length] at h2
  exact ⟨v', z', h1, h2⟩

theorem ixT {rd : Rd} {ks : List T} {pre post : List T} {t : T} (he : ks = pre ++ t :: post) : justO (aIndexAddr (Envt.P E14) rd 22 (.list false (encs ks)) (.int .i64 (pre.length : Int))) = some ⟨.ro false (enc t), []⟩ := by
  have hget : (encs ks)[pre.length]? = some (enc t) := by rw [encs_get, he]; simp
  obtain ⟨a, b, c⟩ := t
  exact idx_list (P := Go.Proofs.Tryd.prog) (rd := rd) (y := false) (k := .i64) u22 (by kernel_rfl) (by kernel_rfl) hget
theorem ixR {rd : Rd} {ks : List T} {pre post : List T} {t : T} (he : ks = pre ++ t :: post) : justO (aIndexAddr (Envt.P E14) rd 33 (.list false (encs ks)) (.int .i64 (pre.length : Int))) = some ⟨.ro false (enc t), []⟩ := by
  have hget : (encs ks)[pre.length]? = some (enc t) := by rw [encs_get, he]; simp
  obtain ⟨a, b, c⟩ := t
  exact idx_list (P := Go.Proofs.Tryd.prog) (rd := rd) (y := false) (k := .i64) u33 (by kernel_rfl) (by kernel_rfl) hget
theorem ltp {ks pre post : List T} {t : T} (he : ks = pre ++ t :: post) : decide ((pre.length : Int) < ((encs ks).length : Int)) = true := by rw [encs_length, he]; simp; omega
theorem nlt (ks : List T) : decide ((ks.length : Int) < ((encs ks).length : Int)) = false := by rw [encs_length]; simp
theorem wpre {ks pre post : List T} {t : T} (he : ks = pre ++ t :: post) (hks : ks.length ≤ maxLen) : IntKind.i64.wrap ((pre.length : Int) + 1) = ((pre ++ [t]).length : Int) := wnext pre t (by rw [he] at hks; unfold maxLen at hks; simp at hks; omega)

theorem leaves20 : ∀ (t : T), t.ok → sz t ≤ 1000000 → Has E14 20 [enc t] [] (.list false (ints (Lv t)), [])
  | .mk k n ks, hok, hs => by
    unfold T.ok at hok
    have hks := hok.2.2.1
    unfold sz at hs
    have kids : Ev fun m => ∀ t ∈ ks, pcall E14 m 20 [enc t] [] = some (.list false (ints (Lv t)), []) := Ev.all ks fun t ht => leaves20 t (hok.2.2.2 t ht) (by have := szs_mem ks t ht; omega)
    have big : Ev fun m => ks.length < m := ⟨ks.length + 1, fun m hm => by omega⟩
    refine Ev.succ ((kids.and big).mono fun m hm => ?_)
    by_cases hk0 : k = 0
    · subst hk0
      have hL : Lv (.mk 0 n ks) = [n] := by rw [Lv, if_pos rfl]
      rw [hL]
      exact tfun_sound (f20_1 (pcall E14 m) m 0 n (encs ks)) ⟨trivial, rfl⟩
    · have h0 : (k == 0) = false := by simpa using hk0
      by_cases hk : k = 1 ∨ k = 2
      · have hL : Lv (.mk k n ks) = Lvs ks := by rw [Lv, if_neg hk0, if_pos hk]
        rw [hL]
        obtain ⟨out, hl, v, z, x, b, rfl⟩ := LoopM.list (E := E14) (call := pcall E14 m) (n := m) (k0 := 0) (f := 20) (p := [1, 0, 1, 0, 1, 1, 1, 0, 1, 0, 1, 0]) ks
          (fun pre env σ => ∃ v z, zOk z 1 (ints (Lvs pre)) ∧ env = [(3, .own 2 v 0 (Lvs pre).length), (17, .list false (encs ks)), (18, .int .i64 ((encs ks).length : Int)), (19, .int .i64 pre.length)] ∧ σ = [.var (enc (.mk k n ks)), .arr 0 0 [], .arr v z (ints (Lvs pre))])
          (fun out => ∃ v z x b, out = (.exit 1, [(3, .own 2 v 0 (Lvs ks).length), (17, .list false (encs ks)), (18, .int .i64 ((encs ks).length : Int)), (19, .int .i64 x), (20, .bool b)], [.var (enc (.mk k n ks)), .arr 0 0 [], .arr v z (ints (Lvs ks))]))
          (fun env σ ⟨v, z, hz, he, hσ⟩ => by
            subst he; subst hσ
            exact ⟨_, tbody_sound (f20_l1_1 (pcall E14 m) m k n (encs ks) v (Lvs ks).length ks.length v z (ints (Lvs ks))) ⟨trivial, nlt ks⟩, by simp, v, z, _, _, rfl⟩)
          (fun pre t post env σ he ⟨v, z, hz, he2, hσ⟩ => by
            subst he2; subst hσ
            left
            have hcall := hm.1 t (by rw [he]; simp)
            have hsz : szs ks = szs pre + (sz t + szs post) := by rw [he, szs_append, szs]
            have b1 := Lvs_sz pre
            have b2 := Lv_sz t
            have b3 := szs_pos post
            obtain ⟨v', z', hz', happ⟩ := app47 (rd := rdF [2] [AObj.var (enc (.mk k n ks)), .arr 0 0 [], .arr v z (ints (Lvs pre)), .arr 0 0 [], .var (enc t)]) (k := 5) (o := 2) (v := v) (z := z) (xs := Lvs pre) (ys := Lv t) (x := .list false (ints (Lv t))) rfl rfl hz (by omega)
            have hL2 : Lvs (pre ++ [t]) = Lvs pre ++ Lv t := by rw [Lvs_append]; simp [Lvs]
            refine ⟨_, _, ?_, v', z', by rw [hL2]; exact hz', rfl, rfl⟩
            rw [hL2, ← wpre he hks]
            obtain ⟨k0, n0, ls⟩ := t
            exact tbody_sound (f20_l1_2 (pcall E14 m) m k n (encs ks) v (Lvs pre).length pre.length v z (ints (Lvs pre)) k0 n0 (encs ls) (ints (Lv (.mk k0 n0 ls))) v' _ z' _) ⟨⟨⟨⟨trivial, ltp he⟩, ixT he⟩, hcall⟩, happ⟩)
          (env := [(3, .own 2 0 0 0), (17, .list false (encs ks)), (18, .int .i64 ((encs ks).length : Int)), (19, .int .i64 0)]) (σ := [.var (enc (.mk k n ks)), .arr 0 0 [], .arr 0 0 []])
          ⟨0, 0, .inr ⟨rfl, rfl⟩, rfl, rfl⟩ hm.2
        have hfin : fin false 0 (.own 2 v 0 (Lvs ks).length) [.var (enc (.mk k n ks)), .arr 0 0 [], .arr v z (ints (Lvs ks))] = some (.list false (ints (Lvs ks)), []) := fin_own rfl (ints_length _).symm
        by_cases hk1 : k = 1
        · exact tfun_sound (f20_3 (pcall E14 m) m k n (encs ks) v _ x b v z (ints (Lvs ks))) ⟨⟨⟨⟨⟨trivial, h0⟩, by simpa using hk1⟩, by simpa using hk1⟩, hl⟩, hfin⟩
        · have hk2 : k = 2 := by omega
          exact tfun_sound (f20_4 (pcall E14 m) m k n (encs ks) v _ x b v z (ints (Lvs ks))) ⟨⟨⟨⟨⟨trivial, h0⟩, by simpa using hk1⟩, by simpa using hk2⟩, hl⟩, hfin⟩
      · have hL : Lv (.mk k n ks) = [] := by rw [Lv, if_neg hk0, if_neg hk]
        rw [hL]
        exact tfun_sound (f20_2 (pcall E14 m) m k n (encs ks)) ⟨⟨⟨trivial, h0⟩, by simp; omega⟩, by simp; omega⟩

theorem leaves21 : ∀ (t : T), t.ok → sz t ≤ 1000000 → Has E14 21 [enc t] [] (.list false (ints (Lv t)), [])
  | .mk k n ks, hok, hs => by
    unfold T.ok at hok
    have hks := hok.2.2.1
    unfold sz at hs
    have kids : Ev fun m => ∀ t ∈ ks, pcall E14 m 21 [enc t] [] = some (.list false (ints (Lv t)), []) := Ev.all ks fun t ht => leaves21 t (hok.2.2.2 t ht) (by have := szs_mem ks t ht; omega)
    have big : Ev fun m => ks.length < m := ⟨ks.length + 1, fun m hm => by omega⟩
    refine Ev.succ ((kids.and big).mono fun m hm => ?_)
    by_cases hk0 : k = 0
    · subst hk0
      have hL : Lv (.mk 0 n ks) = [n] := by rw [Lv, if_pos rfl]
      rw [hL]
      exact tfun_sound (f21_1 (pcall E14 m) m 0 n (encs ks)) ⟨trivial, rfl⟩
    · have h0 : (k == 0) = false := by simpa using hk0
      by_cases hk : k = 1 ∨ k = 2
      · have hL : Lv (.mk k n ks) = Lvs ks := by rw [Lv, if_neg hk0, if_pos hk]
        rw [hL]
        obtain ⟨out, hl, v, z, x, b, rfl⟩ := LoopM.list (E := E14) (call := pcall E14 m) (n := m) (k0 := 0) (f := 21) (p := [1, 1, 1, 1, 0, 1, 0]) ks
          (fun pre env σ => ∃ v z, zOk z 1 (ints (Lvs pre)) ∧ env = [(1, .refv 0 0), (3, .own 2 v 0 (Lvs pre).length), (4, .int .i64 pre.length)] ∧ σ = [.var (enc (.mk k n ks)), .arr 0 0 [], .arr v z (ints (Lvs pre))])
          (fun out => ∃ v z x b, out = (.exit 0, [(1, .refv 0 0), (3, .own 2 v 0 (Lvs ks).length), (4, .int .i64 x), (23, .bool b)], [.var (enc (.mk k n ks)), .arr 0 0 [], .arr v z (ints (Lvs ks))]))
          (fun env σ ⟨v, z, hz, he, hσ⟩ => by
            subst he; subst hσ
            exact ⟨_, tbody_sound (f21_l1_1 (pcall E14 m) m k n (encs ks) v (Lvs ks).length ks.length v z (ints (Lvs ks))) ⟨trivial, nlt ks⟩, by simp, v, z, _, _, rfl⟩)
          (fun pre t post env σ he ⟨v, z, hz, he2, hσ⟩ => by
            subst he2; subst hσ
            left
            have hcall := hm.1 t (by rw [he]; simp)
            have hsz : szs ks = szs pre + (sz t + szs post) := by rw [he, szs_append, szs]
            have b1 := Lvs_sz pre
            have b2 := Lv_sz t
            have b3 := szs_pos post
            obtain ⟨v', z', hz', happ⟩ := app47 (rd := rdF [2] [AObj.var (enc (.mk k n ks)), .arr 0 0 [], .arr v z (ints (Lvs pre))]) (k := 3) (o := 2) (v := v) (z := z) (xs := Lvs pre) (ys := Lv t) (x := .list false (ints (Lv t))) rfl rfl hz (by omega)
            have hL2 : Lvs (pre ++ [t]) = Lvs pre ++ Lv t := by rw [Lvs_append]; simp [Lvs]
            refine ⟨_, _, ?_, v', z', by rw [hL2]; exact hz', rfl, rfl⟩
            rw [hL2, ← wpre he hks]
            obtain ⟨k0, n0, ls⟩ := t
            exact tbody_sound (f21_l1_2 (pcall E14 m) m k n (encs ks) v (Lvs pre).length pre.length v z (ints (Lvs pre)) k0 n0 (encs ls) (ints (Lv (.mk k0 n0 ls))) v' _ z' _) ⟨⟨⟨⟨trivial, ltp he⟩, ixR he⟩, hcall⟩, happ⟩)
          (env := [(1, .refv 0 0), (3, .own 2 0 0 0), (4, .int .i64 0)]) (σ := [.var (enc (.mk k n ks)), .arr 0 0 [], .arr 0 0 []])
          ⟨0, 0, .inr ⟨rfl, rfl⟩, rfl, rfl⟩ hm.2
        have hfin : fin false 0 (.own 2 v 0 (Lvs ks).length) [.var (enc (.mk k n ks)), .arr 0 0 [], .arr v z (ints (Lvs ks))] = some (.list false (ints (Lvs ks)), []) := fin_own rfl (ints_length _).symm
        by_cases hk1 : k = 1
        · exact tfun_sound (f21_4 (pcall E14 m) m k n (encs ks) v _ x b v z (ints (Lvs ks))) ⟨⟨⟨⟨trivial, h0⟩, by simpa using hk1⟩, hl⟩, hfin⟩
        · have hk2 : k = 2 := by omega
          exact tfun_sound (f21_3 (pcall E14 m) m k n (encs ks) v _ x b v z (ints (Lvs ks))) ⟨⟨⟨⟨⟨trivial, h0⟩, by simpa using hk1⟩, by simpa using hk2⟩, hl⟩, hfin⟩
      · have hL : Lv (.mk k n ks) = [] := by rw [Lv, if_neg hk0, if_neg hk]
        rw [hL]
        exact tfun_sound (f21_2 (pcall E14 m) m k n (encs ks)) ⟨⟨⟨trivial, h0⟩, by simp; omega⟩, by simp; omega⟩
end Go.L14

namespace Go.L14
open Go Go.Bb

/-- What the call answers, the list being told up to where it lies. -/
def R29 (m : Nat) (t : T) (many : Int) (seen : List Int) (arg : PV) (σ : List AObj) : Prop :=
  ∃ v z, zOk z 1 (ints (C t many seen).2) ∧ pcall E14 m 29 [enc t, .int .i64 many, arg] σ = some (.tup [.int .i64 (C t many seen).1, .own 0 v 0 (C t many seen).2.length], [.arr v z (ints (C t many seen).2)])

mutual
theorem C_len (many : Int) : ∀ (t : T) (seen : List Int), ((C t many seen).2.length : Int) ≤ seen.length + sz t
  | .mk k n ks, seen => by
    have h0 := szs_pos ks
    have h1 := Cs_len many ks seen
    unfold C sz
    split
    · simp; omega
    · split
      · split
        · simp; omega
        · split
          · simp; omega
          · split
            · simp; omega
            · simp; omega
      · split
        · simp; omega
        · split
          · simp; omega
          · split
            · simp; omega
            · omega
theorem Cs_len (many : Int) : ∀ (ks : List T) (seen : List Int), ((Cs ks many seen).2.length : Int) ≤ seen.length + szs ks
  | [], seen => by simp [Cs, szs]
  | t :: r, seen => by
    have h1 := C_len many t seen
    have h2 := Cs_len many r (C t many seen).2
    have h3 := szs_pos r
    unfold Cs szs
    split <;> omega
end

theorem aLen_own {rd : Rd} {o v z n : Nat} {xs : List PV} (ho : rd o = some (.arr v z xs)) (hn : n = xs.length) : justO (aLen (Envt.P E14) rd 47 (.own o v 0 n)) = some ⟨.int .i64 (n : Int), []⟩ := by
  subst hn
  have hu : (Envt.P E14).underlying 47 = some (.slice 3) := by kernel_rfl
  have c2 : Nat.ble xs.length xs.length = true := Nat.ble_eq_true_of_le (by omega)
  simp [aLen, hu, rdSl, ho, c2, justO]

/-- The search for a leaf in what was seen. -/
theorem search29 {m : Nat} (k n : Int) (ks : List T) (seen : List Int) (v z : Nat) (hz : zOk z 1 (ints seen)) (hs : seen.length ≤ 1000000) (hm : seen.length < m) :
    (n ∈ seen ∧ LoopM E14 (pcall E14 m) m m 1 29 [1, 1, 0, 1, 0, 1, 1, 0, 1, 0] [(2, .own 0 v 0 seen.length), (3, .refv 1 0), (8, .int .i64 0)] [.arr v z (ints seen), .var (enc (.mk k n ks)), .arr 0 0 []]
      (.ret, [(6, .int .i64 9), (7, .own 0 v 0 seen.length)], [.arr v z (ints seen), .var (enc (.mk k n ks)), .arr 0 0 []])) ∨
    (n ∉ seen ∧ ∃ x b, LoopM E14 (pcall E14 m) m m 1 29 [1, 1, 0, 1, 0, 1, 1, 0, 1, 0] [(2, .own 0 v 0 seen.length), (3, .refv 1 0), (8, .int .i64 0)] [.arr v z (ints seen), .var (enc (.mk k n ks)), .arr 0 0 []]
      (.exit 0, [(2, .own 0 v 0 seen.length), (3, .refv 1 0), (8, .int .i64 x), (43, .bool b)], [.arr v z (ints seen), .var (enc (.mk k n ks)), .arr 0 0 []])) := by
  have hl : justO (aLen (Envt.P E14) (rdF [0] [.arr v z (ints seen), .var (enc (.mk k n ks)), .arr 0 0 []]) 47 (.own 0 v 0 seen.length)) = some ⟨.int .i64 (seen.length : Int), []⟩ := aLen_own rfl (ints_length _).symm
  obtain ⟨out, h1, h2⟩ := LoopM.list (E := E14) (call := pcall E14 m) (n := m) (k0 := 1) (f := 29) (p := [1, 1, 0, 1, 0, 1, 1, 0, 1, 0]) seen
    (fun pre env σ => n ∉ pre ∧ env = [(2, .own 0 v 0 seen.length), (3, .refv 1 0), (8, .int .i64 pre.length)] ∧ σ = [.arr v z (ints seen), .var (enc (.mk k n ks)), .arr 0 0 []])
    (fun out => (n ∈ seen ∧ out = (.ret, [(6, .int .i64 9), (7, .own 0 v 0 seen.length)], [.arr v z (ints seen), .var (enc (.mk k n ks)), .arr 0 0 []])) ∨
      (n ∉ seen ∧ ∃ x b, out = (.exit 0, [(2, .own 0 v 0 seen.length), (3, .refv 1 0), (8, .int .i64 x), (43, .bool b)], [.arr v z (ints seen), .var (enc (.mk k n ks)), .arr 0 0 []])))
    (fun env σ ⟨hn, he, hσ⟩ => by
      subst he; subst hσ
      exact ⟨_, tbody_sound (f29_ol4_1 (pcall E14 m) m k n (encs ks) v z seen.length (ints seen) seen.length seen.length) ⟨⟨trivial, hl⟩, by simp⟩, by simp, .inr ⟨hn, _, _, rfl⟩⟩)
    (fun pre x post env σ he ⟨hn, he2, hσ⟩ => by
      subst he2; subst hσ
      have hlt : decide ((pre.length : Int) < (seen.length : Int)) = true := by rw [he]; simp; omega
      have hget : (ints seen)[pre.length]? = some (.int .i64 x) := by rw [he]; simp [ints]
      have hz1 : z = 1 := hz.of (List.mem_of_getElem? hget)
      subst hz1
      have hix : justO (aIndexAddr (Envt.P E14) (rdF [0] [.arr v 1 (ints seen), .var (enc (.mk k n ks)), .arr 0 0 []]) 47 (.own 0 v 0 seen.length) (.int .i64 (pre.length : Int))) = some ⟨.refa 0 v (Int.toNat (pre.length : Int)) 0, []⟩ :=
        idx_own (P := Go.Proofs.Tryd.prog) (e := 3) (xs := ints seen) (by kernel_rfl) (by kernel_rfl) (by rw [s3]; rfl) (by rw [ints_length]; omega) (by omega) (by rw [he]; simp; omega)
      have hld : justO (aLoad (Envt.P E14) (rdF [0] [.arr v 1 (ints seen), .var (enc (.mk k n ks)), .arr 0 0 []]) 3 (.refa 0 v (Int.toNat (pre.length : Int)) 0)) = some ⟨.int .i64 x, []⟩ :=
        load_own (P := Go.Proofs.Tryd.prog) (xs := ints seen) rfl (by simpa using hget) (by kernel_rfl)
      by_cases hx : x = n
      · right
        exact ⟨_, tbody_sound (f29_ol4_2 (pcall E14 m) m k n (encs ks) v 1 seen.length (ints seen) pre.length seen.length x) ⟨⟨⟨⟨⟨trivial, hl⟩, hlt⟩, hix⟩, hld⟩, by simpa using hx⟩, by simp, .inl ⟨by rw [he, ← hx]; simp, rfl⟩⟩
      · left
        refine ⟨_, _, tbody_sound (f29_ol4_3 (pcall E14 m) m k n (encs ks) v 1 seen.length (ints seen) pre.length seen.length x) ⟨⟨⟨⟨⟨trivial, hl⟩, hlt⟩, hix⟩, hld⟩, by simpa using hx⟩, ?_, ?_, rfl⟩
        · simp [hn, Ne.symm hx]
        · rw [wnext pre x (by rw [he] at hs; simp at hs; omega)])
    (env := [(2, .own 0 v 0 seen.length), (3, .refv 1 0), (8, .int .i64 0)]) (σ := [.arr v z (ints seen), .var (enc (.mk k n ks)), .arr 0 0 []]) ⟨by simp, rfl, rfl⟩ hm
  rcases h2 with ⟨a, rfl⟩ | ⟨a, x, b, rfl⟩
  · exact .inl ⟨a, h1⟩
  · exact .inr ⟨a, x, b, h1⟩

theorem kinds29o {m : Nat} (k n many : Int) (ks : List T) (seen : List Int) (v z : Nat) (hks : ks.length ≤ maxLen) (hm : ks.length < m) :
    (ks.any (fun t => t.kind == k) = true ∧ LoopM E14 (pcall E14 m) m m 1 29 [1, 1, 1, 1, 1, 0, 1, 0] [(1, .int .i64 many), (2, .own 0 v 0 seen.length), (3, .refv 1 0), (9, .int .i64 0)] [.arr v z (ints seen), .var (enc (.mk k n ks)), .arr 0 0 []] (.ret, [(6, .int .i64 14), (7, .own 0 v 0 seen.length)], [.arr v z (ints seen), .var (enc (.mk k n ks)), .arr 0 0 []])) ∨
    (ks.any (fun t => t.kind == k) = false ∧ ∃ x b, LoopM E14 (pcall E14 m) m m 1 29 [1, 1, 1, 1, 1, 0, 1, 0] [(1, .int .i64 many), (2, .own 0 v 0 seen.length), (3, .refv 1 0), (9, .int .i64 0)] [.arr v z (ints seen), .var (enc (.mk k n ks)), .arr 0 0 []] (.exit 2, [(1, .int .i64 many), (2, .own 0 v 0 seen.length), (3, .refv 1 0), (9, .int .i64 x), (72, .bool b)], [.arr v z (ints seen), .var (enc (.mk k n ks)), .arr 0 0 []])) := by
  obtain ⟨out, h1, h2⟩ := LoopM.list (E := E14) (call := pcall E14 m) (n := m) (k0 := 1) (f := 29) (p := [1, 1, 1, 1, 1, 0, 1, 0]) ks
    (fun pre env σ => pre.any (fun t => t.kind == k) = false ∧ env = [(1, .int .i64 many), (2, .own 0 v 0 seen.length), (3, .refv 1 0), (9, .int .i64 pre.length)] ∧ σ = [.arr v z (ints seen), .var (enc (.mk k n ks)), .arr 0 0 []])
    (fun out => (ks.any (fun t => t.kind == k) = true ∧ out = (.ret, [(6, .int .i64 14), (7, .own 0 v 0 seen.length)], [.arr v z (ints seen), .var (enc (.mk k n ks)), .arr 0 0 []])) ∨
      (ks.any (fun t => t.kind == k) = false ∧ ∃ x b, out = (.exit 2, [(1, .int .i64 many), (2, .own 0 v 0 seen.length), (3, .refv 1 0), (9, .int .i64 x), (72, .bool b)], [.arr v z (ints seen), .var (enc (.mk k n ks)), .arr 0 0 []])))
    (fun env σ ⟨hn, he, hσ⟩ => by
      subst he; subst hσ
      exact ⟨_, tbody_sound (f29_ol2_1 (pcall E14 m) m k n (encs ks) many v z seen.length (ints seen) ks.length) ⟨trivial, nlt ks⟩, by simp, .inr ⟨hn, _, _, rfl⟩⟩)
    (fun pre t post env σ he ⟨hn, he2, hσ⟩ => by
      subst he2; subst hσ
      have hw := wpre he hks
      obtain ⟨k0, n0, ls⟩ := t
      by_cases hk : k0 = k
      · right
        exact ⟨_, tbody_sound (f29_ol2_2 (pcall E14 m) m k n (encs ks) many v z seen.length (ints seen) pre.length k0 n0 (encs ls)) ⟨⟨⟨trivial, ltp he⟩, ixR he⟩, by simpa using hk⟩, by simp, .inl ⟨by rw [he]; simp [T.kind, hk], rfl⟩⟩
      · left
        refine ⟨_, _, tbody_sound (f29_ol2_3 (pcall E14 m) m k n (encs ks) many v z seen.length (ints seen) pre.length k0 n0 (encs ls)) ⟨⟨⟨trivial, ltp he⟩, ixR he⟩, by simpa using hk⟩, ?_, ?_, rfl⟩
        · rw [List.any_append, hn]; simp [T.kind, hk]
        · rw [hw])
    (env := [(1, .int .i64 many), (2, .own 0 v 0 seen.length), (3, .refv 1 0), (9, .int .i64 0)]) (σ := [.arr v z (ints seen), .var (enc (.mk k n ks)), .arr 0 0 []]) ⟨by simp, rfl, rfl⟩ hm
  rcases h2 with ⟨a, rfl⟩ | ⟨a, x, b, rfl⟩
  · exact .inl ⟨a, h1⟩
  · exact .inr ⟨a, x, b, h1⟩

theorem kinds29n {m : Nat} (k n many : Int) (ks : List T) (hks : ks.length ≤ maxLen) (hm : ks.length < m) :
    (ks.any (fun t => t.kind == k) = true ∧ LoopM E14 (pcall E14 m) m m 0 29 [1, 1, 1, 1, 1, 0, 1, 0] [(1, .int .i64 many), (2, .nils), (3, .refv 0 0), (9, .int .i64 0)] [.var (enc (.mk k n ks)), .arr 0 0 []] (.ret, [(6, .int .i64 14), (7, .own 2 0 0 0)], [.var (enc (.mk k n ks)), .arr 0 0 [], .arr 0 0 []])) ∨
    (ks.any (fun t => t.kind == k) = false ∧ ∃ x b, LoopM E14 (pcall E14 m) m m 0 29 [1, 1, 1, 1, 1, 0, 1, 0] [(1, .int .i64 many), (2, .nils), (3, .refv 0 0), (9, .int .i64 0)] [.var (enc (.mk k n ks)), .arr 0 0 []] (.exit 2, [(1, .int .i64 many), (2, .nils), (3, .refv 0 0), (9, .int .i64 x), (72, .bool b)], [.var (enc (.mk k n ks)), .arr 0 0 []])) := by
  obtain ⟨out, h1, h2⟩ := LoopM.list (E := E14) (call := pcall E14 m) (n := m) (k0 := 0) (f := 29) (p := [1, 1, 1, 1, 1, 0, 1, 0]) ks
    (fun pre env σ => pre.any (fun t => t.kind == k) = false ∧ env = [(1, .int .i64 many), (2, .nils), (3, .refv 0 0), (9, .int .i64 pre.length)] ∧ σ = [.var (enc (.mk k n ks)), .arr 0 0 []])
    (fun out => (ks.any (fun t => t.kind == k) = true ∧ out = (.ret, [(6, .int .i64 14), (7, .own 2 0 0 0)], [.var (enc (.mk k n ks)), .arr 0 0 [], .arr 0 0 []])) ∨
      (ks.any (fun t => t.kind == k) = false ∧ ∃ x b, out = (.exit 2, [(1, .int .i64 many), (2, .nils), (3, .refv 0 0), (9, .int .i64 x), (72, .bool b)], [.var (enc (.mk k n ks)), .arr 0 0 []])))
    (fun env σ ⟨hn, he, hσ⟩ => by
      subst he; subst hσ
      exact ⟨_, tbody_sound (f29_nl1_1 (pcall E14 m) m k n (encs ks) many  ks.length) ⟨trivial, nlt ks⟩, by simp, .inr ⟨hn, _, _, rfl⟩⟩)
    (fun pre t post env σ he ⟨hn, he2, hσ⟩ => by
      subst he2; subst hσ
      have hw := wpre he hks
      obtain ⟨k0, n0, ls⟩ := t
      by_cases hk : k0 = k
      · right
        exact ⟨_, tbody_sound (f29_nl1_2 (pcall E14 m) m k n (encs ks) many  pre.length k0 n0 (encs ls)) ⟨⟨⟨trivial, ltp he⟩, ixR he⟩, by simpa using hk⟩, by simp, .inl ⟨by rw [he]; simp [T.kind, hk], rfl⟩⟩
      · left
        refine ⟨_, _, tbody_sound (f29_nl1_3 (pcall E14 m) m k n (encs ks) many  pre.length k0 n0 (encs ls)) ⟨⟨⟨trivial, ltp he⟩, ixR he⟩, by simpa using hk⟩, ?_, ?_, rfl⟩
        · rw [List.any_append, hn]; simp [T.kind, hk]
        · rw [hw])
    (env := [(1, .int .i64 many), (2, .nils), (3, .refv 0 0), (9, .int .i64 0)]) (σ := [.var (enc (.mk k n ks)), .arr 0 0 []]) ⟨by simp, rfl, rfl⟩ hm
  rcases h2 with ⟨a, rfl⟩ | ⟨a, x, b, rfl⟩
  · exact .inl ⟨a, h1⟩
  · exact .inr ⟨a, x, b, h1⟩

def R29o (m : Nat) (t : T) : Prop := ∀ many seen v z, zOk z 1 (ints seen) → seen.length + sz t ≤ 1000000 → R29 m t many seen (.own 0 v 0 seen.length) [.arr v z (ints seen)]
def R29n (m : Nat) (t : T) : Prop := ∀ many, sz t ≤ 1000000 → R29 m t many [] .nils []

theorem Cs_cons0 {many : Int} {t : T} {r : List T} {s : List Int} (h : (C t many s).1 = 0) : Cs (t :: r) many s = Cs r many (C t many s).2 := by rw [Cs, if_neg (by simpa using h)]
theorem Cs_cons1 {many : Int} {t : T} {r : List T} {s : List Int} (h : (C t many s).1 ≠ 0) : Cs (t :: r) many s = C t many s := by rw [Cs, if_pos h]
theorem Cs_app0 (many : Int) : ∀ (a b : List T) (s : List Int), (Cs a many s).1 = 0 → Cs (a ++ b) many s = Cs b many (Cs a many s).2
  | [], b, s, _ => by simp [Cs]
  | t :: r, b, s, h => by
    by_cases h1 : (C t many s).1 = 0
    · rw [Cs_cons0 h1] at h ⊢
      rw [List.cons_append, Cs_cons0 h1]
      exact Cs_app0 many r b _ h
    · rw [Cs_cons1 h1] at h
      exact absurd h h1
theorem Cs_one (many : Int) (t : T) (s : List Int) : Cs [t] many s = C t many s := by
  by_cases h1 : (C t many s).1 = 0
  · rw [Cs_cons0 h1, Cs]
    exact Prod.ext h1.symm rfl
  · rw [Cs_cons1 h1]

theorem kids29o {m : Nat} (k n many : Int) (ks : List T) (seen : List Int) (v z : Nat) (hz : zOk z 1 (ints seen)) (hs : seen.length + szs ks ≤ 1000000) (hks : ks.length ≤ maxLen) (hm : ks.length < m) (hc : ∀ t ∈ ks, R29o m t) :
    ∃ v' z', zOk z' 1 (ints (Cs ks many seen).2) ∧
    (((Cs ks many seen).1 ≠ 0 ∧ LoopM E14 (pcall E14 m) m m 1 29 [1, 1, 1, 1, 1, 1, 0, 1, 0] [(1, .int .i64 many), (2, .own 0 v 0 seen.length), (3, .refv 1 0), (10, .int .i64 0)] [.arr v z (ints seen), .var (enc (.mk k n ks)), .arr 0 0 []]
      (.ret, [(6, .int .i64 (Cs ks many seen).1), (7, .own 0 v' 0 (Cs ks many seen).2.length)], [.arr v' z' (ints (Cs ks many seen).2), .var (enc (.mk k n ks)), .arr 0 0 []])) ∨
    ((Cs ks many seen).1 = 0 ∧ ∃ x b, LoopM E14 (pcall E14 m) m m 1 29 [1, 1, 1, 1, 1, 1, 0, 1, 0] [(1, .int .i64 many), (2, .own 0 v 0 seen.length), (3, .refv 1 0), (10, .int .i64 0)] [.arr v z (ints seen), .var (enc (.mk k n ks)), .arr 0 0 []]
      (.exit 4, [(1, .int .i64 many), (2, .own 0 v' 0 (Cs ks many seen).2.length), (3, .refv 1 0), (10, .int .i64 x), (89, .bool b)], [.arr v' z' (ints (Cs ks many seen).2), .var (enc (.mk k n ks)), .arr 0 0 []]))) := by
  obtain ⟨out, h1, h2⟩ := LoopM.list (E := E14) (call := pcall E14 m) (n := m) (k0 := 1) (f := 29) (p := [1, 1, 1, 1, 1, 1, 0, 1, 0]) ks
    (fun pre env σ => (Cs pre many seen).1 = 0 ∧ ∃ v z, zOk z 1 (ints (Cs pre many seen).2) ∧ env = [(1, .int .i64 many), (2, .own 0 v 0 (Cs pre many seen).2.length), (3, .refv 1 0), (10, .int .i64 pre.length)] ∧ σ = [.arr v z (ints (Cs pre many seen).2), .var (enc (.mk k n ks)), .arr 0 0 []])
    (fun out => ∃ v' z', zOk z' 1 (ints (Cs ks many seen).2) ∧
      (((Cs ks many seen).1 ≠ 0 ∧ out = (.ret, [(6, .int .i64 (Cs ks many seen).1), (7, .own 0 v' 0 (Cs ks many seen).2.length)], [.arr v' z' (ints (Cs ks many seen).2), .var (enc (.mk k n ks)), .arr 0 0 []])) ∨
      ((Cs ks many seen).1 = 0 ∧ ∃ x b, out = (.exit 4, [(1, .int .i64 many), (2, .own 0 v' 0 (Cs ks many seen).2.length), (3, .refv 1 0), (10, .int .i64 x), (89, .bool b)], [.arr v' z' (ints (Cs ks many seen).2), .var (enc (.mk k n ks)), .arr 0 0 []]))))
    (fun env σ ⟨h0, v, z, hz, he, hσ⟩ => by
      subst he; subst hσ
      exact ⟨_, tbody_sound (f29_ol6_1 (pcall E14 m) m k n (encs ks) many v (Cs ks many seen).2.length ks.length v z (ints (Cs ks many seen).2)) ⟨trivial, nlt ks⟩, by simp, v, z, hz, .inr ⟨h0, _, _, rfl⟩⟩)
    (fun pre t post env σ he ⟨h0, v, z, hz, he2, hσ⟩ => by
      subst he2; subst hσ
      have hw := wpre he hks
      have hb := Cs_len many pre seen
      have hsz : szs ks = szs pre + (sz t + szs post) := by rw [he, szs_append, szs]
      have hp := szs_pos post
      have hC1 : Cs (pre ++ [t]) many seen = C t many (Cs pre many seen).2 := by
        rw [Cs_app0 _ _ _ _ h0, Cs_one]
      obtain ⟨v', z', hz', hcall⟩ := hc t (by rw [he]; simp) many (Cs pre many seen).2 v z hz (by omega)
      obtain ⟨k0, n0, ls⟩ := t
      by_cases hne : (C (.mk k0 n0 ls) many (Cs pre many seen).2).1 = 0
      · left
        refine ⟨_, _, tbody_sound (f29_ol6_3 (pcall E14 m) m k n (encs ks) many v (Cs pre many seen).2.length pre.length v z (ints (Cs pre many seen).2) k0 n0 (encs ls) _ v' z' _ _) ⟨⟨⟨⟨trivial, ltp he⟩, ixR he⟩, hcall⟩, by simpa using hne⟩, by rw [hC1]; exact hne, v', z', by rw [hC1]; exact hz', ?_, by rw [hC1]; rfl⟩
        rw [hC1, hw]
      · right
        have hCk : Cs ks many seen = C (.mk k0 n0 ls) many (Cs pre many seen).2 := by
          rw [he, Cs_app0 _ _ _ _ h0, Cs_cons1 hne]
        refine ⟨_, tbody_sound (f29_ol6_2 (pcall E14 m) m k n (encs ks) many v (Cs pre many seen).2.length pre.length v z (ints (Cs pre many seen).2) k0 n0 (encs ls) _ v' z' _ _) ⟨⟨⟨⟨trivial, ltp he⟩, ixR he⟩, hcall⟩, by simpa using hne⟩, by simp, v', z', by rw [hCk]; exact hz', .inl ⟨by rw [hCk]; exact hne, by rw [hCk]; rfl⟩⟩)
    (env := [(1, .int .i64 many), (2, .own 0 v 0 seen.length), (3, .refv 1 0), (10, .int .i64 0)]) (σ := [.arr v z (ints seen), .var (enc (.mk k n ks)), .arr 0 0 []]) ⟨rfl, v, z, hz, rfl, rfl⟩ hm
  obtain ⟨v', z', hz', h2⟩ := h2
  refine ⟨v', z', hz', ?_⟩
  rcases h2 with ⟨a, rfl⟩ | ⟨a, x, b, rfl⟩
  · exact .inl ⟨a, h1⟩
  · exact .inr ⟨a, x, b, h1⟩

theorem kids29n {m : Nat} (k n many : Int) (ks : List T) (hne : ks ≠ []) (hs : szs ks ≤ 1000000) (hks : ks.length ≤ maxLen) (hm : ks.length < m) (hc : ∀ t ∈ ks, R29o m t) (hcn : ∀ t ∈ ks, R29n m t) :
    ∃ v' z', zOk z' 1 (ints (Cs ks many []).2) ∧
    (((Cs ks many []).1 ≠ 0 ∧ LoopM E14 (pcall E14 m) m m 0 29 [1, 1, 1, 1, 1, 1, 0, 1, 0] [(1, .int .i64 many), (2, .nils), (3, .refv 0 0), (10, .int .i64 0)] [.var (enc (.mk k n ks)), .arr 0 0 []]
      (.ret, [(6, .int .i64 (Cs ks many []).1), (7, .own 2 v' 0 (Cs ks many []).2.length)], [.var (enc (.mk k n ks)), .arr 0 0 [], .arr v' z' (ints (Cs ks many []).2)])) ∨
    ((Cs ks many []).1 = 0 ∧ ∃ x b, LoopM E14 (pcall E14 m) m m 0 29 [1, 1, 1, 1, 1, 1, 0, 1, 0] [(1, .int .i64 many), (2, .nils), (3, .refv 0 0), (10, .int .i64 0)] [.var (enc (.mk k n ks)), .arr 0 0 []]
      (.exit 4, [(1, .int .i64 many), (2, .own 2 v' 0 (Cs ks many []).2.length), (3, .refv 0 0), (10, .int .i64 x), (89, .bool b)], [.var (enc (.mk k n ks)), .arr 0 0 [], .arr v' z' (ints (Cs ks many []).2)]))) := by
  obtain ⟨out, h1, h2⟩ := LoopM.list (E := E14) (call := pcall E14 m) (n := m) (k0 := 0) (f := 29) (p := [1, 1, 1, 1, 1, 1, 0, 1, 0]) ks
    (fun pre env σ => (pre = [] ∧ env = [(1, .int .i64 many), (2, .nils), (3, .refv 0 0), (10, .int .i64 0)] ∧ σ = [.var (enc (.mk k n ks)), .arr 0 0 []]) ∨
      (pre ≠ [] ∧ (Cs pre many []).1 = 0 ∧ ∃ v z, zOk z 1 (ints (Cs pre many []).2) ∧ env = [(1, .int .i64 many), (2, .own 2 v 0 (Cs pre many []).2.length), (3, .refv 0 0), (10, .int .i64 pre.length)] ∧ σ = [.var (enc (.mk k n ks)), .arr 0 0 [], .arr v z (ints (Cs pre many []).2)]))
    (fun out => ∃ v' z', zOk z' 1 (ints (Cs ks many []).2) ∧
      (((Cs ks many []).1 ≠ 0 ∧ out = (.ret, [(6, .int .i64 (Cs ks many []).1), (7, .own 2 v' 0 (Cs ks many []).2.length)], [.var (enc (.mk k n ks)), .arr 0 0 [], .arr v' z' (ints (Cs ks many []).2)])) ∨
      ((Cs ks many []).1 = 0 ∧ ∃ x b, out = (.exit 4, [(1, .int .i64 many), (2, .own 2 v' 0 (Cs ks many []).2.length), (3, .refv 0 0), (10, .int .i64 x), (89, .bool b)], [.var (enc (.mk k n ks)), .arr 0 0 [], .arr v' z' (ints (Cs ks many []).2)]))))
    (fun env σ hi => by
      rcases hi with ⟨h0, _⟩ | ⟨_, h0, v, z, hz, he, hσ⟩
      · exact absurd h0 hne
      · subst he; subst hσ
        exact ⟨_, tbody_sound (f29_nl5a_1 (pcall E14 m) m k n (encs ks) many v (Cs ks many []).2.length ks.length v z (ints (Cs ks many []).2)) ⟨trivial, nlt ks⟩, by simp, v, z, hz, .inr ⟨h0, _, _, rfl⟩⟩)
    (fun pre t post env σ he hi => by
      have hw := wpre he hks
      have hb := Cs_len many pre []
      have hsz : szs ks = szs pre + (sz t + szs post) := by rw [he, szs_append, szs]
      have hp := szs_pos post
      have hp2 := szs_pos pre
      have key : (Cs pre many []).1 = 0 → Cs (pre ++ [t]) many [] = C t many (Cs pre many []).2 ∧ ((C t many (Cs pre many []).2).1 ≠ 0 → Cs ks many [] = C t many (Cs pre many []).2) := by
        intro h0
        refine ⟨?_, fun hne => by rw [he, Cs_app0 _ _ _ _ h0, Cs_cons1 hne]⟩
        rw [Cs_app0 _ _ _ _ h0, Cs_one]
      rcases hi with ⟨rfl, he2, hσ⟩ | ⟨hpn, h0, v, z, hz, he2, hσ⟩
      · subst he2; subst hσ
        obtain ⟨key1, key2⟩ := key rfl
        obtain ⟨v', z', hz', hcall⟩ := hcn t (by rw [he]; simp) many (by omega)
        have h00 : ((([] : List T).length : Nat) : Int) = 0 := rfl
        have hl0 := ltp he
        have hx0 := ixR (rd := rdF [] [.var (enc (.mk k n ks)), .arr 0 0 []]) he
        rw [h00] at hl0 hx0
        obtain ⟨k0, n0, ls⟩ := t
        simp only [Cs] at key1 key2
        by_cases hne : (C (.mk k0 n0 ls) many []).1 = 0
        · left
          refine ⟨_, _, tbody_sound (f29_nl5_3 (pcall E14 m) m k n (encs ks) many 0 k0 n0 (encs ls) _ v' z' _ _) ⟨⟨⟨⟨trivial, hl0⟩, hx0⟩, hcall⟩, by simpa using hne⟩, .inr ⟨by simp, by rw [key1]; exact hne, v', z', by rw [key1]; exact hz', ?_, by rw [key1]; rfl⟩⟩
          rw [key1]; rfl
        · right
          have key2 := key2 hne
          refine ⟨_, tbody_sound (f29_nl5_2 (pcall E14 m) m k n (encs ks) many 0 k0 n0 (encs ls) _ v' z' _ _) ⟨⟨⟨⟨trivial, hl0⟩, hx0⟩, hcall⟩, by simpa using hne⟩, by simp, v', z', by rw [key2]; exact hz', .inl ⟨by rw [key2]; exact hne, by rw [key2]; rfl⟩⟩
      · subst he2; subst hσ
        obtain ⟨key1, key2⟩ := key h0
        obtain ⟨v', z', hz', hcall⟩ := hc t (by rw [he]; simp) many (Cs pre many []).2 v z hz (by simp at hb; omega)
        obtain ⟨k0, n0, ls⟩ := t
        by_cases hne : (C (.mk k0 n0 ls) many (Cs pre many []).2).1 = 0
        · left
          refine ⟨_, _, tbody_sound (f29_nl5a_3 (pcall E14 m) m k n (encs ks) many v (Cs pre many []).2.length pre.length v z (ints (Cs pre many []).2) k0 n0 (encs ls) _ v' z' _ _) ⟨⟨⟨⟨trivial, ltp he⟩, ixR he⟩, hcall⟩, by simpa using hne⟩, .inr ⟨by simp, by rw [key1]; exact hne, v', z', by rw [key1]; exact hz', ?_, by rw [key1]; rfl⟩⟩
          rw [key1, hw]
        · right
          have key2 := key2 hne
          refine ⟨_, tbody_sound (f29_nl5a_2 (pcall E14 m) m k n (encs ks) many v (Cs pre many []).2.length pre.length v z (ints (Cs pre many []).2) k0 n0 (encs ls) _ v' z' _ _) ⟨⟨⟨⟨trivial, ltp he⟩, ixR he⟩, hcall⟩, by simpa using hne⟩, by simp, v', z', by rw [key2]; exact hz', .inl ⟨by rw [key2]; exact hne, by rw [key2]; rfl⟩⟩)
    (env := [(1, .int .i64 many), (2, .nils), (3, .refv 0 0), (10, .int .i64 0)]) (σ := [.var (enc (.mk k n ks)), .arr 0 0 []]) (.inl ⟨rfl, rfl, rfl⟩) hm
  obtain ⟨v', z', hz', h2⟩ := h2
  refine ⟨v', z', hz', ?_⟩
  rcases h2 with ⟨a, rfl⟩ | ⟨a, x, b, rfl⟩
  · exact .inl ⟨a, h1⟩
  · exact .inr ⟨a, x, b, h1⟩
end Go.L14

namespace Go.L14
open Go Go.Bb

theorem chk29 : ∀ (t : T), t.ok → Ev fun m => R29o m t ∧ R29n m t
  | .mk k n ks, hok => by
    unfold T.ok at hok
    have hks := hok.2.2.1
    have kids : Ev fun m => ∀ t ∈ ks, R29o m t ∧ R29n m t := Ev.all ks fun t ht => chk29 t (hok.2.2.2 t ht)
    have big : Ev fun m => ks.length < m ∧ 1000000 < m := ⟨ks.length + 1000001, fun m hm => by omega⟩
    refine Ev.succ ((kids.and big).mono fun m hm => ?_)
    obtain ⟨m1, m2, m3⟩ := hm
    have hsz : sz (.mk k n ks) = 1 + szs ks := by rw [sz]
    have hel : ((List.length (encs ks) : Nat) : Int) = ks.length := by rw [encs_length]
    constructor
    · intro many seen v z hz hs
      rw [hsz] at hs
      have hsp := szs_pos ks
      by_cases h8 : k < 0 ∨ k > 2
      · have hC : C (.mk k n ks) many seen = (8, seen) := by rw [C, if_pos h8]
        unfold R29; rw [hC]
        refine ⟨v, z, hz, ?_⟩
        by_cases h0 : k < 0
        · exact tfun_sound (f29_o_2 (pcall E14 m) m k n (encs ks) many v z seen.length (ints seen)) ⟨trivial, by simpa using h0⟩
        · exact tfun_sound (f29_o_1 (pcall E14 m) m k n (encs ks) many v z seen.length (ints seen)) ⟨⟨trivial, by simpa using h0⟩, by simp; omega⟩
      · have q1 : (decide (k < 0) == false) = true := by simp; omega
        have q2 : decide (k > 2) = false := by simp; omega
        by_cases hk0 : k = 0
        · have q3 : (k == 0) = true := by simpa using hk0
          by_cases hkk : ks.length > 0
          · have hC : C (.mk k n ks) many seen = (2, seen) := by rw [C, if_neg h8, if_pos hk0, if_pos hkk]
            unfold R29; rw [hC]
            exact ⟨v, z, hz, tfun_sound (f29_o_4 (pcall E14 m) m k n (encs ks) many v z seen.length (ints seen)) ⟨⟨⟨⟨trivial, q1⟩, q2⟩, q3⟩, by rw [hel]; simp; omega⟩⟩
          · have q4 : decide ((List.length (encs ks) : Int) > 0) = false := by rw [hel]; exact decide_eq_false (by omega)
            by_cases h3 : n < 0 ∨ n ≥ many
            · have hC : C (.mk k n ks) many seen = (3, seen) := by rw [C, if_neg h8, if_pos hk0, if_neg hkk, if_pos h3]
              unfold R29; rw [hC]
              refine ⟨v, z, hz, ?_⟩
              by_cases h3a : n < 0
              · exact tfun_sound (f29_o_7 (pcall E14 m) m k n (encs ks) many v z seen.length (ints seen)) ⟨⟨⟨⟨⟨trivial, q1⟩, q2⟩, q3⟩, q4⟩, by simpa using h3a⟩
              · exact tfun_sound (f29_o_6 (pcall E14 m) m k n (encs ks) many v z seen.length (ints seen)) ⟨⟨⟨⟨⟨⟨trivial, q1⟩, q2⟩, q3⟩, q4⟩, by simpa using h3a⟩, by simp; omega⟩
            · have q5 : (decide (n < 0) == false) = true := by simp; omega
              have q6 : decide (n ≥ many) = false := by simp; omega
              rcases search29 (m := m) k n ks seen v z hz (by omega) (by omega) with ⟨h9, hl⟩ | ⟨h9, x, b, hl⟩
              · have hC : C (.mk k n ks) many seen = (9, seen) := by rw [C, if_neg h8, if_pos hk0, if_neg hkk, if_neg h3, if_pos h9]
                unfold R29; rw [hC]
                exact ⟨v, z, hz, tfun_sound (f29_o_9 (pcall E14 m) m k n (encs ks) many v z seen.length (ints seen) 9) ⟨⟨⟨⟨⟨⟨⟨trivial, q1⟩, q2⟩, q3⟩, q4⟩, q5⟩, q6⟩, hl⟩⟩
              · have hC : C (.mk k n ks) many seen = (0, seen ++ [n]) := by rw [C, if_neg h8, if_pos hk0, if_neg hkk, if_neg h3, if_neg h9]
                unfold R29; rw [hC]
                obtain ⟨v', z', hz', happ⟩ := app47 (rd := rdF [0, 3] [AObj.arr v z (ints seen), .var (enc (.mk k n ks)), .arr 0 0 [], .arr 0 1 [.int .i64 n]]) (k := 4) (o := 0) (v := v) (z := z) (xs := seen) (ys := [n]) (x := .own 3 0 0 1) rfl rfl hz (by simp; omega)
                exact ⟨v', z', hz', tfun_sound (f29_o_10 (pcall E14 m) m k n (encs ks) many v z seen.length (ints seen) x b v' _ z' _) ⟨⟨⟨⟨⟨⟨⟨⟨trivial, q1⟩, q2⟩, q3⟩, q4⟩, q5⟩, q6⟩, hl⟩, happ⟩⟩
        · have q3 : (k == 0) = false := by simpa using hk0
          by_cases hn : n ≠ 0
          · have hC : C (.mk k n ks) many seen = (2, seen) := by rw [C, if_neg h8, if_neg hk0, if_pos hn]
            unfold R29; rw [hC]
            exact ⟨v, z, hz, tfun_sound (f29_o_3 (pcall E14 m) m k n (encs ks) many v z seen.length (ints seen)) ⟨⟨⟨⟨trivial, q1⟩, q2⟩, q3⟩, by simpa using hn⟩⟩
          · have q4 : (n != 0) = false := by simpa using hn
            by_cases h5 : ks.length < 2
            · have hC : C (.mk k n ks) many seen = (5, seen) := by rw [C, if_neg h8, if_neg hk0, if_neg hn, if_pos h5]
              unfold R29; rw [hC]
              exact ⟨v, z, hz, tfun_sound (f29_o_5 (pcall E14 m) m k n (encs ks) many v z seen.length (ints seen)) ⟨⟨⟨⟨⟨trivial, q1⟩, q2⟩, q3⟩, q4⟩, by rw [hel]; simp; omega⟩⟩
            · have q5 : decide ((List.length (encs ks) : Int) < 2) = false := by rw [hel]; simp; omega
              rcases kinds29o (m := m) k n many ks seen v z hks m2 with ⟨h14, hl⟩ | ⟨h14, x, b, hl⟩
              · have hC : C (.mk k n ks) many seen = (14, seen) := by rw [C, if_neg h8, if_neg hk0, if_neg hn, if_neg h5, if_pos h14]
                unfold R29; rw [hC]
                exact ⟨v, z, hz, tfun_sound (f29_o_8 (pcall E14 m) m k n (encs ks) many v z seen.length (ints seen) 14) ⟨⟨⟨⟨⟨⟨trivial, q1⟩, q2⟩, q3⟩, q4⟩, q5⟩, hl⟩⟩
              · have hC : C (.mk k n ks) many seen = Cs ks many seen := by rw [C, if_neg h8, if_neg hk0, if_neg hn, if_neg h5, if_neg (by rw [h14]; simp)]
                unfold R29; rw [hC]
                obtain ⟨v', z', hz', h⟩ := kids29o (m := m) k n many ks seen v z hz (by omega) hks m2 fun t ht => (m1 t ht).1
                refine ⟨v', z', hz', ?_⟩
                rcases h with ⟨g1, g2⟩ | ⟨g1, x2, b2, g2⟩
                · exact tfun_sound (f29_o_12 (pcall E14 m) m k n (encs ks) many v z seen.length (ints seen) x b _ v' _ v' z' _) ⟨⟨⟨⟨⟨⟨⟨trivial, q1⟩, q2⟩, q3⟩, q4⟩, q5⟩, hl⟩, g2⟩
                · rw [g1]
                  exact tfun_sound (f29_o_11 (pcall E14 m) m k n (encs ks) many v z seen.length (ints seen) x b v' _ x2 b2 v' z' _) ⟨⟨⟨⟨⟨⟨⟨trivial, q1⟩, q2⟩, q3⟩, q4⟩, q5⟩, hl⟩, g2⟩
    · intro many hs
      rw [hsz] at hs
      have hsp := szs_pos ks
      have z0 : zOk 0 1 (ints []) := .inr ⟨rfl, rfl⟩
      by_cases h8 : k < 0 ∨ k > 2
      · have hC : C (.mk k n ks) many [] = (8, []) := by rw [C, if_pos h8]
        unfold R29; rw [hC]
        refine ⟨0, 0, z0, ?_⟩
        by_cases h0 : k < 0
        · exact tfun_sound (f29_n_2 (pcall E14 m) m k n (encs ks) many) ⟨trivial, by simpa using h0⟩
        · exact tfun_sound (f29_n_1 (pcall E14 m) m k n (encs ks) many) ⟨⟨trivial, by simpa using h0⟩, by simp; omega⟩
      · have q1 : (decide (k < 0) == false) = true := by simp; omega
        have q2 : decide (k > 2) = false := by simp; omega
        by_cases hk0 : k = 0
        · have q3 : (k == 0) = true := by simpa using hk0
          by_cases hkk : ks.length > 0
          · have hC : C (.mk k n ks) many [] = (2, []) := by rw [C, if_neg h8, if_pos hk0, if_pos hkk]
            unfold R29; rw [hC]
            exact ⟨0, 0, z0, tfun_sound (f29_n_4 (pcall E14 m) m k n (encs ks) many) ⟨⟨⟨⟨trivial, q1⟩, q2⟩, q3⟩, by rw [hel]; simp; omega⟩⟩
          · have q4 : decide ((List.length (encs ks) : Int) > 0) = false := by rw [hel]; exact decide_eq_false (by omega)
            by_cases h3 : n < 0 ∨ n ≥ many
            · have hC : C (.mk k n ks) many [] = (3, []) := by rw [C, if_neg h8, if_pos hk0, if_neg hkk, if_pos h3]
              unfold R29; rw [hC]
              refine ⟨0, 0, z0, ?_⟩
              by_cases h3a : n < 0
              · exact tfun_sound (f29_n_7 (pcall E14 m) m k n (encs ks) many) ⟨⟨⟨⟨⟨trivial, q1⟩, q2⟩, q3⟩, q4⟩, by simpa using h3a⟩
              · exact tfun_sound (f29_n_6 (pcall E14 m) m k n (encs ks) many) ⟨⟨⟨⟨⟨⟨trivial, q1⟩, q2⟩, q3⟩, q4⟩, by simpa using h3a⟩, by simp; omega⟩
            · have q5 : (decide (n < 0) == false) = true := by simp; omega
              have q6 : decide (n ≥ many) = false := by simp; omega
              have hC : C (.mk k n ks) many [] = (0, [n]) := by rw [C, if_neg h8, if_pos hk0, if_neg hkk, if_neg h3, if_neg (by simp)]; rfl
              have hl : LoopM E14 (pcall E14 m) m m 0 29 [1, 1, 0, 1, 0, 1, 1, 0, 1, 0] [(2, .nils), (3, .refv 0 0), (8, .int .i64 0)] [.var (enc (.mk k n ks)), .arr 0 0 []] (.exit 0, [(2, .nils), (3, .refv 0 0), (8, .int .i64 0), (43, .bool (decide ((0 : Int) < (([] : List PV).length : Int))))], [.var (enc (.mk k n ks)), .arr 0 0 []]) := by
                obtain ⟨m', rfl⟩ : ∃ m', m = m' + 1 := ⟨m - 1, by omega⟩
                exact LoopM.last (tbody_sound (f29_nl3_1 (pcall E14 (m' + 1)) (m' + 1) k n (encs ks) 0) ⟨trivial, by simp⟩) (by simp)
              unfold R29; rw [hC]
              exact ⟨0, 1, .inl rfl, tfun_sound (f29_n_9 (pcall E14 m) m k n (encs ks) many 0 _) ⟨⟨⟨⟨⟨⟨⟨trivial, q1⟩, q2⟩, q3⟩, q4⟩, q5⟩, q6⟩, hl⟩⟩
        · have q3 : (k == 0) = false := by simpa using hk0
          by_cases hn : n ≠ 0
          · have hC : C (.mk k n ks) many [] = (2, []) := by rw [C, if_neg h8, if_neg hk0, if_pos hn]
            unfold R29; rw [hC]
            exact ⟨0, 0, z0, tfun_sound (f29_n_3 (pcall E14 m) m k n (encs ks) many) ⟨⟨⟨⟨trivial, q1⟩, q2⟩, q3⟩, by simpa using hn⟩⟩
          · have q4 : (n != 0) = false := by simpa using hn
            by_cases h5 : ks.length < 2
            · have hC : C (.mk k n ks) many [] = (5, []) := by rw [C, if_neg h8, if_neg hk0, if_neg hn, if_pos h5]
              unfold R29; rw [hC]
              exact ⟨0, 0, z0, tfun_sound (f29_n_5 (pcall E14 m) m k n (encs ks) many) ⟨⟨⟨⟨⟨trivial, q1⟩, q2⟩, q3⟩, q4⟩, by rw [hel]; simp; omega⟩⟩
            · have q5 : decide ((List.length (encs ks) : Int) < 2) = false := by rw [hel]; simp; omega
              rcases kinds29n (m := m) k n many ks hks m2 with ⟨h14, hl⟩ | ⟨h14, x, b, hl⟩
              · have hC : C (.mk k n ks) many [] = (14, []) := by rw [C, if_neg h8, if_neg hk0, if_neg hn, if_neg h5, if_pos h14]
                unfold R29; rw [hC]
                exact ⟨0, 0, z0, tfun_sound (f29_n_8 (pcall E14 m) m k n (encs ks) many 14) ⟨⟨⟨⟨⟨⟨trivial, q1⟩, q2⟩, q3⟩, q4⟩, q5⟩, hl⟩⟩
              · have hC : C (.mk k n ks) many [] = Cs ks many [] := by rw [C, if_neg h8, if_neg hk0, if_neg hn, if_neg h5, if_neg (by rw [h14]; simp)]
                unfold R29; rw [hC]
                obtain ⟨v', z', hz', h⟩ := kids29n (m := m) k n many ks (by intro h; rw [h] at h5; simp at h5) (by omega) hks m2 (fun t ht => (m1 t ht).1) fun t ht => (m1 t ht).2
                refine ⟨v', z', hz', ?_⟩
                rcases h with ⟨g1, g2⟩ | ⟨g1, x2, b2, g2⟩
                · exact tfun_sound (f29_n_11 (pcall E14 m) m k n (encs ks) many x b _ v' _ v' z' _) ⟨⟨⟨⟨⟨⟨⟨trivial, q1⟩, q2⟩, q3⟩, q4⟩, q5⟩, hl⟩, g2⟩
                · rw [g1]
                  exact tfun_sound (f29_n_12 (pcall E14 m) m k n (encs ks) many x b v' _ x2 b2 v' z' _) ⟨⟨⟨⟨⟨⟨⟨trivial, q1⟩, q2⟩, q3⟩, q4⟩, q5⟩, hl⟩, g2⟩

mutual
theorem C_neg {many : Int} (h : many < 0) : ∀ (t : T) (s : List Int), C t many s = C t 0 s
  | .mk k n ks, s => by
    unfold C
    rw [Cs_neg h ks s]
    have e1 : (n < 0 ∨ n ≥ many) ↔ (n < 0 ∨ n ≥ 0) := by omega
    simp only [e1]
theorem Cs_neg {many : Int} (h : many < 0) : ∀ (ks : List T) (s : List Int), Cs ks many s = Cs ks 0 s
  | [], s => by simp [Cs]
  | t :: r, s => by
    unfold Cs
    rw [C_neg h t s]
    split
    · rfl
    · exact Cs_neg h r _
end

theorem check13 (t : T) (hok : t.ok) (hs : sz t ≤ 1000000) : Ev fun m => ∀ (many : Int), pcall E14 m 13 [enc t, .int .i64 many] [] = some (.int .i64 (Chk t many), []) := by
  refine Ev.succ ((chk29 t hok).mono fun m hm many => ?_)
  have hm := hm.2
  by_cases hneg : many < 0
  · obtain ⟨v, z, hz, hc⟩ := hm 0 hs
    have hl : justO (aLen (Envt.P E14) (rdF [1] [.var (enc t), .arr v z (ints (C t 0 []).2)]) 47 (.own 1 v 0 (C t 0 []).2.length)) = some ⟨.int .i64 ((C t 0 []).2.length : Int), []⟩ := aLen_own rfl (ints_length _).symm
    unfold Chk
    rw [C_neg hneg, show max 0 many = 0 by omega]
    obtain ⟨k, n, ks⟩ := t
    by_cases h0 : (C (.mk k n ks) 0 []).1 = 0
    · rw [if_pos h0]
      by_cases h4 : ((C (.mk k n ks) 0 []).2.length : Int) ≠ 0
      · rw [if_pos h4]
        exact tfun_sound (f13_3 (pcall E14 m) m k n (encs ks) many _ v z _ _ _) ⟨⟨⟨⟨⟨trivial, by simpa using hneg⟩, hc⟩, by simpa using h0⟩, hl⟩, by simpa using h4⟩
      · rw [if_neg h4]
        exact tfun_sound (f13_4 (pcall E14 m) m k n (encs ks) many _ v z _ _ _) ⟨⟨⟨⟨⟨trivial, by simpa using hneg⟩, hc⟩, by simpa using h0⟩, hl⟩, by simpa using h4⟩
    · rw [if_neg h0]
      exact tfun_sound (f13_1 (pcall E14 m) m k n (encs ks) many _ v z _ _) ⟨⟨⟨trivial, by simpa using hneg⟩, hc⟩, by simpa using h0⟩
  · obtain ⟨v, z, hz, hc⟩ := hm many hs
    have hl : justO (aLen (Envt.P E14) (rdF [1] [.var (enc t), .arr v z (ints (C t many []).2)]) 47 (.own 1 v 0 (C t many []).2.length)) = some ⟨.int .i64 ((C t many []).2.length : Int), []⟩ := aLen_own rfl (ints_length _).symm
    unfold Chk
    rw [show max 0 many = many by omega]
    obtain ⟨k, n, ks⟩ := t
    by_cases h0 : (C (.mk k n ks) many []).1 = 0
    · rw [if_pos h0]
      by_cases h4 : ((C (.mk k n ks) many []).2.length : Int) ≠ many
      · rw [if_pos h4]
        exact tfun_sound (f13_5 (pcall E14 m) m k n (encs ks) many _ v z _ _ _) ⟨⟨⟨⟨⟨trivial, by simpa using hneg⟩, hc⟩, by simpa using h0⟩, hl⟩, by simpa using h4⟩
      · rw [if_neg h4]
        exact tfun_sound (f13_6 (pcall E14 m) m k n (encs ks) many _ v z _ _ _) ⟨⟨⟨⟨⟨trivial, by simpa using hneg⟩, hc⟩, by simpa using h0⟩, hl⟩, by simpa using h4⟩
    · rw [if_neg h0]
      exact tfun_sound (f13_2 (pcall E14 m) m k n (encs ks) many _ v z _ _) ⟨⟨⟨trivial, by simpa using hneg⟩, hc⟩, by simpa using h0⟩
end Go.L14

namespace Go.L14
open Go Go.Bb

mutual
def TE : T → T → Bool
  | .mk k n ks, .mk k' n' ks' => (k == k' && n == n') && TEs ks ks'
def TEs : List T → List T → Bool
  | [], [] => true
  | a :: r, b :: s => TE a b && TEs r s
  | _, _ => false
end
mutual
theorem TE_refl : ∀ t, TE t t = true
  | .mk k n ks => by unfold TE; rw [TEs_refl ks]; simp
theorem TEs_refl : ∀ ks, TEs ks ks = true
  | [] => rfl
  | t :: r => by unfold TEs; rw [TE_refl t, TEs_refl r]; rfl
end
theorem TEs_len : ∀ (a b : List T), a.length ≠ b.length → TEs a b = false
  | [], [], h => absurd rfl h
  | [], _ :: _, _ => rfl
  | _ :: _, [], _ => rfl
  | a :: r, b :: s, h => by unfold TEs; rw [TEs_len r s (by simpa using h)]; simp
theorem TEs_step {a b pre post : List T} {t : T} (he : a = pre ++ t :: post) (hl : a.length = b.length) : ∃ u, b.drop pre.length = u :: b.drop (pre.length + 1) ∧ b[pre.length]? = some u ∧ u ∈ b := by
  have h : pre.length < b.length := by rw [← hl, he]; simp
  refine ⟨b[pre.length], by rw [List.drop_eq_getElem_cons h], by simp [h], by simp⟩

theorem ixTi {rd : Rd} {ks : List T} {i : Nat} {t : T} (he : ks[i]? = some t) : justO (aIndexAddr (Envt.P E14) rd 22 (.list false (encs ks)) (.int .i64 (i : Int))) = some ⟨.ro false (enc t), []⟩ := by
  have hget : (encs ks)[i]? = some (enc t) := by rw [encs_get, he]; rfl
  obtain ⟨a, b, c⟩ := t
  exact idx_list (P := Go.Proofs.Tryd.prog) (rd := rd) (y := false) (k := .i64) u22 (by kernel_rfl) (by kernel_rfl) hget
theorem ixRi {rd : Rd} {ks : List T} {i : Nat} {t : T} (he : ks[i]? = some t) : justO (aIndexAddr (Envt.P E14) rd 33 (.list false (encs ks)) (.int .i64 (i : Int))) = some ⟨.ro false (enc t), []⟩ := by
  have hget : (encs ks)[i]? = some (enc t) := by rw [encs_get, he]; rfl
  obtain ⟨a, b, c⟩ := t
  exact idx_list (P := Go.Proofs.Tryd.prog) (rd := rd) (y := false) (k := .i64) u33 (by kernel_rfl) (by kernel_rfl) hget

theorem eqf31 {m : Nat} (xs us : List T) (hks : xs.length ≤ maxLen) (hm : xs.length < m) (hc : ∀ a ∈ xs, ∀ b ∈ us, pcall E14 m 22 [enc a, enc b] [] = some (.bool (TE a b), [])) :
    pcall E14 (m + 1) 31 [.list false (encs xs), .list false (encs us), .clo 22 []] [] = some (.bool (TEs xs us), []) := by
  have la : ((List.length (encs xs) : Nat) : Int) = xs.length := by rw [encs_length]
  have lb : ((List.length (encs us) : Nat) : Int) = us.length := by rw [encs_length]
  by_cases hl : xs.length = us.length
  · have hq : (((List.length (encs xs) : Nat) : Int) != ((List.length (encs us) : Nat) : Int)) = false := by rw [la, lb]; simp; omega
    obtain ⟨out, h1, h2⟩ := LoopM.list (E := E14) (call := pcall E14 m) (n := m) (k0 := 0) (f := 31) (p := [1, 1, 0, 1, 0]) xs
      (fun pre env σ => (∀ post, xs = pre ++ post → TEs xs us = TEs post (us.drop pre.length)) ∧ env = [(1, .list false (encs us)), (2, .clo 22 []), (15, .list false (encs xs)), (16, .int .i64 ((encs xs).length : Int)), (17, .int .i64 pre.length)] ∧ σ = [])
      (fun out => (TEs xs us = true ∧ ∃ x b, out = (.exit 0, [(1, .list false (encs us)), (2, .clo 22 []), (15, .list false (encs xs)), (16, .int .i64 ((encs xs).length : Int)), (17, .int .i64 x), (18, .bool b)], [])) ∨
        (TEs xs us = false ∧ ∃ k1 n1 l1 k2 n2 l2, out = (.ret, [(6, .bool false)], [.arr 0 0 [], .var (.agg [.int .i64 k1, .int .i64 n1, .list false l1]), .arr 0 0 [], .var (.agg [.int .i64 k2, .int .i64 n2, .list false l2])])))
      (fun env σ ⟨hn, he, hσ⟩ => by
        subst he; subst hσ
        refine ⟨_, tbody_sound (f31_l1_1 (pcall E14 m) m (encs xs) (encs us) xs.length) ⟨trivial, nlt xs⟩, by simp, .inl ⟨?_, _, _, rfl⟩⟩
        rw [hn [] (by simp), List.drop_of_length_le (by omega)]; rfl)
      (fun pre t post env σ he ⟨hn, he2, hσ⟩ => by
        subst he2; subst hσ
        obtain ⟨u, d1, d2, d3⟩ := TEs_step he hl
        have hw := wpre he hks
        have hcall := hc t (by rw [he]; simp) u d3
        have hstep := hn (t :: post) he
        rw [d1, TEs] at hstep
        have hx := ixTi (rd := rdF [] [AObj.arr 0 0 [], .var (enc t)]) d2
        obtain ⟨k1, n1, l1⟩ := t
        obtain ⟨k2, n2, l2⟩ := u
        cases hte : TE (.mk k1 n1 l1) (.mk k2 n2 l2) with
        | true =>
          rw [hte] at hcall hstep
          left
          refine ⟨_, _, tbody_sound (f31_l1_3 (pcall E14 m) m (encs xs) (encs us) pre.length k1 n1 (encs l1) k2 n2 (encs l2) true) ⟨⟨⟨⟨⟨trivial, ltp he⟩, ixT he⟩, hx⟩, hcall⟩, rfl⟩, ?_, ?_, rfl⟩
          · intro post' hp
            have : post' = post := by rw [he] at hp; simpa using hp.symm
            subst this
            rw [hstep]; simp
          · rw [hw]
        | false =>
          rw [hte] at hcall hstep
          right
          exact ⟨_, tbody_sound (f31_l1_2 (pcall E14 m) m (encs xs) (encs us) pre.length k1 n1 (encs l1) k2 n2 (encs l2) false) ⟨⟨⟨⟨⟨trivial, ltp he⟩, ixT he⟩, hx⟩, hcall⟩, rfl⟩, by simp, .inr ⟨by simpa using hstep, _, _, _, _, _, _, rfl⟩⟩)
      (env := [(1, .list false (encs us)), (2, .clo 22 []), (15, .list false (encs xs)), (16, .int .i64 ((encs xs).length : Int)), (17, .int .i64 0)]) (σ := []) ⟨fun post hp => (by have : post = xs := (by simpa using hp.symm); rw [this]; rfl), rfl, rfl⟩ hm
    rcases h2 with ⟨a, x, b, rfl⟩ | ⟨a, k1, n1, l1, k2, n2, l2, rfl⟩
    · rw [a]
      exact tfun_sound (f31_2 (pcall E14 m) m (encs xs) (encs us) x b) ⟨⟨trivial, hq⟩, h1⟩
    · rw [a]
      exact tfun_sound (f31_3 (pcall E14 m) m (encs xs) (encs us) false k1 n1 l1 k2 n2 l2) ⟨⟨trivial, hq⟩, h1⟩
  · rw [TEs_len xs us hl]
    exact tfun_sound (f31_1 (pcall E14 m) m (encs xs) (encs us)) ⟨trivial, by rw [la, lb]; simp; omega⟩

theorem equal22 : ∀ (t : T), t.ok → ∀ (u : T), Has E14 22 [enc t, enc u] [] (.bool (TE t u), [])
  | .mk k n ks, hok, .mk k' n' ks' => by
    unfold T.ok at hok
    have hks := hok.2.2.1
    have kids : Ev fun m => ∀ a ∈ ks, ∀ b ∈ ks', pcall E14 m 22 [enc a, enc b] [] = some (.bool (TE a b), []) := Ev.all ks fun a ha => Ev.all ks' fun b _ => equal22 a (hok.2.2.2 a ha) b
    have big : Ev fun m => ks.length < m := ⟨ks.length + 1, fun m hm => by omega⟩
    refine Ev.succ (Ev.succ ((kids.and big).mono fun m hm => ?_))
    have h31 := eqf31 ks ks' hks hm.2 hm.1
    by_cases h1 : k = k'
    · have q1 : ((k == k') == true) = true := by simpa using h1
      by_cases h2 : n = n'
      · have q2 : ((n == n') == true) = true := by simpa using h2
        have hT : TE (.mk k n ks) (.mk k' n' ks') = TEs ks ks' := by rw [TE]; simp [h1, h2]
        rw [hT]
        exact tfun_sound (f22_3 (pcall E14 (m + 1)) (m + 1) k n (encs ks) k' n' (encs ks') _) ⟨⟨⟨trivial, q1⟩, q2⟩, h31⟩
      · have hT : TE (.mk k n ks) (.mk k' n' ks') = false := by rw [TE]; simp [h2]
        rw [hT]
        exact tfun_sound (f22_1 (pcall E14 (m + 1)) (m + 1) k n (encs ks) k' n' (encs ks')) ⟨⟨trivial, q1⟩, by simpa using h2⟩
    · have hT : TE (.mk k n ks) (.mk k' n' ks') = false := by rw [TE]; simp [h1]
      rw [hT]
      exact tfun_sound (f22_2 (pcall E14 (m + 1)) (m + 1) k n (encs ks) k' n' (encs ks')) ⟨trivial, by simpa using h1⟩

theorem equal23 : ∀ (t : T), t.ok → ∀ (u : T), Has E14 23 [enc t, enc u] [] (.bool (TE t u), [])
  | .mk k n xs, hok, .mk k' n' us => by
    unfold T.ok at hok
    have hks := hok.2.2.1
    have kids : Ev fun m => ∀ a ∈ xs, ∀ b ∈ us, pcall E14 m 23 [enc a, enc b] [] = some (.bool (TE a b), []) := Ev.all xs fun a ha => Ev.all us fun b _ => equal23 a (hok.2.2.2 a ha) b
    have big : Ev fun m => xs.length < m := ⟨xs.length + 1, fun m hm => by omega⟩
    refine Ev.succ ((kids.and big).mono fun m hm => ?_)
    obtain ⟨hc, hm⟩ := hm
    have la : ((List.length (encs xs) : Nat) : Int) = xs.length := by rw [encs_length]
    have lb : ((List.length (encs us) : Nat) : Int) = us.length := by rw [encs_length]
    by_cases h1 : k = k'
    · have q1 : ((k != k') == false) = true := by simpa using h1
      by_cases h2 : n = n'
      · have q2 : ((n != n') == false) = true := by simpa using h2
        have hT : TE (.mk k n xs) (.mk k' n' us) = TEs xs us := by rw [TE]; simp [h1, h2]
        rw [hT]
        by_cases hl : xs.length = us.length
        · have hq : (((List.length (encs xs) : Nat) : Int) != ((List.length (encs us) : Nat) : Int)) = false := by rw [la, lb]; simp; omega
          obtain ⟨out, h1, h2⟩ := LoopM.list (E := E14) (call := pcall E14 m) (n := m) (k0 := 0) (f := 23) (p := [1, 1, 0, 1, 0]) xs
            (fun pre env σ => (∀ post, xs = pre ++ post → TEs xs us = TEs post (us.drop pre.length)) ∧ env = [(2, .refv 0 0), (3, .refv 1 0), (5, .int .i64 pre.length)] ∧ σ = [.var (enc (.mk k n xs)), .var (enc (.mk k' n' us))])
            (fun out => (TEs xs us = true ∧ ∃ x b, out = (.exit 0, [(2, .refv 0 0), (3, .refv 1 0), (5, .int .i64 x), (31, .bool b)], [.var (enc (.mk k n xs)), .var (enc (.mk k' n' us))])) ∨
              (TEs xs us = false ∧ out = (.ret, [(4, .bool false)], [.var (enc (.mk k n xs)), .var (enc (.mk k' n' us))])))
            (fun env σ ⟨hn, he, hσ⟩ => by
              subst he; subst hσ
              refine ⟨_, tbody_sound (f23_l1_1 (pcall E14 m) m k n (encs xs) k' n' (encs us) xs.length) ⟨trivial, nlt xs⟩, by simp, .inl ⟨?_, _, _, rfl⟩⟩
              rw [hn [] (by simp), List.drop_of_length_le (by omega)]; rfl)
            (fun pre t post env σ he ⟨hn, he2, hσ⟩ => by
              subst he2; subst hσ
              obtain ⟨u, d1, d2, d3⟩ := TEs_step he hl
              have hw := wpre he hks
              have hcall := hc t (by rw [he]; simp) u d3
              have hstep := hn (t :: post) he
              rw [d1, TEs] at hstep
              have hx := ixRi (rd := rdF [] [.var (enc (.mk k n xs)), .var (enc (.mk k' n' us))]) d2
              have hx1 := ixR (rd := rdF [] [.var (enc (.mk k n xs)), .var (enc (.mk k' n' us))]) he
              obtain ⟨k1, n1, l1⟩ := t
              obtain ⟨k2, n2, l2⟩ := u
              cases hte : TE (.mk k1 n1 l1) (.mk k2 n2 l2) with
              | true =>
                rw [hte] at hcall hstep
                left
                refine ⟨_, _, tbody_sound (f23_l1_3 (pcall E14 m) m k n (encs xs) k' n' (encs us) pre.length k1 n1 (encs l1) k2 n2 (encs l2) true) ⟨⟨⟨⟨⟨trivial, ltp he⟩, hx1⟩, hx⟩, hcall⟩, rfl⟩, ?_, ?_, rfl⟩
                · intro post' hp
                  have : post' = post := by rw [he] at hp; simpa using hp.symm
                  subst this
                  rw [hstep]; simp
                · rw [hw]
              | false =>
                rw [hte] at hcall hstep
                right
                exact ⟨_, tbody_sound (f23_l1_2 (pcall E14 m) m k n (encs xs) k' n' (encs us) pre.length k1 n1 (encs l1) k2 n2 (encs l2) false) ⟨⟨⟨⟨⟨trivial, ltp he⟩, hx1⟩, hx⟩, hcall⟩, rfl⟩, by simp, .inr ⟨by simpa using hstep, rfl⟩⟩)
            (env := [(2, .refv 0 0), (3, .refv 1 0), (5, .int .i64 0)]) (σ := [.var (enc (.mk k n xs)), .var (enc (.mk k' n' us))]) ⟨fun post hp => (by have : post = xs := (by simpa using hp.symm); rw [this]; rfl), rfl, rfl⟩ hm
          rcases h2 with ⟨a, x, b, rfl⟩ | ⟨a, rfl⟩
          · rw [a]
            exact tfun_sound (f23_4 (pcall E14 m) m k n (encs xs) k' n' (encs us) x b) ⟨⟨⟨⟨trivial, q1⟩, q2⟩, hq⟩, h1⟩
          · rw [a]
            exact tfun_sound (f23_5 (pcall E14 m) m k n (encs xs) k' n' (encs us) false) ⟨⟨⟨⟨trivial, q1⟩, q2⟩, hq⟩, h1⟩
        · rw [TEs_len xs us hl]
          exact tfun_sound (f23_3 (pcall E14 m) m k n (encs xs) k' n' (encs us)) ⟨⟨⟨trivial, q1⟩, q2⟩, by rw [la, lb]; simp; omega⟩
      · have hT : TE (.mk k n xs) (.mk k' n' us) = false := by rw [TE]; simp [h2]
        rw [hT]
        exact tfun_sound (f23_1 (pcall E14 m) m k n (encs xs) k' n' (encs us)) ⟨⟨trivial, q1⟩, by simpa using h2⟩
    · have hT : TE (.mk k n xs) (.mk k' n' us) = false := by rw [TE]; simp [h1]
      rw [hT]
      exact tfun_sound (f23_2 (pcall E14 m) m k n (encs xs) k' n' (encs us)) ⟨trivial, by simpa using h1⟩

/-- slices.Equal, a list against itself. -/
theorem equal19 (y1 y2 : Bool) (l : List Int) (hl : l.length ≤ maxLen) : Has E14 19 [.list y1 (ints l), .list y2 (ints l)] [] (.bool true, []) := by
  have big : Ev fun m => l.length < m := ⟨l.length + 1, fun m hm => by omega⟩
  refine Ev.succ (big.mono fun m hm => ?_)
  have hle : ((ints l).length : Int) = l.length := by rw [ints_length]
  have h := LoopM.walk (E := E14) (call := pcall E14 m) (n := m) (k0 := 0) (f := 19) (p := [1, 1, 0, 1, 0]) l
    (fun pre => [(0, .list y1 (ints l)), (1, .list y2 (ints l)), (12, .int .i64 ((ints l).length : Int)), (13, .int .i64 pre.length)]) (fun _ => []) (by simp)
    (tbody_sound (f19_l1_1 (pcall E14 m) m y1 (ints l) y2 (ints l) l.length) ⟨trivial, by rw [hle]; simp⟩)
    (fun pre x post he => by
      have hget : (ints l)[pre.length]? = some (.int .i64 x) := by rw [he]; simp [ints]
      have hx : ∀ y, justO (aIndexAddr (Envt.P E14) (rdF [] []) 47 (.list y (ints l)) (.int .i64 (pre.length : Int))) = some ⟨.ro y (.int .i64 x), []⟩ := fun y =>
        idx_list (P := Go.Proofs.Tryd.prog) (e := 3) (by kernel_rfl) (by kernel_rfl) (by kernel_rfl) hget
      have := tbody_sound (f19_l1_3 (pcall E14 m) m y1 (ints l) y2 (ints l) pre.length x x) ⟨⟨⟨⟨trivial, by rw [hle, he]; simp; omega⟩, hx y1⟩, hx y2⟩, by simp⟩
      rw [wnext pre x (by rw [he] at hl; unfold maxLen at hl; simp at hl; omega)] at this
      exact this) hm
  exact tfun_sound (f19_2 (pcall E14 m) m y1 (ints l) y2 (ints l) _ _) ⟨⟨trivial, by simp⟩, h⟩
end Go.L14

namespace Go.L14
open Go Go.Bb

mutual
def Tu : T → T
  | .mk k n ks => .mk k n (Tus ks)
def Tus : List T → List T
  | [] => []
  | t :: r => Tus r ++ [Tu t]
end
theorem Tus_eq : ∀ ks, Tus ks = ks.reverse.map Tu
  | [] => rfl
  | t :: r => by simp [Tus, Tus_eq r]

theorem e22 : elemT Go.Proofs.Tryd.prog 22 = some 24 := by kernel_rfl
theorem s24 : szOf Go.Proofs.Tryd.prog 24 = 3 := by kernel_rfl
theorem b24 : bytesOf Go.Proofs.Tryd.prog 24 = 40 := by kernel_rfl
theorem sizeOk_encs : ∀ (l : List T), sizeOk 3 (encs l) = true
  | [] => rfl
  | .mk _ _ _ :: r => sizeOk_encs r
theorem app22 {rd : Rd} {k o v z : Nat} {xs ys : List T} {x : PV} (hs : srcOf rd 3 x = some (encs ys)) (ho : rd o = some (.arr v z (encs xs))) (hz : zOk z 3 (encs xs)) (hb : xs.length + ys.length ≤ 1000000) :
    ∃ v' z', zOk z' 3 (encs (xs ++ ys)) ∧ aAppend (Envt.P E14) rd k 22 22 (.own o v 0 xs.length) x = some ⟨.own o v' 0 (xs ++ ys).length, [(o, .arr v' z' (encs (xs ++ ys)))]⟩ := by
  obtain ⟨v', z', h1, h2⟩ := app_ex (P := Go.Proofs.Tryd.prog) (rd := rd) (k := k) (o := o) (v := v) (sz := z) (m := xs.length) (t := 22) (xt := 22) (e := 24) (xs := encs xs) (ys := encs ys) (x := x) (encs_length xs).symm e22 (by rw [s24]; exact hs) (by rw [s24]; exact sizeOk_encs ys) (by kernel_rfl) (by kernel_rfl) ho (by rw [s24]; exact hz) (by rw [b24, encs_length, encs_length]; omega)
  rw [s24, ← encs_append] at h1
  rw [← encs_append, encs_length] at h2
  exact ⟨v', z', h1, h2⟩
theorem finT {o v z : Nat} {xs : List T} {a b : Int} {σ : List AObj} (ho : σ[o]? = some (.arr v z (encs xs))) :
    fin false 0 (.agg [.int .i64 a, .int .i64 b, .own o v 0 xs.length]) σ = some (.agg [.int .i64 a, .int .i64 b, .list false (encs xs)], []) := by
  refine fin0 ?_ rfl rfl rfl
  have h := free_own (rd := fun i => σ[i]?) (k := 2) (n := xs.length) ho (encs_length xs).symm
  simp only [freeD, mapO] at h ⊢
  rw [h]
  rfl

theorem turned17 : ∀ (t : T), t.ok → sz t ≤ 1000000 → Has E14 17 [enc t] [] (enc (Tu t), [])
  | .mk k n ks, hok, hs => by
    unfold T.ok at hok
    have hks := hok.2.2.1
    unfold sz at hs
    have kids : Ev fun m => ∀ t ∈ ks, pcall E14 m 17 [enc t] [] = some (enc (Tu t), []) := Ev.all ks fun t ht => turned17 t (hok.2.2.2 t ht) (by have := szs_mem ks t ht; omega)
    have big : Ev fun m => ks.length < m := ⟨ks.length + 1, fun m hm => by omega⟩
    have hlen : (ks.length : Int) ≤ szs ks := by
      have : ∀ l : List T, (l.length : Int) ≤ szs l := fun l => by
        induction l with
        | nil => simp [szs]
        | cons a r ih => unfold szs; have := sz_pos a; simp; omega
      exact this ks
    refine Ev.succ ((kids.and big).mono fun m hm => ?_)
    have hle : ((encs ks).length : Int) = ks.length := by rw [encs_length]
    obtain ⟨out, hl, v, z, x, b, rfl⟩ := LoopM.list (E := E14) (call := pcall E14 m) (n := m) (k0 := 0) (f := 17) (p := [1, 1, 0, 1, 0]) ks.reverse
      (fun pre env σ => ∃ v z, zOk z 3 (encs (pre.map Tu)) ∧ env = [(1, .refv 0 0), (2, .refv 2 0), (3, .refv 4 0), (12, .int .i64 ((encs ks).length : Int)), (13, .int .i64 pre.length)] ∧
        σ = [.var (enc (.mk k n ks)), .arr 0 0 [], .var (.agg [.int .i64 0, .int .i64 0, .own 1 0 0 0]), .arr 0 0 [], .var (.agg [.int .i64 k, .int .i64 n, .own 5 v 0 (pre.map Tu).length]), .arr v z (encs (pre.map Tu))])
      (fun out => ∃ v z x b, out = (.exit 0, [(1, .refv 0 0), (2, .refv 2 0), (3, .refv 4 0), (12, .int .i64 ((encs ks).length : Int)), (13, .int .i64 x), (14, .bool b)],
        [.var (enc (.mk k n ks)), .arr 0 0 [], .var (.agg [.int .i64 0, .int .i64 0, .own 1 0 0 0]), .arr 0 0 [], .var (.agg [.int .i64 k, .int .i64 n, .own 5 v 0 (Tus ks).length]), .arr v z (encs (Tus ks))]))
      (fun env σ ⟨v, z, hz, he, hσ⟩ => by
        subst he; subst hσ
        rw [← Tus_eq]
        exact ⟨_, tbody_sound (f17_l1_1 (pcall E14 m) m k n (encs ks) ks.reverse.length v (Tus ks).length v z (encs (Tus ks))) ⟨trivial, by rw [hle]; simp⟩, by simp, v, z, _, _, rfl⟩)
      (fun pre t post env σ he ⟨v, z, hz, he2, hσ⟩ => by
        subst he2; subst hσ
        left
        have hin : t ∈ ks := List.mem_reverse.1 (by rw [he]; simp)
        have hcall := hm.1 t hin
        have hl : ks.length = pre.length + (post.length + 1) := by rw [← List.length_reverse, he]; simp
        have hi : IntKind.i64.wrap (IntKind.i64.wrap (((encs ks).length : Int) - 1) - (pre.length : Int)) = ((ks.length - 1 - pre.length : Nat) : Int) := by
          rw [hle, i64w (n := (ks.length : Int) - 1) (by omega) (by omega), i64w (by omega) (by omega)]; omega
        have hget : ks[ks.length - 1 - pre.length]? = some t := by
          rw [← List.getElem?_reverse (by omega), he]; simp
        have hx := ixTi (rd := rdF [] [.var (enc (.mk k n ks)), .arr 0 0 [], .var (.agg [.int .i64 0, .int .i64 0, .own 1 0 0 0]), .arr 0 0 [], .var (.agg [.int .i64 k, .int .i64 n, .own 5 v 0 (pre.map Tu).length]), .arr v z (encs (pre.map Tu))]) hget
        rw [← hi] at hx
        obtain ⟨v', z', hz', happ⟩ := app22 (rd := rdF [5, 6] [.var (enc (.mk k n ks)), .arr 0 0 [], .var (.agg [.int .i64 0, .int .i64 0, .own 1 0 0 0]), .arr 0 0 [], .var (.agg [.int .i64 k, .int .i64 n, .own 5 v 0 (pre.map Tu).length]), .arr v z (encs (pre.map Tu)), .arr 0 3 [enc (Tu t)]])
          (k := 7) (o := 5) (v := v) (z := z) (xs := pre.map Tu) (ys := [Tu t]) (x := .own 6 0 0 1) (by rfl) rfl hz (by simp; omega)
        have hmap : (pre ++ [t]).map Tu = pre.map Tu ++ [Tu t] := by simp
        refine ⟨_, _, ?_, v', z', by rw [hmap]; exact hz', rfl, rfl⟩
        rw [hmap, ← wnext pre t (by omega)]
        obtain ⟨k0, n0, ls⟩ := t
        exact tbody_sound (f17_l1_2 (pcall E14 m) m k n (encs ks) pre.length v (pre.map Tu).length v z (encs (pre.map Tu)) k0 n0 (encs ls) k0 n0 (encs (Tus ls)) v' _ z' _)
          ⟨⟨⟨⟨trivial, by rw [hle]; simp; omega⟩, hx⟩, by rw [Tu] at hcall; exact hcall⟩, by rw [Tu] at happ; exact happ⟩)
      (env := [(1, .refv 0 0), (2, .refv 2 0), (3, .refv 4 0), (12, .int .i64 ((encs ks).length : Int)), (13, .int .i64 0)])
      (σ := [.var (enc (.mk k n ks)), .arr 0 0 [], .var (.agg [.int .i64 0, .int .i64 0, .own 1 0 0 0]), .arr 0 0 [], .var (.agg [.int .i64 k, .int .i64 n, .own 5 0 0 0]), .arr 0 0 []])
      ⟨0, 0, .inr ⟨rfl, rfl⟩, rfl, rfl⟩ (by rw [List.length_reverse]; exact hm.2)
    rw [Tu]
    exact tfun_sound (f17_1 (pcall E14 m) m k n (encs ks) x b v (Tus ks).length v z (encs (Tus ks))) ⟨⟨trivial, hl⟩, finT rfl⟩

theorem join18 (c : Int) (t : T) (a : Int) (ht : sz t ≤ 1000) :
    Has E14 18 [.int .i64 c, .ro true (enc t), .ro true (enc (.mk 0 a []))] [] (enc (match t with | .mk k _ ks => if k = c then .mk c 0 (ks ++ [.mk 0 a []]) else .mk c 0 [t, .mk 0 a []]), []) := by
  obtain ⟨k, n, ks⟩ := t
  refine Ev.succ (Ev.of fun m => ?_)
  simp only
  unfold sz at ht
  have hlen : (ks.length : Int) ≤ szs ks := by
    have : ∀ l : List T, (l.length : Int) ≤ szs l := fun l => by
      induction l with
      | nil => simp [szs]
      | cons a r ih => unfold szs; have := sz_pos a; simp; omega
    exact this ks
  by_cases hk : k = c
  · rw [if_pos hk]
    obtain ⟨v1, z1, hz1, happ1⟩ := app22 (rd := rdF [2] [.arr 0 0 [], .var (.agg [.int .i64 0, .int .i64 0, .own 0 0 0 0]), .arr 0 3 []]) (k := 3) (o := 2) (v := 0) (z := 3) (xs := []) (ys := ks) (x := .list false (encs ks)) rfl rfl (.inl rfl) (by simp; omega)
    obtain ⟨v2, z2, hz2, happ2⟩ := app22 (rd := rdF [2, 3] [.arr 0 0 [], .var (.agg [.int .i64 0, .int .i64 0, .own 0 0 0 0]), .arr v1 z1 (encs ks), .arr 0 3 [enc (.mk 0 a [])]]) (k := 4) (o := 2) (v := v1) (z := z1) (xs := ks) (ys := [.mk 0 a []]) (x := .own 3 0 0 1) (by rfl) rfl hz1 (by simp; omega)
    exact tfun_sound (f18_2 (pcall E14 m) m c k n (encs ks) 0 a [] v1 _ z1 _ v2 _ z2 _) ⟨⟨⟨⟨trivial, by simpa using hk⟩, happ1⟩, happ2⟩, finT (xs := ks ++ [.mk 0 a []]) rfl⟩
  · rw [if_neg hk]
    exact tfun_sound (f18_1 (pcall E14 m) m c k n (encs ks) 0 a []) ⟨trivial, by simpa using hk⟩
end Go.L14

