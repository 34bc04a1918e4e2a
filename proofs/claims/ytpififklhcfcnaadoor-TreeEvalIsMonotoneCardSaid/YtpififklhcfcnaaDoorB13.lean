/- TreeEvalIsMonotone: for every input the law returns true and its arguments read behind the call as they read before; the listed tables hold what the program's text lays, by the given tie; no other condition. -/
import Derived.Test.YtpififklhcfcnaaDoorB12
namespace Go.Proofs.YtpififklhcfcnaaDoor
open Go.ChangeShapes Go.WideShapes Go.RowKit Go.Bb Go.L14

theorem pure_4 (xs : List PV) (h : ArgsTy Tryd.prog [24, 25, 5] xs) : ∃ n, pcall E14 n 4 xs [] = some (.bool true, []) := by
  obtain ⟨hl, h⟩ := h
  match xs, hl with
  | [a, b, c], _ =>
    obtain ⟨t, ht, rfl⟩ := arg_tree (h 0 24 a rfl rfl).1 (h 0 24 a rfl rfl).2
    obtain ⟨on, _, rfl⟩ := arg_bools (h 1 25 b rfl rfl).1 (h 1 25 b rfl rfl).2
    obtain ⟨n, hn, rfl⟩ := arg_int (t := 5) (k := .u8) (by kernel_rfl) (h 2 5 c rfl rfl).1 (h 2 5 c rfl rfl).2
    exact (law4 t ht false on n (by have e : IntKind.u8.min = 0 := rfl; rw [← e]; exact hn.1) (by have e : IntKind.u8.max = 255 := rfl; rw [← e]; exact hn.2)).run

set_option maxRecDepth 100000 in
theorem lifted_4 (os : Os) (started : os.Started) (H : Type) (enc : TypeId × Value → H) :
    ReturnsInHanded {} Tryd.checked os 4 .any (fun w args => (Rows.treeEvalIsMonotoneSpec.pre enc Tryd.prog Tryd.f4 [] false w args ∧ laidMetH Tryd.prog laid14 w) ∧ sizedMet enc Tryd.prog Tryd.f4 (OpenSpec.ofChange Rows.treeEvalIsMonotoneSpec) false w args)
      (Rows.treeEvalIsMonotoneSpec.post enc Tryd.prog Tryd.f4 false true false false) := by
  refine returnsInHanded_of_change_and (C := Tryd.checked) (X := fun w _ => laidMetH Tryd.prog laid14 w) (fun _ _ _ hh h => h.of_heap hh) own started (by kernel_rfl) Tryd.func4
    (ChangeSpec.witness_shaped (enc := enc) (C := Tryd.checked) (os := os) (X := fun w _ => laidMetH Tryd.prog laid14 w) false (World.doorLaid Tryd.prog 400 os) #[.agg #[.int .i64 0, .int .i64 0, .slice .none 0 0], .slice .none 0 0, .int .u8 0] 8 rfl (World.shaped_of_RefB (by kernel_rfl) (by kernel_rfl)) (by kernel_rfl) (by kernel_rfl) (by kernel_rfl) (door_met os _)) ?_
  intro W base args ds gs before hval0 hW _ _ hL _
  refine law_calls (E := E14) mixed14 prim14 laidOut14 plain14 (f := 4) (fn := Tryd.f4) (by kernel_rfl) (tb := 4) rfl u4 rfl (fun ds hd => ?_) (fun xs hx => pure_4 xs hx) hval0 hW (gok14 hL)
  have hd : ds.length = 3 := hd
  match ds, hd with
  | [d1, d2, d3], _ => rfl

theorem holds_4 : Rows.TreeEvalIsMonotoneSaid :=
  OpenClaim.holds_of_wide 4 Tryd.f4 rfl rfl rfl rfl rfl rfl rfl ⟨rfl, rfl, rfl, rfl, rfl⟩ rfl rfl rfl rfl rfl (by kernel_rfl) Tryd.func4 (by kernel_rfl)
    (of_decide_eq_true (by kernel_rfl)) (by unfold Func.isWrapper; rw [if_neg (of_decide_eq_false (by kernel_rfl))]; exact ⟨rfl, rfl⟩)
    (fun os started H enc _ => lifted_4 os started H enc)

theorem x_holds : Rows.TreeEvalIsMonotoneCardSaid :=
  Claim7.holds_tied_plain_at .later [] [.data, .data, .data, .data] true (true, "471ab9bd6edcfd6335b51f2c53630e38b8e419547e49401c32fca935266ec791") false
    holds_4 (fun _ h => by cases h) (by kernel_rfl) (fun _ h => by cases h) treeEvalIsMonotone_row_tie rfl ⟨rfl, rfl⟩ (by kernel_rfl) rfl
    (fun f fn hf hfn => by
      obtain rfl : f = 4 := Option.some.inj ((show Tryd.prog.funcNamed "busbar/busbarlaw14.TreeEvalIsMonotone" = some 4 by kernel_rfl).symm.trans hf) |>.symm
      obtain rfl : fn = Tryd.f4 := (Option.some.inj (Tryd.func4.symm.trans hfn)).symm
      exact ⟨by kernel_rfl, fun j t ht => by
        rw [Tryd.params4] at ht
        have h3 := List.mem_of_getElem? (l := [24, 25, 5]) (i := j) (by simpa using ht)
        have hall : ([24, 25, 5] : List TypeId).all (fun t => Tryd.prog.wantsStandIn t == false) = true := by kernel_rfl
        have := List.all_eq_true.1 hall t h3
        exact eq_of_beq this⟩)
    (by kernel_rfl)
#print axioms x_holds
end Go.Proofs.YtpififklhcfcnaaDoor

