/- PRINTED by a program of the claim's own: the types of the seat, and Go's functions as Lean functions, each with the proof that a call of it comes to that. -/
import Derived.Test.YtdiclbejalelfaaFwT
import Derived.Test.YtdiclbejalelfaaTD
import Derived.Test.YtdiclbejalelfaaProg
set_option linter.unusedVariables false
set_option linter.unusedSimpArgs false
set_option maxRecDepth 100000
namespace Go.Proofs.Ytdiclbejalelfaa
open Go.RowKit
open Rep (R)
def T : Tab := [none, some ⟨1, 8, [.nilFunc], .other⟩, some ⟨1, 8, [.int .i64 0], (.int .i64)⟩, some ⟨1, 8, [.int .i64 0], (.int .i64)⟩, some ⟨1, 1, [.bool false], .bool⟩, none, none, none, none, none, none, none, none, none, none, none, none, none, none, none, some ⟨1, 16, [.nilIface], .iface⟩, none, some ⟨1, 24, [.slice none 0 0], (.slice 33)⟩, some ⟨1, 24, [.slice none 0 0], (.slice 69)⟩, none, some ⟨3, 56, [.int .i64 0, .slice none 0 0, .slice none 0 0], (.struct [(0, 1, 3), (1, 1, 22), (2, 1, 23)])⟩, none, some ⟨1, 8, [.int .i64 0], (.int .i64)⟩, none, none, none, some ⟨1, 24, [.slice none 0 0], (.slice 35)⟩, none, some ⟨2, 32, [.int .i64 0, .slice none 0 0], (.struct [(0, 1, 3), (1, 1, 31)])⟩, none, some ⟨3, 24, [.int .i64 0, .int .i64 0, .bool false], (.struct [(0, 1, 3), (1, 1, 3), (2, 1, 4)])⟩, none, some ⟨1, 24, [.slice none 0 0], (.slice 47)⟩, none, none, none, some ⟨2, 16, [.int .i64 0, .int .i64 0], (.arr 2 3)⟩, none, none, some ⟨1, 24, [.slice none 0 0], (.slice 41)⟩, none, none, some ⟨1, 24, [.slice none 0 0], (.slice 3)⟩, none, none, none, none, none, none, none, none, none, none, none, none, none, some ⟨2, 16, [.int .i64 0, .int .i64 0], (.arr 2 3)⟩, some ⟨1, 24, [.slice none 0 0], (.slice 61)⟩, none, none, none, none, none, none, some ⟨2, 16, [.int .i64 0, .int .i64 0], (.struct [(0, 1, 3), (1, 1, 3)])⟩, none, some ⟨1, 8, [.nilFunc], .other⟩, none, none, none, none, none, none, some ⟨1, 8, [.map none], (.map 3 3)⟩, none, none, some ⟨1, 8, [.pointer none], .ptr⟩, none, some ⟨1, 24, [.slice none 0 0], (.slice 88)⟩, none, some ⟨1, 16, [.nilIface], .iface⟩, none, none, some ⟨3, 24, [.int .i64 0, .int .i64 0, .int .i64 0], (.struct [(0, 2, 61), (2, 1, 3)])⟩, some ⟨1, 8, [.map none], (.map 3 4)⟩, none, none, some ⟨1, 24, [.slice none 0 0], (.slice 94)⟩, none, some ⟨4, 32, [.int .i64 0, .int .i64 0, .int .i64 0, .int .i64 0], (.struct [(0, 1, 3), (1, 1, 3), (2, 1, 3), (3, 1, 3)])⟩, none, none, none, none, none, none, none, none, none, none, none, some ⟨1, 8, [.nilFunc], .other⟩, none, none, none, none, none, none, none, some ⟨1, 8, [.nilFunc], .other⟩, none, none, none, none, some ⟨4, 32, [.int .i64 0, .int .i64 0, .int .i64 0, .int .i64 0], (.struct [(0, 4, 94)])⟩, none, none, none, none, some ⟨1, 16, [.nilIface], .iface⟩]
theorem tab_eq : tabAt Try.prog [none, some 1, some 2, some 3, some 4, none, none, none, none, none, none, none, none, none, none, none, none, none, none, none, some 20, none, some 22, some 23, none, some 25, none, some 27, none, none, none, some 31, none, some 33, none, some 35, none, some 37, none, none, none, some 41, none, none, some 44, none, none, some 47, none, none, none, none, none, none, none, none, none, none, none, none, none, some 61, some 62, none, none, none, none, none, none, some 69, none, some 71, none, none, none, none, none, none, some 78, none, none, some 81, none, some 83, none, some 85, none, none, some 88, some 89, none, none, some 92, none, some 94, none, none, none, none, none, none, none, none, none, none, none, some 106, none, none, none, none, none, none, none, some 114, none, none, none, none, some 119, none, none, none, none, some 124] = T := by kernel_rfl
theorem tabOk : TOk Try.prog T := by
  rw [← tab_eq]
  exact ti_tabAt _ _ (fun i t h => by have := idxOk_of (m := 0) (by rfl) i t h; omega)
def sts : List Nat := [94, 119]
theorem stsAll : (sts.all fun t => !(Try.prog.stoodInHeld t)) = true := by kernel_rfl
theorem mixed : Try.prog.follows .mixedOrders = true := by kernel_rfl
theorem stsOk : ∀ t ∈ sts, Try.prog.stoodInHeld t = false := fun t h => by have := List.all_eq_true.1 stsAll t h; simpa using this
theorem gt41 : Try.prog.eqGuardType Try.prog.depth 41 = false := by kernel_rfl
theorem gt61 : Try.prog.eqGuardType Try.prog.depth 61 = false := by kernel_rfl
theorem gt94 : Try.prog.eqGuardType Try.prog.depth 94 = false := by kernel_rfl
theorem gt119 : Try.prog.eqGuardType Try.prog.depth 119 = false := by kernel_rfl
theorem vmth_119_rank : ∀ w cs, (method (Try.prog.types.size + Made.depth) 119 (.agg cs) "footway/vec.rank").run Try.prog w = .ok (86, .agg cs) w := by
  intro w cs; kernel_rfl
theorem mth_81_Len : ∀ w b off, (method (Try.prog.types.size + Made.depth) 81 (.pointer (some ⟨b, off, none⟩)) "Len").run Try.prog w = (do let v ← loadVar 83 ⟨b, off, none⟩; pure (81, v) : Sem (FuncId × Value)).run Try.prog w := by
  intro w b off; kernel_rfl
theorem mth_81_Less : ∀ w b off, (method (Try.prog.types.size + Made.depth) 81 (.pointer (some ⟨b, off, none⟩)) "Less").run Try.prog w = (do let v ← loadVar 83 ⟨b, off, none⟩; pure (82, v) : Sem (FuncId × Value)).run Try.prog w := by
  intro w b off; kernel_rfl
theorem mth_81_Pop : ∀ w b off, (method (Try.prog.types.size + Made.depth) 81 (.pointer (some ⟨b, off, none⟩)) "Pop").run Try.prog w = .ok (83, .pointer (some ⟨b, off, none⟩)) w := by
  intro w b off; kernel_rfl
theorem mth_81_Push : ∀ w b off, (method (Try.prog.types.size + Made.depth) 81 (.pointer (some ⟨b, off, none⟩)) "Push").run Try.prog w = .ok (84, .pointer (some ⟨b, off, none⟩)) w := by
  intro w b off; kernel_rfl
theorem mth_81_Swap : ∀ w b off, (method (Try.prog.types.size + Made.depth) 81 (.pointer (some ⟨b, off, none⟩)) "Swap").run Try.prog w = (do let v ← loadVar 83 ⟨b, off, none⟩; pure (85, v) : Sem (FuncId × Value)).run Try.prog w := by
  intro w b off; kernel_rfl
theorem slices_DeleteFunc_enters : Enters Try.prog 24 := ⟨_, Try.func24, rfl, rfl⟩
theorem container_heap_Push_enters : Enters Try.prog 36 := ⟨_, Try.func36, rfl, rfl⟩
theorem container_heap_Pop_enters : Enters Try.prog 37 := ⟨_, Try.func37, rfl, rfl⟩
theorem container_heap_up_enters : Enters Try.prog 53 := ⟨_, Try.func53, rfl, rfl⟩
theorem container_heap_down_enters : Enters Try.prog 54 := ⟨_, Try.func54, rfl, rfl⟩
theorem tree_ways_Len_enters : Enters Try.prog 81 := ⟨_, Try.func81, rfl, rfl⟩
theorem tree_ways_Less_enters : Enters Try.prog 82 := ⟨_, Try.func82, rfl, rfl⟩
theorem tree_ways_Pop_enters : Enters Try.prog 83 := ⟨_, Try.func83, rfl, rfl⟩
theorem tree_ways_Push_enters : Enters Try.prog 84 := ⟨_, Try.func84, rfl, rfl⟩
theorem tree_ways_Swap_enters : Enters Try.prog 85 := ⟨_, Try.func85, rfl, rfl⟩
theorem law16_few_enters : Enters Try.prog 6 := ⟨_, Try.func6, rfl, rfl⟩
set_option maxHeartbeats 4000000 in
theorem law16_few_ok {k : Nat} {p0 : Lan} {r : Lan} (H : law16_few k p0 = some r) {G : Ghost} {w : World} (hG : Holds G w) {v0 : Value} (h0 : R G p0 v0) : Ret Try.prog 6 [v0] w G (fun G v => R G r v) := by
  obtain ⟨v7, v8, rfl, h3, h6⟩ := h0
  obtain ⟨A1, c2, rfl, h3⟩ := Sl.open h3
  obtain ⟨A4, c5, rfl, h6⟩ := Sl.open h6
  unfold law16_few at H
  refine start Try.func6 rfl Try.ntmps6 rfl hG (E.seq (E.region (EL.run tabOk 2 rfl (EL.nil (EX.seq (E.seq (E.region (EL.run tabOk 1 rfl (EL.nil (EX.seq (E.seq (E.seq (E.region (EL.run tabOk 6 rfl ?_))))))))))))))
  obtain ⟨l9, hy10, H⟩ := bind_some H
  refine EL.slice hy10 h3 tabOk rfl rfl rfl rfl rfl rfl rfl rfl rfl (fun A11 c12 h13 => ?_)
  refine EL.run tabOk 2 rfl (EL.nil (EX.seq (E.nilRow 3 33 2 rfl (E.join (fun env L Γ => ∃ (l14 : (List Plan)) (es15 : List Value), env = [(1, some (.p 0 0)), (2, some (.p 1 0)), (3, some (.row 2))] ∧ L = [.box 25 [.v (.int .i64 p0.Segs), .v (.slice A1 p0.Plans.length c2), .v (.slice A4 p0.Hosts.length c5)], .box 25 [.v (.int .i64 0), .v (.slice none 0 0), .v (.slice none 0 0)], .row 33 2 l14.length es15] ∧ GLe G Γ ∧ Els Γ l14 es15 ∧ law16_few_j1 k p0 l14 = some r) ?_ (fun hj17 => ?_)))))
  · skip
    rintro _ _ G19 ⟨l14, es15, rfl, rfl, hle18, h16, H⟩
    unfold law16_few_j1 at H
    have h3 := Rep.mono hle18 h3; have h6 := Rep.mono hle18 h6
    refine EX.seq (E.seq ?_)
    obtain ⟨l20, hy21, H⟩ := bind_some H
    refine E.fewer (env' := [(1, some (.p 0 0)), (2, some (.p 1 0)), (3, some (.row 2))]) (L' := [.box 25 [.v (.int .i64 p0.Segs), .v (.slice A1 p0.Plans.length c2), .v (.slice A4 p0.Hosts.length c5)], .box 25 [.v (.int .i64 0), .v (.slice none 0 0), .v (.slice none 0 0)], .row 33 2 l14.length es15]) (E.sub' ((E.draw mixed (fun (bs : List Bool) (env : Env) (L : List Ent) (Γ : Ghost) => match bs with | [b0', b1', b2', b3', b4', b5', b6', b7', b8', b9', b10', b11'] => ∃ (A22 : Option Addr) (c23 : Nat), env = [(31, bif b0' then some (.row 2) else none), (32, bif b1' then some (.p 0 2) else none), (33, bif b2' then some (.v (.slice A4 p0.Hosts.length c5)) else none), (34, bif b3' then some (.p 0 2) else none), (35, bif b4' then some (.v (.slice A4 p0.Hosts.length c5)) else none), (36, bif b5' then some (.v (.int .i64 (p0.Hosts.length : Int))) else none), (37, bif b6' then some (.v (.int .i64 (if 12 < (p0.Hosts.length : Int) then 12 else (p0.Hosts.length : Int)))) else none), (38, bif b7' then some (.v (.slice A22 l20.length c23)) else none), (39, bif b8' then some (.p 0 1) else none), (40, bif b10' then some (.p 0 2) else none), (1, some (.p 0 0)), (2, some (.p 1 0)), (3, some (.row 2))] ∧ L = [(bif b11' then .box 25 [.v (.int .i64 p0.Segs), .row 2, .v (.slice A22 l20.length c23)] else bif b9' then .box 25 [.v (.int .i64 p0.Segs), .row 2, .v (.slice A4 p0.Hosts.length c5)] else .box 25 [.v (.int .i64 p0.Segs), .v (.slice A1 p0.Plans.length c2), .v (.slice A4 p0.Hosts.length c5)]), .box 25 [.v (.int .i64 0), .v (.slice none 0 0), .v (.slice none 0 0)], .row 33 2 l14.length es15] ∧ GLe G19 Γ ∧ (b7' = true → R Γ l20 (.slice A22 l20.length c23)) | _ => False) ⟨none, 0, rfl, rfl, GLe.refl _, (fun h => nomatch h)⟩ rfl ?_ ?_)) ⟨rfl, rfl, rfl, rfl, rfl, rfl, rfl, rfl, rfl, rfl, rfl, rfl, rfl, trivial⟩) ⟨⟨_, rfl, rfl⟩, ⟨_, rfl, rfl⟩, ⟨_, rfl, rfl⟩, trivial⟩ ⟨.inr rfl, .inr rfl, .inr rfl, trivial⟩ rfl rfl
    · refine ⟨?_, ?_, ?_, ?_, ?_, ?_, ?_, ?_, ?_, ?_, ?_, ?_, trivial⟩
      · intro b0' b1' b2' b3' b4' b5' b6' b7' b8' b9' b10' b11'
        rintro ⟨⟩ ⟨⟩ ⟨⟩ ⟨⟩ ⟨⟩
        rintro _ _ G26 ⟨A22, c23, rfl, rfl, hle25, fh24⟩ K hK
        exact EL.step tabOk rfl (EL.nil (EX.sub' (hK _ _ _ ⟨A22, c23, rfl, rfl, hle25, fh24⟩) ⟨rfl, rfl, rfl, rfl, rfl, rfl, rfl, rfl, rfl, rfl, rfl, rfl, rfl, trivial⟩))
      · intro b0' b1' b2' b3' b4' b5' b6' b7' b8' b9' b10' b11'
        rintro ⟨⟩ ⟨⟩ ⟨⟩ ⟨⟩ ⟨⟩ ⟨⟩
        rintro _ _ G28 ⟨A22, c23, rfl, rfl, hle27, fh24⟩ K hK
        have h3 := Rep.mono hle27 h3
        have h6 := Rep.mono hle27 h6
        exact EL.step tabOk rfl (EL.nil (EX.sub' (hK _ _ _ ⟨A22, c23, rfl, rfl, hle27, fh24⟩) ⟨rfl, rfl, rfl, rfl, rfl, rfl, rfl, rfl, rfl, rfl, rfl, rfl, rfl, trivial⟩))
      · intro b0' b1' b2' b3' b4' b5' b6' b7' b8' b9' b10' b11'
        rintro ⟨⟩ ⟨⟩ ⟨⟩ ⟨⟩ ⟨⟩ ⟨⟩ ⟨⟩
        rintro _ _ G30 ⟨A22, c23, rfl, rfl, hle29, fh24⟩ K hK
        have h3 := Rep.mono hle29 h3
        have h6 := Rep.mono hle29 h6
        exact EL.step tabOk rfl (EL.nil (EX.sub' (hK _ _ _ ⟨A22, c23, rfl, rfl, hle29, fh24⟩) ⟨rfl, rfl, rfl, rfl, rfl, rfl, rfl, rfl, rfl, rfl, rfl, rfl, rfl, trivial⟩))
      · intro b0' b1' b2' b3' b4' b5' b6' b7' b8' b9' b10' b11'
        rintro ⟨⟩ ⟨⟩ ⟨⟩ ⟨⟩ ⟨⟩ ⟨⟩
        rintro _ _ G32 ⟨A22, c23, rfl, rfl, hle31, fh24⟩ K hK
        have h3 := Rep.mono hle31 h3
        have h6 := Rep.mono hle31 h6
        exact EL.step tabOk rfl (EL.nil (EX.sub' (hK _ _ _ ⟨A22, c23, rfl, rfl, hle31, fh24⟩) ⟨rfl, rfl, rfl, rfl, rfl, rfl, rfl, rfl, rfl, rfl, rfl, rfl, rfl, trivial⟩))
      · intro b0' b1' b2' b3' b4' b5' b6' b7' b8' b9' b10' b11'
        rintro ⟨⟩ ⟨⟩ ⟨⟩ ⟨⟩ ⟨⟩ ⟨⟩ ⟨⟩
        rintro _ _ G34 ⟨A22, c23, rfl, rfl, hle33, fh24⟩ K hK
        have h3 := Rep.mono hle33 h3
        have h6 := Rep.mono hle33 h6
        exact EL.step tabOk rfl (EL.nil (EX.sub' (hK _ _ _ ⟨A22, c23, rfl, rfl, hle33, fh24⟩) ⟨rfl, rfl, rfl, rfl, rfl, rfl, rfl, rfl, rfl, rfl, rfl, rfl, rfl, trivial⟩))
      · intro b0' b1' b2' b3' b4' b5' b6' b7' b8' b9' b10' b11'
        rintro ⟨⟩ ⟨⟩ ⟨⟩ ⟨⟩ ⟨⟩
        rintro _ _ G36 ⟨A22, c23, rfl, rfl, hle35, fh24⟩ K hK
        have h6 := Rep.mono hle35 h6
        exact EL.step tabOk rfl (EL.nil (EX.sub' (hK _ _ _ ⟨A22, c23, rfl, rfl, hle35, fh24⟩) ⟨rfl, rfl, rfl, rfl, rfl, rfl, rfl, rfl, rfl, rfl, rfl, rfl, rfl, trivial⟩))
      · intro b0' b1' b2' b3' b4' b5' b6' b7' b8' b9' b10' b11'
        rintro ⟨⟩ ⟨⟩ ⟨⟩ ⟨⟩ ⟨⟩
        rintro _ _ G38 ⟨A22, c23, rfl, rfl, hle37, fh24⟩ K hK
        exact EL.step tabOk rfl (EL.nil (EX.sub' (hK _ _ _ ⟨A22, c23, rfl, rfl, hle37, fh24⟩) ⟨rfl, rfl, rfl, rfl, rfl, rfl, rfl, rfl, rfl, rfl, rfl, rfl, rfl, trivial⟩))
      · intro b0' b1' b2' b3' b4' b5' b6' b7' b8' b9' b10' b11'
        rintro ⟨⟩ ⟨⟩ ⟨⟩ ⟨⟩ ⟨⟩
        rintro _ _ G40 ⟨A22, c23, rfl, rfl, hle39, fh24⟩ K hK
        have h6 := Rep.mono hle39 h6
        refine EL.slice hy21 h6 tabOk rfl rfl rfl rfl rfl rfl rfl rfl rfl (fun A41 c42 h43 => ?_)
        exact EL.nil (EX.sub' (hK _ _ _ ⟨A41, c42, rfl, rfl, hle39, (fun _ => h43)⟩) ⟨rfl, rfl, rfl, rfl, rfl, rfl, rfl, rfl, rfl, rfl, rfl, rfl, rfl, trivial⟩)
      · intro b0' b1' b2' b3' b4' b5' b6' b7' b8' b9' b10' b11'
        rintro ⟨⟩ ⟨⟩ ⟨⟩ ⟨⟩ ⟨⟩ ⟨⟩ ⟨⟩ ⟨⟩ ⟨⟩
        rintro _ _ G45 ⟨A22, c23, rfl, rfl, hle44, fh24⟩ K hK
        have h3 := Rep.mono hle44 h3
        have h6 := Rep.mono hle44 h6
        exact EL.step tabOk rfl (EL.nil (EX.sub' (hK _ _ _ ⟨A22, c23, rfl, rfl, hle44, fh24⟩) ⟨rfl, rfl, rfl, rfl, rfl, rfl, rfl, rfl, rfl, rfl, rfl, rfl, rfl, trivial⟩))
      · intro b0' b1' b2' b3' b4' b5' b6' b7' b8' b9' b10' b11'
        rintro ⟨⟩ ⟨⟩ ⟨⟩ ⟨⟩ ⟨⟩ ⟨⟩ ⟨⟩ ⟨⟩ ⟨⟩ ⟨⟩
        rintro _ _ G47 ⟨A22, c23, rfl, rfl, hle46, fh24⟩ K hK
        have h3 := Rep.mono hle46 h3
        have h6 := Rep.mono hle46 h6
        exact EL.step tabOk rfl (EL.nil (EX.sub' (hK _ _ _ ⟨A22, c23, rfl, rfl, hle46, fh24⟩) ⟨rfl, rfl, rfl, rfl, rfl, rfl, rfl, rfl, rfl, rfl, rfl, rfl, rfl, trivial⟩))
      · intro b0' b1' b2' b3' b4' b5' b6' b7' b8' b9' b10' b11'
        rintro ⟨⟩ ⟨⟩ ⟨⟩ ⟨⟩ ⟨⟩ ⟨⟩ ⟨⟩ ⟨⟩ ⟨⟩ ⟨⟩ ⟨⟩ ⟨⟩
        rintro _ _ G49 ⟨A22, c23, rfl, rfl, hle48, fh24⟩ K hK
        have h3 := Rep.mono hle48 h3
        have h6 := Rep.mono hle48 h6
        exact EL.step tabOk rfl (EL.nil (EX.sub' (hK _ _ _ ⟨A22, c23, rfl, rfl, hle48, fh24⟩) ⟨rfl, rfl, rfl, rfl, rfl, rfl, rfl, rfl, rfl, rfl, rfl, rfl, rfl, trivial⟩))
      · intro b0' b1' b2' b3' b4' b5' b6' b7' b8' b9' b10' b11'
        rintro ⟨⟩ ⟨⟩ ⟨⟩ ⟨⟩ ⟨⟩ ⟨⟩ ⟨⟩ ⟨⟩ ⟨⟩ ⟨⟩ ⟨⟩ ⟨⟩ ⟨⟩ ⟨⟩
        rintro _ _ G51 ⟨A22, c23, rfl, rfl, hle50, fh24⟩ K hK
        have h3 := Rep.mono hle50 h3
        have h6 := Rep.mono hle50 h6
        have h24 := fh24 rfl
        exact EL.step tabOk rfl (EL.nil (EX.sub' (hK _ _ _ ⟨A22, c23, rfl, rfl, hle50, fh24⟩) ⟨rfl, rfl, rfl, rfl, rfl, rfl, rfl, rfl, rfl, rfl, rfl, rfl, rfl, trivial⟩))
    rintro _ _ G53 ⟨A22, c23, rfl, rfl, hle52, fh24⟩
    have h24 := fh24 rfl
    have h16 := Els.mono h16 hle52
    refine EX.seq (E.seq (E.region (EL.run tabOk 2 rfl (EL.nil (EX.seq (E.ret (EX.pubRow (xs := l14) 2 rfl h16 rfl (fun k54 A55 c56 G59 hle57 h58 => ?_))))))))
    have h24 := Rep.mono hle57 h24
    exact EX.retE H tabOk rfl ⟨_, _, rfl, h58, h24⟩
  · skip
    refine E.block (E.fewer (E.loop (fun n env L Γ => ∃ (i60 : Int) (l61 : (List Plan)) (es62 : List Value), env = [(1, some (.p 0 0)), (2, some (.p 1 0)), (3, some (.row 2)), (12, some (.v (.slice A11 l9.length c12))), (13, some (.v (.int .i64 (l9.length : Int)))), (14, some (.v (.int .i64 i60)))] ∧ L = [.box 25 [.v (.int .i64 p0.Segs), .v (.slice A1 p0.Plans.length c2), .v (.slice A4 p0.Hosts.length c5)], .box 25 [.v (.int .i64 0), .v (.slice none 0 0), .v (.slice none 0 0)], .row 33 2 l61.length es62] ∧ GLe G Γ ∧ Els Γ l61 es62 ∧ loopN (fun _ _ => none) (law16_few_s2 k p0 l9) n i60 l61 = some r) k ⟨0, [], [], rfl, rfl, GLe.refl _, All2.nil, H⟩ ?_) ⟨⟨_, rfl, rfl⟩, ⟨_, rfl, rfl⟩, ⟨_, rfl, rfl⟩, ⟨_, rfl, rfl⟩, ⟨_, rfl, rfl⟩, ⟨_, rfl, rfl⟩, trivial⟩ ⟨.inr rfl, .inr rfl, .inr rfl, trivial⟩ rfl rfl)
    rintro n68 _ _ G66 ⟨i60, l61, es62, rfl, rfl, hle64, h63, H⟩ K hK67
    obtain _ | n68 := n68
    · exact none_ne H
    rw [loopN] at H; unfold law16_few_s2 at H
    have h13 := Rep.mono hle64 h13; have h3 := Rep.mono hle64 h3; have h6 := Rep.mono hle64 h6
    refine E.seq (E.region (EL.run tabOk 1 rfl (EL.nil (EX.seq (E.seq (E.cond rfl H (fun hb H => ?_) (fun hb H => ?_)))))))
    · skip
      refine E.skip (EX.seq (E.seq (E.block (E.seq (E.region ?_)))))
      obtain ⟨y69, hy70, H⟩ := bind_some H
      refine EL.index hy70 h13 tabOk rfl rfl rfl rfl rfl rfl rfl rfl (fun b71 o72 u73 hu74 hc75 => ?_)
      obtain ⟨v79, rfl, h78⟩ := hu74
      obtain ⟨A76, c77, rfl, h78⟩ := Sl.open h78
      refine EL.load hc75 tabOk rfl rfl rfl rfl rfl rfl (EL.run tabOk 2 rfl (EL.nil (EX.seq (E.seq (E.region (EL.run tabOk 6 rfl ?_))))))
      obtain ⟨l80, hy81, H⟩ := bind_some H
      refine EL.slice hy81 h78 tabOk rfl rfl rfl rfl rfl rfl rfl rfl rfl (fun A82 c83 h84 => ?_)
      refine EL.run tabOk 2 rfl (EL.nil (EX.seq (E.region (EL.run tabOk 3 rfl ?_))))
      obtain ⟨l85, hp86, H⟩ := bind_some H
      refine EL.push hp86 h63 (show R G66 (⟨y69.ID, l80⟩ : Plan) (.agg #[.int .i64 y69.ID, .slice A82 l80.length c83]) from ⟨_, rfl, h84⟩) tabOk rfl rfl rfl rfl rfl rfl rfl rfl rfl rfl rfl rfl rfl rfl rfl (fun k87 v88 es89 h90 => ?_)
      exact EL.run tabOk 1 rfl (EL.nil (EX.block (EX.seq (E.region (EL.run tabOk 2 rfl (EL.nil (EX.fewer (hK67 n68 _ _ _ (Nat.lt_succ_self _) ⟨wr (i60 + 1), l85, es89, rfl, rfl, hle64, h90, H⟩) ⟨⟨_, rfl, rfl⟩, ⟨_, rfl, rfl⟩, ⟨_, rfl, rfl⟩, ⟨_, rfl, rfl⟩, ⟨_, rfl, rfl⟩, ⟨_, rfl, rfl⟩, trivial⟩ ⟨.inr rfl, .inr rfl, .inr rfl, trivial⟩ rfl rfl)))))))
    · skip
      exact E.exit (EX.out (EX.out (EX.hit (EX.fewer (hj17 _ _ _ ⟨l61, es62, rfl, rfl, hle64, h63, H⟩) ⟨⟨_, rfl, rfl⟩, ⟨_, rfl, rfl⟩, ⟨_, rfl, rfl⟩, trivial⟩ ⟨.inr rfl, .inr rfl, .inr rfl, trivial⟩ rfl rfl))))
theorem lan_in_enters : Enters Try.prog 33 := ⟨_, Try.func33, rfl, rfl⟩
set_option maxHeartbeats 4000000 in
theorem lan_in_ok {k : Nat} {p0 : Int} {p1 : Int} {p2 : Int} {r : Bool} (H : lan_in k p0 p1 p2 = some r) {G : Ghost} {w : World} (hG : Holds G w)  : Ret Try.prog 33 [.int .i64 p0, .int .i64 p1, .int .i64 p2] w G (fun G v => R G r v) := by
  unfold lan_in at H
  exact start Try.func33 rfl Try.ntmps33 rfl hG (E.seq (E.region (EL.run tabOk 1 rfl (EL.nil (EX.seq (E.seq (E.region (EL.run tabOk 9 rfl (EL.nil (EX.seq (E.ret (EX.retE H tabOk rfl rfl))))))))))))
theorem mac_Right_enters : Enters Try.prog 52 := ⟨_, Try.func52, rfl, rfl⟩
set_option maxHeartbeats 4000000 in
theorem mac_Right_ok {k : Nat} {p0 : Int} {r : Bool} (H : mac_Right k p0 = some r) {G : Ghost} {w : World} (hG : Holds G w)  : Ret Try.prog 52 [.int .i64 p0] w G (fun G v => R G r v) := by
  unfold mac_Right at H
  exact start Try.func52 rfl Try.ntmps52 rfl hG (E.seq (E.region (EL.run tabOk 1 rfl (EL.nil (EX.seq (E.seq (E.region (EL.run tabOk 7 rfl (EL.nil (EX.seq (E.ret (EX.retE H tabOk rfl rfl))))))))))))
theorem mac_Class_enters : Enters Try.prog 35 := ⟨_, Try.func35, rfl, rfl⟩
set_option maxHeartbeats 4000000 in
theorem mac_Class_ok {k : Nat} {p0 : Int} {r : (Int × Int)} (H : mac_Class k p0 = some r) {G : Ghost} {w : World} (hG : Holds G w)  : Ret Try.prog 35 [.int .i64 p0] w G (fun G v => R2 G r v) := by
  unfold mac_Class at H
  refine start Try.func35 rfl Try.ntmps35 rfl hG (E.seq (E.region (EL.run tabOk 2 rfl (EL.nil (EX.seq (E.seq (E.block (E.seq (E.region (EL.run tabOk 1 rfl ?_))))))))))
  obtain ⟨x1, hx2, H⟩ := bind_some H
  refine EL.call rfl rfl rfl rfl mac_Right_enters (fun w hw => mac_Right_ok hx2 hw ) (fun v5 G4 hle3 hv6 => ?_)
  obtain rfl : _ = _ := hv6
  refine EL.run tabOk 2 rfl (EL.nil (EX.seq (E.cond rfl H (fun hb H => ?_) (fun hb H => ?_))))
  · skip
    exact E.seq (E.region (EL.run tabOk 2 rfl (EL.nil (EX.seq (E.ret (EX.retB (EX.retT (EX.retE H tabOk rfl ⟨_, _, rfl, rfl, rfl⟩))))))))
  · skip
    refine E.seq (E.region (EL.run tabOk 4 rfl (EL.nil (EX.seq (E.cond rfl H (fun hb H => ?_) (fun hb H => ?_))))))
    · skip
      exact E.seq (E.region (EL.run tabOk 2 rfl (EL.nil (EX.seq (E.ret (EX.retB (EX.retT (EX.retE H tabOk rfl ⟨_, _, rfl, rfl, rfl⟩))))))))
    · skip
      exact E.skip (EX.block (EX.seq (E.seq (E.region (EL.run tabOk 5 rfl (EL.nil (EX.seq (E.ret (EX.retE H tabOk rfl ⟨_, _, rfl, rfl, rfl⟩)))))))))
theorem lan_isPlan_1_enters : Enters Try.prog 50 := ⟨_, Try.func50, rfl, rfl⟩
set_option maxHeartbeats 4000000 in
theorem lan_isPlan_1_ok {k : Nat} {p0 : Link} {p1 : Int} {r : Bool} (H : lan_isPlan_1 k p0 p1 = some r) {G : Ghost} {w : World} (hG : Holds G w) {b1 : Nat} (hc1 : CellsAt G b1 0 (.agg #[.int .i64 p1])) : Ret Try.prog 50 [.agg #[.int .i64 p0.Seg, .int .i64 p0.Cost, .bool p0.Up], .pointer (some ⟨b1, 0, none⟩)] w G (fun G v => R G r v) := by
  unfold lan_isPlan_1 at H
  refine start Try.func50 rfl Try.ntmps50 rfl hG (E.seq (E.region (EL.run tabOk 2 rfl (EL.nil (EX.seq (E.seq (E.join (fun env L Γ => ∃ (b1 : Bool), env = [(3, some (.v (.bool b1)))] ∧ L = [.box 35 [.v (.int .i64 p0.Seg), .v (.int .i64 p0.Cost), .v (.bool p0.Up)]] ∧ GLe G Γ ∧ lan_isPlan_1_j1 k b1 = some r) ?_ (fun hj2 => ?_))))))))
  · skip
    rintro _ _ G4 ⟨b1, rfl, rfl, hle3, H⟩
    unfold lan_isPlan_1_j1 at H
    exact EX.seq (E.ret (EX.retE H tabOk rfl rfl))
  · skip
    refine E.region (EL.run tabOk 2 rfl (EL.load (CellsAt.fld (j := 0) hc1 rfl rfl) tabOk rfl rfl rfl rfl rfl rfl (EL.run tabOk 1 rfl ?_)))
    obtain ⟨x5, hx6, H⟩ := bind_some H
    refine EL.call rfl rfl rfl rfl lan_in_enters (fun w hw => lan_in_ok hx6 hw ) (fun v9 G8 hle7 hv10 => ?_)
    obtain rfl : _ = _ := hv10
    refine EL.run tabOk 2 rfl (EL.split (s := 10) rfl H (fun hb H => ?_) (fun hb H => ?_))
    · skip
      exact EL.run tabOk 6 rfl (EL.nil (EX.fewer (hj2 _ _ _ ⟨true, rfl, rfl, hle7, H⟩) ⟨⟨_, rfl, rfl⟩, trivial⟩ ⟨.inr rfl, trivial⟩ rfl rfl))
    · skip
      refine EL.run tabOk 2 rfl ?_
      obtain ⟨x11, hx12, H⟩ := bind_some H
      refine EL.call rfl rfl rfl rfl lan_in_enters (fun w hw => lan_in_ok hx12 hw ) (fun v15 G14 hle13 hv16 => ?_)
      obtain rfl : _ = _ := hv16
      exact EL.run tabOk 3 rfl (EL.nil (EX.fewer (hj2 _ _ _ ⟨!x11, rfl, rfl, (GLe.trans hle7 hle13), H⟩) ⟨⟨_, rfl, rfl⟩, trivial⟩ ⟨.inr rfl, trivial⟩ rfl rfl))
theorem slices_IndexFunc_enters : Enters Try.prog 60 := ⟨_, Try.func60, rfl, rfl⟩
set_option maxHeartbeats 4000000 in
theorem slices_IndexFunc_ok {k : Nat} {p0 : (List Link)} {p1 : (Link → Option Bool)} {r : Int} (H : slices_IndexFunc k p0 p1 = some r) {G : Ghost} {w : World} (hG : Holds G w) {v0 : Value} (h0 : R G p0 v0) {v1 : Value} (h1 : FnR Try.prog G p1 v1) : Ret Try.prog 60 [v0, v1] w G (fun G v => R G r v) := by
  obtain ⟨A5, c6, rfl, h7⟩ := Sl.open h0
  obtain ⟨g1, cp2, rfl, hen3, hsp4⟩ := h1
  unfold slices_IndexFunc at H
  refine start Try.func60 rfl Try.ntmps60 rfl hG (E.seq (E.region (EL.run tabOk 1 rfl (EL.nil (EX.seq (E.seq (E.seq (E.region (EL.run tabOk 3 rfl (EL.nil (EX.seq (E.join (fun env L Γ =>  env = [] ∧ L = [] ∧ GLe G Γ ∧ slices_IndexFunc_j1 k = some r) ?_ (fun hj8 => ?_)))))))))))))
  · skip
    rintro _ _ G10 ⟨rfl, rfl, hle9, H⟩
    unfold slices_IndexFunc_j1 at H
    exact EX.seq (E.seq (E.region (EL.run tabOk 1 rfl (EL.nil (EX.seq (E.ret (EX.retE H tabOk rfl rfl)))))))
  · skip
    refine E.block (E.fewer (E.loop (fun n env L Γ => ∃ (i11 : Int), env = [(0, some (.v (.slice A5 p0.length c6))), (1, some (.v (.func (.func g1) #[] cp2))), (7, some (.v (.int .i64 (p0.length : Int)))), (8, some (.v (.int .i64 i11)))] ∧ L = [] ∧ GLe G Γ ∧ loopN (fun _ => none) (slices_IndexFunc_s2 k p0 p1) n i11 = some r) k ⟨0, rfl, rfl, GLe.refl _, H⟩ ?_) ⟨⟨_, rfl, rfl⟩, ⟨_, rfl, rfl⟩, ⟨_, rfl, rfl⟩, ⟨_, rfl, rfl⟩, trivial⟩ trivial rfl rfl)
    rintro n16 _ _ G14 ⟨i11, rfl, rfl, hle12, H⟩ K hK15
    obtain _ | n16 := n16
    · exact none_ne H
    rw [loopN] at H; unfold slices_IndexFunc_s2 at H
    have h7 := Rep.mono hle12 h7
    refine E.seq (E.region (EL.run tabOk 1 rfl (EL.nil (EX.seq (E.seq (E.cond rfl H (fun hb H => ?_) (fun hb H => ?_)))))))
    · skip
      refine E.skip (EX.seq (E.seq (E.block (E.seq (E.region (EL.run tabOk 2 rfl (EL.nil (EX.seq (E.seq (E.region (EL.run tabOk 3 rfl ?_)))))))))))
      obtain ⟨y17, hy18, H⟩ := bind_some H
      refine EL.index hy18 h7 tabOk rfl rfl rfl rfl rfl rfl rfl rfl (fun b19 o20 u21 hu22 hc23 => ?_)
      obtain rfl : _ = _ := hu22
      refine EL.load hc23 tabOk rfl rfl rfl rfl rfl rfl ?_
      obtain ⟨x24, hx25, H⟩ := bind_some H
      refine EL.callV rfl rfl rfl rfl rfl hen3 (fun w hw => hsp4 _ _ hx25 _ hle12 _ rfl w hw) (fun v27 G29 hle26 hv28 => ?_)
      have h7 := Rep.mono hle26 h7
      obtain rfl : _ = _ := hv28
      refine EL.nil (EX.seq (E.cond rfl H (fun hb H => ?_) (fun hb H => ?_)))
      · skip
        exact E.seq (E.region (EL.run tabOk 2 rfl (EL.nil (EX.seq (E.ret (EX.retB (EX.retT (EX.retT (EX.retB (EX.retT (EX.retE H tabOk rfl rfl)))))))))))
      · skip
        exact E.skip (EX.block (EX.seq (E.region (EL.run tabOk 2 rfl (EL.nil (EX.fewer (hK15 n16 _ _ _ (Nat.lt_succ_self _) ⟨wr (i11 + 1), rfl, rfl, (GLe.trans hle12 hle26), H⟩) ⟨⟨_, rfl, rfl⟩, ⟨_, rfl, rfl⟩, ⟨_, rfl, rfl⟩, ⟨_, rfl, rfl⟩, trivial⟩ trivial rfl rfl))))))
    · skip
      exact E.exit (EX.out (EX.out (EX.hit (EX.fewer (hj8 _ _ _ ⟨rfl, rfl, hle12, H⟩) trivial trivial rfl rfl))))
theorem slices_ContainsFunc_enters : Enters Try.prog 51 := ⟨_, Try.func51, rfl, rfl⟩
set_option maxHeartbeats 4000000 in
theorem slices_ContainsFunc_ok {k : Nat} {p0 : (List Link)} {p1 : (Link → Option Bool)} {r : Bool} (H : slices_ContainsFunc k p0 p1 = some r) {G : Ghost} {w : World} (hG : Holds G w) {v0 : Value} (h0 : R G p0 v0) {v1 : Value} (h1 : FnR Try.prog G p1 v1) : Ret Try.prog 51 [v0, v1] w G (fun G v => R G r v) := by
  obtain ⟨A5, c6, rfl, h7⟩ := Sl.open h0
  obtain ⟨g1, cp2, rfl, hen3, hsp4⟩ := h1
  unfold slices_ContainsFunc at H
  refine start Try.func51 rfl Try.ntmps51 rfl hG (E.seq (E.region (EL.run tabOk 1 rfl (EL.nil (EX.seq (E.seq (E.region (EL.run tabOk 2 rfl ?_))))))))
  obtain ⟨x8, hx9, H⟩ := bind_some H
  refine EL.call rfl rfl rfl rfl slices_IndexFunc_enters (fun w hw => slices_IndexFunc_ok hx9 hw h7 (FnR.mono (GLe.refl _) ⟨_, _, rfl, hen3, hsp4⟩)) (fun v12 G11 hle10 hv13 => ?_)
  obtain rfl : _ = _ := hv13
  exact EL.run tabOk 2 rfl (EL.nil (EX.seq (E.ret (EX.retE H tabOk rfl rfl))))
theorem lan_isPlan_enters : Enters Try.prog 34 := ⟨_, Try.func34, rfl, rfl⟩
set_option maxHeartbeats 4000000 in
theorem lan_isPlan_ok {k : Nat} {p0 : Plan} {p1 : Int} {r : Bool} (H : lan_isPlan k p0 p1 = some r) {G : Ghost} {w : World} (hG : Holds G w) {v0 : Value} (h0 : R G p0 v0) : Ret Try.prog 34 [v0, .int .i64 p1] w G (fun G v => R G r v) := by
  obtain ⟨v4, rfl, h3⟩ := h0
  obtain ⟨A1, c2, rfl, h3⟩ := Sl.open h3
  unfold lan_isPlan at H
  refine start Try.func34 rfl Try.ntmps34 rfl hG (E.seq (E.region (EL.run tabOk 3 rfl (EL.nil (EX.seq (E.seq (E.region (EL.pubBox 1 rfl rfl rfl (fun k5 u6 G9 hle7 hc8 => ?_)))))))))
  have h3 := Rep.mono hle7 h3
  have hf11 : FnR Try.prog G9 (fun (x10 : Link) => lan_isPlan_1 k x10 p1) (.func (.func 50) #[] #[.pointer (some ⟨k5, 0, none⟩)]) := ⟨50, _, rfl, lan_isPlan_1_enters, fun x0' y hf G' hle' u0 hu0 w hw => by obtain rfl : _ = _ := hu0; exact lan_isPlan_1_ok hf hw (CellsAt.mono hle' hc8)⟩
  refine EL.run tabOk 1 rfl (EL.run tabOk 1 rfl (EL.nil (EX.seq (E.seq (E.join (fun env L Γ => ∃ (b12 : Bool), env = [(4, some (.v (.bool b12)))] ∧ L = [.box 33 [.v (.int .i64 p0.ID), .v (.slice A1 p0.Ports.length c2)], .gone] ∧ GLe G9 Γ ∧ lan_isPlan_j1 k b12 = some r) ?_ (fun hj13 => ?_))))))
  · skip
    rintro _ _ G15 ⟨b12, rfl, rfl, hle14, H⟩
    unfold lan_isPlan_j1 at H
    have h3 := Rep.mono hle14 h3
    exact EX.seq (E.ret (EX.retE H tabOk rfl rfl))
  · skip
    refine E.region (EL.run tabOk 2 rfl ?_)
    obtain ⟨x16, hx17, H⟩ := bind_some H
    refine EL.call rfl rfl rfl rfl lan_in_enters (fun w hw => lan_in_ok hx17 hw ) (fun v20 G19 hle18 hv21 => ?_)
    have hf11 := FnR.mono hle18 hf11; have hc8 := CellsAt.mono hle18 hc8; have h3 := Rep.mono hle18 h3
    obtain rfl : _ = _ := hv21
    refine EL.run tabOk 1 rfl (EL.split (s := 10) rfl H (fun hb H => ?_) (fun hb H => ?_))
    · skip
      refine EL.run tabOk 3 rfl ?_
      obtain ⟨x22, hx23, H⟩ := bind_some H
      refine EL.call rfl rfl rfl rfl lan_in_enters (fun w hw => lan_in_ok hx23 hw ) (fun v26 G25 hle24 hv27 => ?_)
      have hf11 := FnR.mono hle24 hf11; have hc8 := CellsAt.mono hle24 hc8; have h3 := Rep.mono hle24 h3
      obtain rfl : _ = _ := hv27
      refine EL.run tabOk 2 rfl (EL.split (s := 16) rfl H (fun hb H => ?_) (fun hb H => ?_))
      · skip
        refine EL.run tabOk 3 rfl ?_
        obtain ⟨x28, hx29, H⟩ := bind_some H
        refine EL.call rfl rfl rfl rfl slices_ContainsFunc_enters (fun w hw => slices_ContainsFunc_ok hx29 hw h3 hf11) (fun v32 G31 hle30 hv33 => ?_)
        have h3 := Rep.mono hle30 h3
        obtain rfl : _ = _ := hv33
        exact EL.run tabOk 3 rfl (EL.nil (EX.fewer (hj13 _ _ _ ⟨!x28, rfl, rfl, (GLe.trans (GLe.trans hle18 hle24) hle30), H⟩) ⟨⟨_, rfl, rfl⟩, trivial⟩ ⟨.inr rfl, .inr rfl, trivial⟩ rfl rfl))
      · skip
        exact EL.run tabOk 7 rfl (EL.nil (EX.fewer (hj13 _ _ _ ⟨false, rfl, rfl, (GLe.trans hle18 hle24), H⟩) ⟨⟨_, rfl, rfl⟩, trivial⟩ ⟨.inr rfl, .inr rfl, trivial⟩ rfl rfl))
    · skip
      exact EL.run tabOk 13 rfl (EL.nil (EX.fewer (hj13 _ _ _ ⟨false, rfl, rfl, hle18, H⟩) ⟨⟨_, rfl, rfl⟩, trivial⟩ ⟨.inr rfl, .inr rfl, trivial⟩ rfl rfl))
theorem lan_Right_enters : Enters Try.prog 19 := ⟨_, Try.func19, rfl, rfl⟩
set_option maxHeartbeats 4000000 in
theorem lan_Right_ok {k : Nat} {p0 : Lan} {r : Bool} (H : lan_Right k p0 = some r) {G : Ghost} {w : World} (hG : Holds G w) {v0 : Value} (h0 : R G p0 v0) : Ret Try.prog 19 [v0] w G (fun G v => R G r v) := by
  obtain ⟨v7, v8, rfl, h3, h6⟩ := h0
  obtain ⟨A1, c2, rfl, h3⟩ := Sl.open h3
  obtain ⟨A4, c5, rfl, h6⟩ := Sl.open h6
  unfold lan_Right at H
  refine start Try.func19 rfl Try.ntmps19 rfl hG (E.seq (E.region (EL.run tabOk 2 rfl (EL.nil (EX.seq (E.seq (E.seq (E.join (fun env L Γ => ∃ (b9 : Bool), env = [(1, some (.p 0 0)), (26, some (.v (.bool b9)))] ∧ L = [.box 25 [.v (.int .i64 p0.Segs), .v (.slice A1 p0.Plans.length c2), .v (.slice A4 p0.Hosts.length c5)]] ∧ GLe G Γ ∧ lan_Right_j7 k p0 b9 = some r) ?_ (fun hj10 => ?_)))))))))
  · skip
    rintro _ _ G12 ⟨b9, rfl, rfl, hle11, H⟩
    unfold lan_Right_j7 at H
    have h3 := Rep.mono hle11 h3; have h6 := Rep.mono hle11 h6
    refine EX.seq (E.cond rfl H (fun hb H => ?_) (fun hb H => ?_))
    · skip
      exact E.seq (E.region (EL.run tabOk 1 rfl (EL.nil (EX.seq (E.ret (EX.retT (EX.retE H tabOk rfl rfl)))))))
    · skip
      refine E.skip (EX.seq (E.seq (E.region (EL.makeMap rfl rfl rfl (EL.makeMap rfl rfl rfl (EL.run tabOk 2 rfl (EL.nil (EX.seq (E.seq (E.seq (E.region (EL.run tabOk 4 rfl (EL.nil (EX.seq (E.join (fun env L Γ => ∃ (m13 : (List (Int × Int))), env = [(1, some (.p 0 0)), (4, some (.mp 2))] ∧ L = [.box 25 [.v (.int .i64 p0.Segs), .v (.slice A1 p0.Plans.length c2), .v (.slice A4 p0.Hosts.length c5)], .mp (mE (Value.int .i64) m13), .mp (mE (Value.int .i64) ([]))] ∧ GLe G12 Γ ∧ lan_Right_j4 k p0 m13 = some r) ?_ (fun hj14 => ?_))))))))))))))))
      · skip
        rintro _ _ G16 ⟨m13, rfl, rfl, hle15, H⟩
        unfold lan_Right_j4 at H
        have h3 := Rep.mono hle15 h3; have h6 := Rep.mono hle15 h6
        refine EX.seq (E.seq (E.seq (E.region (EL.run tabOk 4 rfl (EL.nil (EX.seq (E.join (fun env L Γ => ∃ (m17 : (List (Int × Int))), env = [] ∧ L = [.box 25 [.v (.int .i64 p0.Segs), .v (.slice A1 p0.Plans.length c2), .v (.slice A4 p0.Hosts.length c5)], .mp (mE (Value.int .i64) m13), .mp (mE (Value.int .i64) m17)] ∧ GLe G16 Γ ∧ lan_Right_j1 k m17 = some r) ?_ (fun hj18 => ?_))))))))
        · skip
          rintro _ _ G20 ⟨m17, rfl, rfl, hle19, H⟩
          unfold lan_Right_j1 at H
          have h3 := Rep.mono hle19 h3; have h6 := Rep.mono hle19 h6
          exact EX.seq (E.seq (E.region (EL.run tabOk 1 rfl (EL.nil (EX.seq (E.ret (EX.retE H tabOk rfl rfl)))))))
        · skip
          refine E.block (E.fewer (E.loop (fun n env L Γ => ∃ (i21 : Int) (m22 : (List (Int × Int))), env = [(1, some (.p 0 0)), (4, some (.mp 2)), (55, some (.v (.slice A4 p0.Hosts.length c5))), (56, some (.v (.int .i64 (p0.Hosts.length : Int)))), (57, some (.v (.int .i64 i21)))] ∧ L = [.box 25 [.v (.int .i64 p0.Segs), .v (.slice A1 p0.Plans.length c2), .v (.slice A4 p0.Hosts.length c5)], .mp (mE (Value.int .i64) m13), .mp (mE (Value.int .i64) m22)] ∧ GLe G16 Γ ∧ loopN (fun _ _ => none) (lan_Right_s3 k p0) n i21 m22 = some r) k ⟨0, [], rfl, rfl, GLe.refl _, H⟩ ?_) ⟨⟨_, rfl, rfl⟩, ⟨_, rfl, rfl⟩, ⟨_, rfl, rfl⟩, ⟨_, rfl, rfl⟩, ⟨_, rfl, rfl⟩, trivial⟩ ⟨.inr rfl, .inr rfl, .inr rfl, trivial⟩ rfl rfl)
          rintro n27 _ _ G25 ⟨i21, m22, rfl, rfl, hle23, H⟩ K hK26
          obtain _ | n27 := n27
          · exact none_ne H
          rw [loopN] at H; unfold lan_Right_s3 at H
          have h6 := Rep.mono hle23 h6; have h3 := Rep.mono hle23 h3
          refine E.seq (E.region (EL.run tabOk 1 rfl (EL.nil (EX.seq (E.seq (E.cond rfl H (fun hb H => ?_) (fun hb H => ?_)))))))
          · skip
            refine E.skip (EX.seq (E.seq (E.block (E.seq (E.region ?_)))))
            obtain ⟨y28, hy29, H⟩ := bind_some H
            refine EL.index hy29 h6 tabOk rfl rfl rfl rfl rfl rfl rfl rfl (fun b30 o31 u32 hu33 hc34 => ?_)
            obtain rfl : _ = _ := hu33
            refine EL.load hc34 tabOk rfl rfl rfl rfl rfl rfl (EL.run tabOk 2 rfl (EL.nil (EX.seq (E.seq (E.region (EL.run tabOk 2 rfl ?_))))))
            obtain ⟨x35, hx36, H⟩ := bind_some H
            refine EL.call rfl rfl rfl rfl mac_Class_enters (fun w hw => mac_Class_ok hx36 hw ) (fun v39 G38 hle37 hv40 => ?_)
            have h6 := Rep.mono hle37 h6; have h3 := Rep.mono hle37 h3
            obtain ⟨u41, u42, rfl, h43, h44⟩ := hv40
            obtain rfl : _ = _ := h43
            obtain rfl : _ = _ := h44
            refine EL.run tabOk 5 rfl (EL.nil (EX.seq (E.seq (E.region (EL.run tabOk 3 rfl (EL.lookup (enc := (Value.int .i64)) (m := m22) (z0 := 0) tabOk rfl rfl rfl rfl rfl rfl rfl rfl (fun _ => rfl) (EL.run tabOk 1 rfl (EL.mapUpdate (enc := (Value.int .i64)) (m := m22) (u := (wr (((mget m22 y28.Mac).getD 0) + 1))) tabOk rfl rfl rfl rfl rfl rfl rfl rfl rfl rfl (EL.nil (EX.seq (E.seq (E.join (fun env L Γ => ∃ (b45 : Bool), env = [(1, some (.p 0 0)), (4, some (.mp 2)), (55, some (.v (.slice A4 p0.Hosts.length c5))), (56, some (.v (.int .i64 (p0.Hosts.length : Int)))), (57, some (.v (.int .i64 i21))), (93, some (.v (.bool b45)))] ∧ L = [.box 25 [.v (.int .i64 p0.Segs), .v (.slice A1 p0.Plans.length c2), .v (.slice A4 p0.Hosts.length c5)], .mp (mE (Value.int .i64) m13), .mp (mE (Value.int .i64) (mset m22 y28.Mac (wr (((mget m22 y28.Mac).getD 0) + 1)))), .box 69 [.v (.int .i64 y28.Mac), .v (.int .i64 y28.Seg)]] ∧ GLe G38 Γ ∧ lan_Right_j2 k i21 m22 (loopN (fun _ _ => none) (lan_Right_s3 k p0) n27) y28 b45 = some r) ?_ (fun hj46 => ?_)))))))))))))
            · skip
              rintro _ _ G48 ⟨b45, rfl, rfl, hle47, H⟩
              unfold lan_Right_j2 at H
              have h6 := Rep.mono hle47 h6; have h3 := Rep.mono hle47 h3
              refine EX.seq (E.cond rfl H (fun hb H => ?_) (fun hb H => ?_))
              · skip
                exact E.seq (E.region (EL.run tabOk 1 rfl (EL.nil (EX.seq (E.ret (EX.retB (EX.retT (EX.retT (EX.retB (EX.retT (EX.retE H tabOk rfl rfl)))))))))))
              · skip
                exact E.skip (EX.block (EX.seq (E.region (EL.run tabOk 2 rfl (EL.nil (EX.fewer (hK26 n27 _ _ _ (Nat.lt_succ_self _) ⟨wr (i21 + 1), mset m22 y28.Mac (wr (((mget m22 y28.Mac).getD 0) + 1)), rfl, rfl, (GLe.trans (GLe.trans hle23 hle37) hle47), H⟩) ⟨⟨_, rfl, rfl⟩, ⟨_, rfl, rfl⟩, ⟨_, rfl, rfl⟩, ⟨_, rfl, rfl⟩, ⟨_, rfl, rfl⟩, trivial⟩ ⟨.inr rfl, .inr rfl, .inr rfl, trivial⟩ rfl rfl))))))
            · skip
              refine E.region (EL.run tabOk 3 rfl (EL.lookup (enc := (Value.int .i64)) (m := mset m22 y28.Mac (wr (((mget m22 y28.Mac).getD 0) + 1))) (z0 := 0) tabOk rfl rfl rfl rfl rfl rfl rfl rfl (fun _ => rfl) (EL.run tabOk 10 rfl (EL.split (s := 85) rfl H (fun hb H => ?_) (fun hb H => ?_)))))
              · skip
                exact EL.run tabOk 8 rfl (EL.nil (EX.fewer (hj46 _ _ _ ⟨true, rfl, rfl, (GLe.refl _), H⟩) ⟨⟨_, rfl, rfl⟩, ⟨_, rfl, rfl⟩, ⟨_, rfl, rfl⟩, ⟨_, rfl, rfl⟩, ⟨_, rfl, rfl⟩, ⟨_, rfl, rfl⟩, trivial⟩ ⟨.inr rfl, .inr rfl, .inr rfl, .inr rfl, trivial⟩ rfl rfl))
              · skip
                refine EL.run tabOk 5 rfl ?_
                obtain ⟨x49, hx50, H⟩ := bind_some H
                refine EL.call rfl rfl rfl rfl lan_in_enters (fun w hw => lan_in_ok hx50 hw ) (fun v53 G52 hle51 hv54 => ?_)
                have h6 := Rep.mono hle51 h6; have h3 := Rep.mono hle51 h3
                obtain rfl : _ = _ := hv54
                exact EL.run tabOk 2 rfl (EL.nil (EX.fewer (hj46 _ _ _ ⟨!x49, rfl, rfl, hle51, H⟩) ⟨⟨_, rfl, rfl⟩, ⟨_, rfl, rfl⟩, ⟨_, rfl, rfl⟩, ⟨_, rfl, rfl⟩, ⟨_, rfl, rfl⟩, ⟨_, rfl, rfl⟩, trivial⟩ ⟨.inr rfl, .inr rfl, .inr rfl, .inr rfl, trivial⟩ rfl rfl))
          · skip
            exact E.exit (EX.out (EX.out (EX.hit (EX.fewer (hj18 _ _ _ ⟨m22, rfl, rfl, hle23, H⟩) trivial ⟨.inr rfl, .inr rfl, .inr rfl, trivial⟩ rfl rfl))))
      · skip
        refine E.block (E.fewer (E.loop (fun n env L Γ => ∃ (i55 : Int) (m56 : (List (Int × Int))), env = [(1, some (.p 0 0)), (3, some (.mp 1)), (4, some (.mp 2)), (30, some (.v (.slice A1 p0.Plans.length c2))), (31, some (.v (.int .i64 (p0.Plans.length : Int)))), (32, some (.v (.int .i64 i55)))] ∧ L = [.box 25 [.v (.int .i64 p0.Segs), .v (.slice A1 p0.Plans.length c2), .v (.slice A4 p0.Hosts.length c5)], .mp (mE (Value.int .i64) m56), .mp (mE (Value.int .i64) ([]))] ∧ GLe G12 Γ ∧ loopN (fun _ _ => none) (lan_Right_s6 k p0) n i55 m56 = some r) k ⟨0, [], rfl, rfl, GLe.refl _, H⟩ ?_) ⟨⟨_, rfl, rfl⟩, ⟨_, rfl, rfl⟩, ⟨_, rfl, rfl⟩, ⟨_, rfl, rfl⟩, ⟨_, rfl, rfl⟩, ⟨_, rfl, rfl⟩, trivial⟩ ⟨.inr rfl, .inr rfl, .inr rfl, trivial⟩ rfl rfl)
        rintro n61 _ _ G59 ⟨i55, m56, rfl, rfl, hle57, H⟩ K hK60
        obtain _ | n61 := n61
        · exact none_ne H
        rw [loopN] at H; unfold lan_Right_s6 at H
        have h3 := Rep.mono hle57 h3; have h6 := Rep.mono hle57 h6
        refine E.seq (E.region (EL.run tabOk 1 rfl (EL.nil (EX.seq (E.seq (E.cond rfl H (fun hb H => ?_) (fun hb H => ?_)))))))
        · skip
          refine E.skip (EX.seq (E.seq (E.block (E.seq (E.region ?_)))))
          obtain ⟨y62, hy63, H⟩ := bind_some H
          refine EL.index hy63 h3 tabOk rfl rfl rfl rfl rfl rfl rfl rfl (fun b64 o65 u66 hu67 hc68 => ?_)
          obtain ⟨v72, rfl, h71⟩ := hu67
          obtain ⟨A69, c70, rfl, h71⟩ := Sl.open h71
          refine EL.load hc68 tabOk rfl rfl rfl rfl rfl rfl (EL.run tabOk 2 rfl (EL.nil (EX.seq (E.seq (E.region (EL.run tabOk 3 rfl (EL.lookup (enc := (Value.int .i64)) (m := m56) (z0 := 0) tabOk rfl rfl rfl rfl rfl rfl rfl rfl (fun _ => rfl) (EL.run tabOk 1 rfl (EL.mapUpdate (enc := (Value.int .i64)) (m := m56) (u := (wr (((mget m56 y62.ID).getD 0) + 1))) tabOk rfl rfl rfl rfl rfl rfl rfl rfl rfl rfl (EL.nil (EX.seq (E.seq (E.join (fun env L Γ => ∃ (b73 : Bool), env = [(1, some (.p 0 0)), (3, some (.mp 1)), (4, some (.mp 2)), (30, some (.v (.slice A1 p0.Plans.length c2))), (31, some (.v (.int .i64 (p0.Plans.length : Int)))), (32, some (.v (.int .i64 i55))), (52, some (.v (.bool b73)))] ∧ L = [.box 25 [.v (.int .i64 p0.Segs), .v (.slice A1 p0.Plans.length c2), .v (.slice A4 p0.Hosts.length c5)], .mp (mE (Value.int .i64) (mset m56 y62.ID (wr (((mget m56 y62.ID).getD 0) + 1)))), .mp (mE (Value.int .i64) ([])), .box 33 [.v (.int .i64 y62.ID), .v (.slice A69 y62.Ports.length c70)]] ∧ GLe G59 Γ ∧ lan_Right_j5 k i55 m56 (loopN (fun _ _ => none) (lan_Right_s6 k p0) n61) y62 b73 = some r) ?_ (fun hj74 => ?_))))))))))))))
          · skip
            rintro _ _ G76 ⟨b73, rfl, rfl, hle75, H⟩
            unfold lan_Right_j5 at H
            have h3 := Rep.mono hle75 h3; have h6 := Rep.mono hle75 h6; have h71 := Rep.mono hle75 h71
            refine EX.seq (E.cond rfl H (fun hb H => ?_) (fun hb H => ?_))
            · skip
              exact E.seq (E.region (EL.run tabOk 1 rfl (EL.nil (EX.seq (E.ret (EX.retB (EX.retT (EX.retT (EX.retB (EX.retT (EX.retE H tabOk rfl rfl)))))))))))
            · skip
              exact E.skip (EX.block (EX.seq (E.region (EL.run tabOk 2 rfl (EL.nil (EX.fewer (hK60 n61 _ _ _ (Nat.lt_succ_self _) ⟨wr (i55 + 1), mset m56 y62.ID (wr (((mget m56 y62.ID).getD 0) + 1)), rfl, rfl, (GLe.trans hle57 hle75), H⟩) ⟨⟨_, rfl, rfl⟩, ⟨_, rfl, rfl⟩, ⟨_, rfl, rfl⟩, ⟨_, rfl, rfl⟩, ⟨_, rfl, rfl⟩, ⟨_, rfl, rfl⟩, trivial⟩ ⟨.inr rfl, .inr rfl, .inr rfl, trivial⟩ rfl rfl))))))
          · skip
            refine E.region (EL.run tabOk 3 rfl (EL.lookup (enc := (Value.int .i64)) (m := mset m56 y62.ID (wr (((mget m56 y62.ID).getD 0) + 1))) (z0 := 0) tabOk rfl rfl rfl rfl rfl rfl rfl rfl (fun _ => rfl) (EL.run tabOk 2 rfl (EL.split (s := 46) rfl H (fun hb H => ?_) (fun hb H => ?_)))))
            · skip
              exact EL.run tabOk 6 rfl (EL.nil (EX.fewer (hj74 _ _ _ ⟨true, rfl, rfl, (GLe.refl _), H⟩) ⟨⟨_, rfl, rfl⟩, ⟨_, rfl, rfl⟩, ⟨_, rfl, rfl⟩, ⟨_, rfl, rfl⟩, ⟨_, rfl, rfl⟩, ⟨_, rfl, rfl⟩, ⟨_, rfl, rfl⟩, trivial⟩ ⟨.inr rfl, .inr rfl, .inr rfl, .inr rfl, trivial⟩ rfl rfl))
            · skip
              refine EL.run tabOk 3 rfl ?_
              obtain ⟨x77, hx78, H⟩ := bind_some H
              refine EL.call rfl rfl rfl rfl lan_isPlan_enters (fun w hw => lan_isPlan_ok hx78 hw ⟨_, rfl, h71⟩) (fun v81 G80 hle79 hv82 => ?_)
              have h3 := Rep.mono hle79 h3; have h6 := Rep.mono hle79 h6; have h71 := Rep.mono hle79 h71
              obtain rfl : _ = _ := hv82
              exact EL.run tabOk 2 rfl (EL.nil (EX.fewer (hj74 _ _ _ ⟨!x77, rfl, rfl, hle79, H⟩) ⟨⟨_, rfl, rfl⟩, ⟨_, rfl, rfl⟩, ⟨_, rfl, rfl⟩, ⟨_, rfl, rfl⟩, ⟨_, rfl, rfl⟩, ⟨_, rfl, rfl⟩, ⟨_, rfl, rfl⟩, trivial⟩ ⟨.inr rfl, .inr rfl, .inr rfl, .inr rfl, trivial⟩ rfl rfl))
        · skip
          exact E.exit (EX.out (EX.out (EX.hit (EX.fewer (hj14 _ _ _ ⟨m56, rfl, rfl, hle57, H⟩) ⟨⟨_, rfl, rfl⟩, ⟨_, rfl, rfl⟩, trivial⟩ ⟨.inr rfl, .inr rfl, .inr rfl, trivial⟩ rfl rfl))))
  · skip
    refine E.region (EL.run tabOk 2 rfl ?_)
    obtain ⟨x83, hx84, H⟩ := bind_some H
    refine EL.call rfl rfl rfl rfl lan_in_enters (fun w hw => lan_in_ok hx84 hw ) (fun v87 G86 hle85 hv88 => ?_)
    have h3 := Rep.mono hle85 h3; have h6 := Rep.mono hle85 h6
    obtain rfl : _ = _ := hv88
    refine EL.run tabOk 2 rfl (EL.split (s := 15) rfl H (fun hb H => ?_) (fun hb H => ?_))
    · skip
      exact EL.run tabOk 11 rfl (EL.nil (EX.fewer (hj10 _ _ _ ⟨true, rfl, rfl, hle85, H⟩) ⟨⟨_, rfl, rfl⟩, ⟨_, rfl, rfl⟩, trivial⟩ ⟨.inr rfl, trivial⟩ rfl rfl))
    · skip
      refine EL.run tabOk 6 rfl (EL.split (s := 21) rfl H (fun hb H => ?_) (fun hb H => ?_))
      · skip
        exact EL.run tabOk 5 rfl (EL.nil (EX.fewer (hj10 _ _ _ ⟨true, rfl, rfl, hle85, H⟩) ⟨⟨_, rfl, rfl⟩, ⟨_, rfl, rfl⟩, trivial⟩ ⟨.inr rfl, trivial⟩ rfl rfl))
      · skip
        exact EL.run tabOk 5 rfl (EL.nil (EX.fewer (hj10 _ _ _ ⟨decide ((p0.Hosts.length : Int) > 8), rfl, rfl, hle85, H⟩) ⟨⟨_, rfl, rfl⟩, ⟨_, rfl, rfl⟩, trivial⟩ ⟨.inr rfl, trivial⟩ rfl rfl))
theorem tree_best_less_enters : Enters Try.prog 80 := ⟨_, Try.func80, rfl, rfl⟩
set_option maxHeartbeats 4000000 in
theorem tree_best_less_ok {k : Nat} {p0 : arr2_i64} {p1 : arr2_i64} {r : Bool} (H : tree_best_less k p0 p1 = some r) {G : Ghost} {w : World} (hG : Holds G w)  : Ret Try.prog 80 [.agg #[.int .i64 p0.x0, .int .i64 p0.x1], .agg #[.int .i64 p1.x0, .int .i64 p1.x1]] w G (fun G v => R G r v) := by
  unfold tree_best_less at H
  refine start Try.func80 rfl Try.ntmps80 rfl hG (E.seq (E.region (EL.run tabOk 3 rfl (EL.nil (EX.seq (E.seq (E.join (fun env L Γ => ∃ (b1 : Bool), env = [(4, some (.v (.bool b1)))] ∧ L = [.box 61 [.v (.int .i64 p0.x0), .v (.int .i64 p0.x1)], .box 61 [.v (.int .i64 p1.x0), .v (.int .i64 p1.x1)]] ∧ GLe G Γ ∧ tree_best_less_j1 k b1 = some r) ?_ (fun hj2 => ?_))))))))
  · skip
    rintro _ _ G4 ⟨b1, rfl, rfl, hle3, H⟩
    unfold tree_best_less_j1 at H
    exact EX.seq (E.ret (EX.retE H tabOk rfl rfl))
  · skip
    refine E.region (EL.run tabOk 6 rfl (EL.split (s := 10) rfl H (fun hb H => ?_) (fun hb H => ?_)))
    · skip
      exact EL.run tabOk 14 rfl (EL.nil (EX.fewer (hj2 _ _ _ ⟨true, rfl, rfl, (GLe.refl _), H⟩) ⟨⟨_, rfl, rfl⟩, trivial⟩ ⟨.inr rfl, .inr rfl, trivial⟩ rfl rfl))
    · skip
      refine EL.run tabOk 6 rfl (EL.split (s := 16) rfl H (fun hb H => ?_) (fun hb H => ?_))
      · skip
        exact EL.run tabOk 8 rfl (EL.nil (EX.fewer (hj2 _ _ _ ⟨decide (p0.x1 < p1.x1), rfl, rfl, (GLe.refl _), H⟩) ⟨⟨_, rfl, rfl⟩, trivial⟩ ⟨.inr rfl, .inr rfl, trivial⟩ rfl rfl))
      · skip
        exact EL.run tabOk 8 rfl (EL.nil (EX.fewer (hj2 _ _ _ ⟨false, rfl, rfl, (GLe.refl _), H⟩) ⟨⟨_, rfl, rfl⟩, trivial⟩ ⟨.inr rfl, .inr rfl, trivial⟩ rfl rfl))
theorem lan_may_enters : Enters Try.prog 23 := ⟨_, Try.func23, rfl, rfl⟩
set_option maxHeartbeats 4000000 in
theorem lan_may_ok {k : Nat} {p0 : Lan} {p1 : Int} {r : Int} (H : lan_may k p0 p1 = some r) {G : Ghost} {w : World} (hG : Holds G w) {v0 : Value} (h0 : R G p0 v0) : Ret Try.prog 23 [v0, .int .i64 p1] w G (fun G v => R G r v) := by
  obtain ⟨v7, v8, rfl, h3, h6⟩ := h0
  obtain ⟨A1, c2, rfl, h3⟩ := Sl.open h3
  obtain ⟨A4, c5, rfl, h6⟩ := Sl.open h6
  unfold lan_may at H
  refine start Try.func23 rfl Try.ntmps23 rfl hG (E.seq (E.region (EL.run tabOk 2 rfl (EL.nil (EX.seq (E.seq (E.block (E.seq (E.region (EL.run tabOk 1 rfl ?_))))))))))
  obtain ⟨x9, hx10, H⟩ := bind_some H
  refine EL.call rfl rfl rfl rfl lan_Right_enters (fun w hw => lan_Right_ok hx10 hw ⟨_, _, rfl, h3, h6⟩) (fun v13 G12 hle11 hv14 => ?_)
  have h3 := Rep.mono hle11 h3; have h6 := Rep.mono hle11 h6
  obtain rfl : _ = _ := hv14
  refine EL.run tabOk 2 rfl (EL.nil (EX.seq (E.cond rfl H (fun hb H => ?_) (fun hb H => ?_))))
  · skip
    exact E.seq (E.region (EL.run tabOk 1 rfl (EL.nil (EX.seq (E.ret (EX.retB (EX.retT (EX.retE H tabOk rfl rfl))))))))
  · skip
    refine E.seq (E.region (EL.run tabOk 4 rfl ?_))
    obtain ⟨x15, hx16, H⟩ := bind_some H
    refine EL.call rfl rfl rfl rfl lan_in_enters (fun w hw => lan_in_ok hx16 hw ) (fun v19 G18 hle17 hv20 => ?_)
    have h3 := Rep.mono hle17 h3; have h6 := Rep.mono hle17 h6
    obtain rfl : _ = _ := hv20
    refine EL.run tabOk 2 rfl (EL.nil (EX.seq (E.cond rfl H (fun hb H => ?_) (fun hb H => ?_))))
    · skip
      exact E.seq (E.region (EL.run tabOk 1 rfl (EL.nil (EX.seq (E.ret (EX.retB (EX.retT (EX.retE H tabOk rfl rfl))))))))
    · skip
      exact E.skip (EX.block (EX.seq (E.seq (E.region (EL.run tabOk 1 rfl (EL.nil (EX.seq (E.ret (EX.retE H tabOk rfl rfl)))))))))
def slices_Clone_own (r : List Host) (G : Ghost) (ent : Ent) (s : SV) : Prop := ∃ es, ent = .row 69 2 r.length es ∧ s = .row 0 ∧ Els G r es
theorem slices_Clone_enters : Enters Try.prog 25 := ⟨_, Try.func25, rfl, rfl⟩
theorem slices_Clone_ok {k : Nat} {p0 r : List Host} (H : slices_Clone k p0 = some r) {G : Ghost} {w : World} (hG : Holds G w) {v0 : Value} (h0 : R G p0 v0) : RetO Try.prog 25 [v0] w G (slices_Clone_own r) := by
  obtain ⟨A, c, rfl, h0⟩ := Sl.open h0
  unfold slices_Clone at H
  refine startO Try.func25 rfl Try.ntmps25 rfl hG (E.seq (E.region (EL.run tabOk 1 rfl (EL.nil (EX.seq ?_)))))
  refine E.seq (E.seq (E.region (EL.run tabOk 2 rfl (EL.nil (EX.seq ?_)))))
  cases A with
  | none =>
    have hp : p0 = [] := Sl.none_nil h0
    subst hp
    obtain ⟨_, rfl⟩ := cat_some H
    refine E.condB (b := true) rfl (fun _ => ?_) (fun h => nomatch h)
    refine E.seq (E.region (EL.run tabOk 1 rfl (EL.nil (EX.seq (E.ret (EX.retT ?_))))))
    exact EX.nilRow 2 69 2 rfl (EX.retO (s := .row 0) (r := 0) tabOk rfl rfl rfl (by exact trivial) ⟨[], rfl, rfl, All2.nil⟩)
  | some ad =>
    refine E.condB (b := false) rfl (fun h => nomatch h) (fun _ => E.skip (EX.seq ?_))
    refine E.seq (E.region (EL.run tabOk 2 rfl (EL.cat H All2.nil h0 tabOk rfl rfl rfl rfl rfl rfl rfl rfl rfl rfl rfl rfl rfl rfl (fun blk val es' h' => EL.run tabOk 1 rfl (EL.nil (EX.seq (E.ret ?_)))))))
    exact EX.retO (s := .row 0) (r := 0) tabOk rfl rfl rfl (by exact trivial) ⟨_, rfl, rfl, h'⟩
theorem lan_On_1_enters : Enters Try.prog 26 := ⟨_, Try.func26, rfl, rfl⟩
set_option maxHeartbeats 4000000 in
theorem lan_On_1_ok {k : Nat} {p0 : Host} {p1 : Int} {r : Bool} (H : lan_On_1 k p0 p1 = some r) {G : Ghost} {w : World} (hG : Holds G w) {b1 : Nat} (hc1 : CellsAt G b1 0 (.agg #[.int .i64 p1])) : Ret Try.prog 26 [.agg #[.int .i64 p0.Mac, .int .i64 p0.Seg], .pointer (some ⟨b1, 0, none⟩)] w G (fun G v => R G r v) := by
  unfold lan_On_1 at H
  exact start Try.func26 rfl Try.ntmps26 rfl hG (E.seq (E.region (EL.run tabOk 2 rfl (EL.nil (EX.seq (E.seq (E.region (EL.run tabOk 2 rfl (EL.load (CellsAt.fld (j := 0) hc1 rfl rfl) tabOk rfl rfl rfl rfl rfl rfl (EL.run tabOk 2 rfl (EL.nil (EX.seq (E.ret (EX.retE H tabOk rfl rfl))))))))))))))
theorem slices_IndexFunc_41_enters : Enters Try.prog 41 := ⟨_, Try.func41, rfl, rfl⟩
set_option maxHeartbeats 4000000 in
theorem slices_IndexFunc_41_ok {k : Nat} {p0 : (List Host)} {p1 : (Host → Option Bool)} {r : Int} (H : slices_IndexFunc_41 k p0 p1 = some r) {G : Ghost} {w : World} (hG : Holds G w) {v0 : Value} (h0 : R G p0 v0) {v1 : Value} (h1 : FnR Try.prog G p1 v1) : Ret Try.prog 41 [v0, v1] w G (fun G v => R G r v) := by
  obtain ⟨A5, c6, rfl, h7⟩ := Sl.open h0
  obtain ⟨g1, cp2, rfl, hen3, hsp4⟩ := h1
  unfold slices_IndexFunc_41 at H
  refine start Try.func41 rfl Try.ntmps41 rfl hG (E.seq (E.region (EL.run tabOk 1 rfl (EL.nil (EX.seq (E.seq (E.seq (E.region (EL.run tabOk 3 rfl (EL.nil (EX.seq (E.join (fun env L Γ =>  env = [] ∧ L = [] ∧ GLe G Γ ∧ slices_IndexFunc_41_j1 k = some r) ?_ (fun hj8 => ?_)))))))))))))
  · skip
    rintro _ _ G10 ⟨rfl, rfl, hle9, H⟩
    unfold slices_IndexFunc_41_j1 at H
    exact EX.seq (E.seq (E.region (EL.run tabOk 1 rfl (EL.nil (EX.seq (E.ret (EX.retE H tabOk rfl rfl)))))))
  · skip
    refine E.block (E.fewer (E.loop (fun n env L Γ => ∃ (i11 : Int), env = [(0, some (.v (.slice A5 p0.length c6))), (1, some (.v (.func (.func g1) #[] cp2))), (7, some (.v (.int .i64 (p0.length : Int)))), (8, some (.v (.int .i64 i11)))] ∧ L = [] ∧ GLe G Γ ∧ loopN (fun _ => none) (slices_IndexFunc_41_s2 k p0 p1) n i11 = some r) k ⟨0, rfl, rfl, GLe.refl _, H⟩ ?_) ⟨⟨_, rfl, rfl⟩, ⟨_, rfl, rfl⟩, ⟨_, rfl, rfl⟩, ⟨_, rfl, rfl⟩, trivial⟩ trivial rfl rfl)
    rintro n16 _ _ G14 ⟨i11, rfl, rfl, hle12, H⟩ K hK15
    obtain _ | n16 := n16
    · exact none_ne H
    rw [loopN] at H; unfold slices_IndexFunc_41_s2 at H
    have h7 := Rep.mono hle12 h7
    refine E.seq (E.region (EL.run tabOk 1 rfl (EL.nil (EX.seq (E.seq (E.cond rfl H (fun hb H => ?_) (fun hb H => ?_)))))))
    · skip
      refine E.skip (EX.seq (E.seq (E.block (E.seq (E.region (EL.run tabOk 2 rfl (EL.nil (EX.seq (E.seq (E.region (EL.run tabOk 3 rfl ?_)))))))))))
      obtain ⟨y17, hy18, H⟩ := bind_some H
      refine EL.index hy18 h7 tabOk rfl rfl rfl rfl rfl rfl rfl rfl (fun b19 o20 u21 hu22 hc23 => ?_)
      obtain rfl : _ = _ := hu22
      refine EL.load hc23 tabOk rfl rfl rfl rfl rfl rfl ?_
      obtain ⟨x24, hx25, H⟩ := bind_some H
      refine EL.callV rfl rfl rfl rfl rfl hen3 (fun w hw => hsp4 _ _ hx25 _ hle12 _ rfl w hw) (fun v27 G29 hle26 hv28 => ?_)
      have h7 := Rep.mono hle26 h7
      obtain rfl : _ = _ := hv28
      refine EL.nil (EX.seq (E.cond rfl H (fun hb H => ?_) (fun hb H => ?_)))
      · skip
        exact E.seq (E.region (EL.run tabOk 2 rfl (EL.nil (EX.seq (E.ret (EX.retB (EX.retT (EX.retT (EX.retB (EX.retT (EX.retE H tabOk rfl rfl)))))))))))
      · skip
        exact E.skip (EX.block (EX.seq (E.region (EL.run tabOk 2 rfl (EL.nil (EX.fewer (hK15 n16 _ _ _ (Nat.lt_succ_self _) ⟨wr (i11 + 1), rfl, rfl, (GLe.trans hle12 hle26), H⟩) ⟨⟨_, rfl, rfl⟩, ⟨_, rfl, rfl⟩, ⟨_, rfl, rfl⟩, ⟨_, rfl, rfl⟩, trivial⟩ trivial rfl rfl))))))
    · skip
      exact E.exit (EX.out (EX.out (EX.hit (EX.fewer (hj8 _ _ _ ⟨rfl, rfl, hle12, H⟩) trivial trivial rfl rfl))))
theorem lan_On_enters : Enters Try.prog 12 := ⟨_, Try.func12, rfl, rfl⟩
set_option maxHeartbeats 4000000 in
theorem lan_On_ok {k : Nat} {p0 : Lan} {p1 : Int} {r : ((List Host) × (List arr2_i64) × Int)} (H : lan_On k p0 p1 = some r) {G : Ghost} {w : World} (hG : Holds G w) {v0 : Value} (h0 : R G p0 v0) : Ret Try.prog 12 [v0, .int .i64 p1] w G (fun G v => R3 G r v) := by
  obtain ⟨v7, v8, rfl, h3, h6⟩ := h0
  obtain ⟨A1, c2, rfl, h3⟩ := Sl.open h3
  obtain ⟨A4, c5, rfl, h6⟩ := Sl.open h6
  unfold lan_On at H
  refine start Try.func12 rfl Try.ntmps12 rfl hG (E.seq (E.region (EL.run tabOk 5 rfl (EL.nil (EX.seq (E.seq (E.seq (E.region (EL.run tabOk 2 rfl ?_)))))))))
  obtain ⟨x9, hx10, H⟩ := bind_some H
  refine EL.call rfl rfl rfl rfl lan_may_enters (fun w hw => lan_may_ok hx10 hw ⟨_, _, rfl, h3, h6⟩) (fun v13 G12 hle11 hv14 => ?_)
  have h3 := Rep.mono hle11 h3; have h6 := Rep.mono hle11 h6
  obtain rfl : _ = _ := hv14
  refine EL.run tabOk 1 rfl (EL.nil (EX.seq (E.seq (E.region (EL.run tabOk 2 rfl (EL.nil (EX.seq (E.cond rfl H (fun hb H => ?_) (fun hb H => ?_)))))))))
  · skip
    exact E.seq (E.region (EL.run tabOk 4 rfl (EL.nil (EX.seq (E.ret (EX.retT (EX.retE H tabOk rfl ⟨_, _, _, rfl, (Sl.nil _), (Sl.nil _), rfl⟩)))))))
  · skip
    refine E.skip (EX.seq (E.seq (E.region (EL.run tabOk 1 rfl (EL.nil (EX.seq (E.seq (E.seq (E.region (EL.run tabOk 4 rfl (EL.nil (EX.seq (E.nilRow 8 41 2 rfl (E.join (fun env L Γ => ∃ (l15 : (List arr2_i64)) (es16 : List Value), env = [(2, some (.p 0 0)), (3, some (.p 1 0)), (8, some (.row 2))] ∧ L = [.box 25 [.v (.int .i64 p0.Segs), .v (.slice A1 p0.Plans.length c2), .v (.slice A4 p0.Hosts.length c5)], .box 3 [.v (.int .i64 p1)], .row 41 2 l15.length es16] ∧ GLe G12 Γ ∧ Els Γ l15 es16 ∧ lan_On_j5 k p0 p1 l15 = some r) ?_ (fun hj18 => ?_)))))))))))))))
    · skip
      rintro _ _ G20 ⟨l15, es16, rfl, rfl, hle19, h17, H⟩
      unfold lan_On_j5 at H
      have h3 := Rep.mono hle19 h3; have h6 := Rep.mono hle19 h6
      refine EX.seq (E.seq (E.region (EL.run tabOk 2 rfl ?_)))
      obtain ⟨x21, hx22, H⟩ := bind_some H
      refine EL.callO rfl rfl rfl rfl slices_Clone_enters (fun w hw => slices_Clone_ok hx22 hw h6) ?_
      rintro _ _ G24 hle23 ⟨es27, rfl, rfl, h28⟩
      have h6 := Rep.mono hle23 h6; have h3 := Rep.mono hle23 h3; have h17 := Els.mono h17 hle23
      refine EL.pubBox 1 rfl rfl rfl (fun k29 u30 G33 hle31 hc32 => ?_)
      have h6 := Rep.mono hle31 h6; have h3 := Rep.mono hle31 h3; have h17 := Els.mono h17 hle31; have h28 := Els.mono h28 hle31
      have hf35 : FnR Try.prog G33 (fun (x34 : Host) => lan_On_1 k x34 p1) (.func (.func 26) #[] #[.pointer (some ⟨k29, 0, none⟩)]) := ⟨26, _, rfl, lan_On_1_enters, fun x0' y hf G' hle' u0 hu0 w hw => by obtain rfl : _ = _ := hu0; exact lan_On_1_ok hf hw (CellsAt.mono hle' hc32)⟩
      refine EL.run tabOk 1 rfl (EL.inl [8] rfl rfl rfl rfl rfl rfl Try.func24 slices_DeleteFunc_enters rfl Try.ntmps24 rfl rfl (fun L Γ ks s => ∃ (vals36 : List Value) (l39 : (List Host)) (es40 : List Value), L = [.box 25 [.v (.int .i64 p0.Segs), .v (.slice A1 p0.Plans.length c2), .v (.slice A4 p0.Hosts.length c5)], .gone, .row 41 2 l15.length es16, .row 69 2 l39.length es40, .sav [.row 2] vals36] ∧ ks = [.row 2] ∧ s = .row 3 ∧ GLe G33 Γ ∧ Els Γ l39 es40 ∧ lan_On_j1 k l15 l39 = some r) ?_ ?_)
      · skip
        rintro _ G43 _ _ ⟨vals36, l39, es40, rfl, rfl, rfl, hle42, h41, H⟩
        unfold lan_On_j1 at H
        have h3 := Rep.mono hle42 h3; have h6 := Rep.mono hle42 h6; have h17 := Els.mono h17 hle42
        refine EL.run tabOk 1 rfl (EL.nil (EX.seq (E.seq (E.region (EL.run tabOk 5 rfl (EL.nil (EX.seq (E.ret (EX.pubRow (xs := l39) 3 rfl h41 rfl (fun k44 A45 c46 G49 hle47 h48 => ?_))))))))))
        have h3 := Rep.mono hle47 h3; have h6 := Rep.mono hle47 h6; have h17 := Els.mono h17 hle47
        refine EX.pubRow (xs := l15) 2 rfl h17 rfl (fun k50 A51 c52 G55 hle53 h54 => ?_)
        have h48 := Rep.mono hle53 h48; have h3 := Rep.mono hle53 h3; have h6 := Rep.mono hle53 h6
        exact EX.retE H tabOk rfl ⟨_, _, _, rfl, h48, h54, rfl⟩
      · skip
        intro K37 vals36 hB38
        refine E.seq (E.region (EL.run tabOk 1 rfl (EL.nil (EX.seq (E.seq (E.region (EL.run tabOk 2 rfl ?_)))))))
        obtain ⟨x56, hx57, H⟩ := bind_some H
        refine EL.callS (r := 3) (e := 69) (sz := 2) (n := x21.length) (xs := x21) (va := fun A c => [.slice A x21.length c, .func (.func 26) #[] #[.pointer (some ⟨k29, 0, none⟩)]]) (u := .int .i64 x56) h28 rfl rfl rfl rfl rfl (fun _ _ => rfl) rfl slices_IndexFunc_41_enters (fun w A c G1 hle' h1' hw => slices_IndexFunc_41_ok hx57 hw h1' (FnR.mono hle' hf35)) (fun _ _ h => h) (EL.run tabOk 1 rfl (EL.nil (EX.seq (E.seq (E.seq (E.region (EL.run tabOk 2 rfl (EL.nil (EX.seq (E.cond rfl H (fun hb H => ?_) (fun hb H => ?_)))))))))))
        · skip
          exact E.seq (E.region (EL.run tabOk 2 rfl (EL.nil (EX.seq (E.ret (EX.retT (EX.back hB38 ⟨vals36, x21, es27, rfl, rfl, rfl, (GLe.refl _), h28, H⟩ tabOk rfl rfl (fun _ => rfl) ⟨.inr rfl, .inr rfl, .inr rfl, .inr rfl, .inr rfl, trivial⟩ rfl rfl rfl)))))))
        · skip
          refine E.skip (EX.seq (E.seq (E.seq (E.region (EL.run tabOk 3 rfl (EL.nil (EX.seq (E.join (fun env L Γ => ∃ (i58 : Int) (l59 : (List Host)) (es60 : List Value), env = [(0, some (.row 3)), (5, some (.v (.int .i64 i58)))] ∧ L = [.box 25 [.v (.int .i64 p0.Segs), .v (.slice A1 p0.Plans.length c2), .v (.slice A4 p0.Hosts.length c5)], .gone, .row 41 2 l15.length es16, .row 69 2 l59.length es60, .sav [.row 2] vals36] ∧ GLe G33 Γ ∧ Els Γ l59 es60 ∧ lan_On_j2 k l15 i58 l59 = some r) ?_ (fun hj62 => ?_)))))))))
          · skip
            rintro _ _ G64 ⟨i58, l59, es60, rfl, rfl, hle63, h61, H⟩
            unfold lan_On_j2 at H
            have h3 := Rep.mono hle63 h3; have h6 := Rep.mono hle63 h6; have h17 := Els.mono h17 hle63
            refine EX.seq (E.seq (E.region (EL.run tabOk 2 rfl ?_)))
            obtain ⟨l65, hp66, H⟩ := bind_some H
            refine EL.clr (z := .agg #[.int .i64 0, .int .i64 0]) hp66 h61 (show R G64 (⟨0, 0⟩ : Host) (.agg #[.int .i64 0, .int .i64 0]) from rfl) tabOk rfl rfl rfl rfl rfl rfl rfl rfl rfl rfl rfl rfl rfl rfl (fun es67 h68 => ?_)
            refine EL.nil (EX.seq (E.seq (E.region (EL.run tabOk 2 rfl ?_))))
            obtain ⟨l69, hp70, H⟩ := bind_some H
            refine EL.rowPrefix hp70 h68 tabOk rfl rfl rfl rfl rfl rfl rfl rfl rfl (fun k71 v72 h73 => ?_)
            exact EL.run tabOk 1 rfl (EL.nil (EX.seq (E.ret (EX.back hB38 ⟨vals36, l69, (es67.take (i58 : Int).toNat), rfl, rfl, rfl, hle63, h73, H⟩ tabOk rfl rfl (fun _ => rfl) ⟨.inr rfl, .inr rfl, .inr rfl, .inr rfl, .inr rfl, trivial⟩ rfl rfl rfl))))
          · skip
            refine E.block (E.fewer (E.loop (fun n env L Γ => ∃ (i74 : Int) (i75 : Int) (l76 : (List Host)) (es77 : List Value), env = [(0, some (.row 3)), (1, some (.v (.func (.func 26) #[] #[.pointer (some ⟨k29, 0, none⟩)]))), (5, some (.v (.int .i64 i74))), (6, some (.v (.int .i64 i75)))] ∧ L = [.box 25 [.v (.int .i64 p0.Segs), .v (.slice A1 p0.Plans.length c2), .v (.slice A4 p0.Hosts.length c5)], .gone, .row 41 2 l15.length es16, .row 69 2 l76.length es77, .sav [.row 2] vals36] ∧ GLe G33 Γ ∧ Els Γ l76 es77 ∧ loopN (fun _ _ _ => none) (lan_On_s4 k p1 l15) n i74 i75 l76 = some r) k ⟨x56, wr (x56 + 1), x21, es27, rfl, rfl, GLe.refl _, h28, H⟩ ?_) ⟨⟨_, rfl, rfl⟩, ⟨_, rfl, rfl⟩, ⟨_, rfl, rfl⟩, ⟨_, rfl, rfl⟩, trivial⟩ ⟨.inr rfl, .inr rfl, .inr rfl, .inr rfl, .inr rfl, trivial⟩ rfl rfl)
            rintro n83 _ _ G81 ⟨i74, i75, l76, es77, rfl, rfl, hle79, h78, H⟩ K hK82
            obtain _ | n83 := n83
            · exact none_ne H
            rw [loopN] at H; unfold lan_On_s4 at H
            have hf35 := FnR.mono hle79 hf35; have hc32 := CellsAt.mono hle79 hc32; have h3 := Rep.mono hle79 h3; have h6 := Rep.mono hle79 h6; have h17 := Els.mono h17 hle79
            refine E.seq (E.seq (E.region (EL.run tabOk 4 rfl (EL.nil (EX.seq (E.cond rfl H (fun hb H => ?_) (fun hb H => ?_)))))))
            · skip
              refine E.skip (EX.seq (E.seq (E.block (E.seq (E.region (EL.run tabOk 2 rfl ?_))))))
              obtain ⟨y84, hy85, H⟩ := bind_some H
              obtain ⟨g86, g87, g88, g89⟩ := idx_some hy85; obtain ⟨u90, hj91, hu92⟩ := All2.get h78 g89
              refine EL.indexRow g86 g88 tabOk rfl rfl rfl rfl rfl rfl rfl rfl ?_
              obtain rfl : _ = _ := hu92
              refine EL.loadRow (j := (i75 : Int).toNat) (off := 0) (sz := 2) hj91 (part_whole _) tabOk rfl rfl rfl rfl rfl rfl rfl rfl (EL.run tabOk 2 rfl (EL.nil (EX.seq (E.seq (E.region (EL.run tabOk 2 rfl ?_))))))
              obtain ⟨x93, hx94, H⟩ := bind_some H
              refine EL.callV rfl rfl rfl rfl rfl lan_On_1_enters (fun w hw => lan_On_1_ok hx94 hw hc32) (fun v96 G98 hle95 hv97 => ?_)
              have hf35 := FnR.mono hle95 hf35; have hc32 := CellsAt.mono hle95 hc32; have h3 := Rep.mono hle95 h3; have h6 := Rep.mono hle95 h6; have h17 := Els.mono h17 hle95; have h78 := Els.mono h78 hle95
              obtain rfl : _ = _ := hv97
              refine EL.run tabOk 1 rfl (EL.nil (EX.seq (E.join (fun env L Γ => ∃ (i99 : Int) (l100 : (List Host)) (es101 : List Value), env = [(0, some (.row 3)), (1, some (.v (.func (.func 26) #[] #[.pointer (some ⟨k29, 0, none⟩)]))), (5, some (.v (.int .i64 i99))), (6, some (.v (.int .i64 i75)))] ∧ L = [.box 25 [.v (.int .i64 p0.Segs), .v (.slice A1 p0.Plans.length c2), .v (.slice A4 p0.Hosts.length c5)], .gone, .row 41 2 l15.length es16, .row 69 2 l100.length es101, .sav [.row 2] vals36, .box 69 [.v (.int .i64 y84.Mac), .v (.int .i64 y84.Seg)]] ∧ GLe G98 Γ ∧ Els Γ l100 es101 ∧ lan_On_j3 k i75 (loopN (fun _ _ _ => none) (lan_On_s4 k p1 l15) n83) i99 l100 = some r) ?_ (fun hj103 => ?_))))
              · skip
                rintro _ _ G105 ⟨i99, l100, es101, rfl, rfl, hle104, h102, H⟩
                unfold lan_On_j3 at H
                have hf35 := FnR.mono hle104 hf35; have hc32 := CellsAt.mono hle104 hc32; have h3 := Rep.mono hle104 h3; have h6 := Rep.mono hle104 h6; have h17 := Els.mono h17 hle104
                exact EX.block (EX.seq (E.region (EL.run tabOk 3 rfl (EL.nil (EX.fewer (hK82 n83 _ _ _ (Nat.lt_succ_self _) ⟨i99, wr (i75 + 1), l100, es101, rfl, rfl, (GLe.trans (GLe.trans hle79 hle95) hle104), h102, H⟩) ⟨⟨_, rfl, rfl⟩, ⟨_, rfl, rfl⟩, ⟨_, rfl, rfl⟩, ⟨_, rfl, rfl⟩, trivial⟩ ⟨.inr rfl, .inr rfl, .inr rfl, .inr rfl, .inr rfl, trivial⟩ rfl rfl)))))
              · skip
                refine E.cond rfl H (fun hb H => ?_) (fun hb H => ?_)
                · skip
                  refine E.seq (E.region (EL.run tabOk 3 rfl ?_))
                  obtain ⟨y106, hy107, H⟩ := bind_some H
                  obtain ⟨g108, g109, g110, g111⟩ := idx_some hy107; obtain ⟨u112, hj113, hu114⟩ := All2.get h78 g111
                  refine EL.indexRow g108 g110 tabOk rfl rfl rfl rfl rfl rfl rfl rfl ?_
                  obtain rfl : _ = _ := hu114
                  obtain ⟨l115, hx116, H⟩ := bind_some H
                  refine EL.upd hx116 h78 (show R G98 y84 (.agg #[.int .i64 y84.Mac, .int .i64 y84.Seg]) from rfl) tabOk rfl rfl rfl rfl rfl rfl rfl rfl rfl rfl (fun es117 h118 => ?_)
                  exact EL.nil (EX.seq (E.region (EL.run tabOk 3 rfl (EL.nil (EX.fewer (hj103 _ _ _ ⟨wr (i74 + 1), l115, es117, rfl, rfl, (GLe.refl _), h118, H⟩) ⟨⟨_, rfl, rfl⟩, ⟨_, rfl, rfl⟩, ⟨_, rfl, rfl⟩, ⟨_, rfl, rfl⟩, trivial⟩ ⟨.inr rfl, .inr rfl, .inr rfl, .inr rfl, .inr rfl, .inr rfl, trivial⟩ rfl rfl)))))
                · skip
                  exact E.skip (EX.fewer (hj103 _ _ _ ⟨i74, l76, es77, rfl, rfl, (GLe.refl _), h78, H⟩) ⟨⟨_, rfl, rfl⟩, ⟨_, rfl, rfl⟩, ⟨_, rfl, rfl⟩, ⟨_, rfl, rfl⟩, trivial⟩ ⟨.inr rfl, .inr rfl, .inr rfl, .inr rfl, .inr rfl, .inr rfl, trivial⟩ rfl rfl)
            · skip
              exact E.exit (EX.out (EX.out (EX.hit (EX.fewer (hj62 _ _ _ ⟨i74, l76, es77, rfl, rfl, hle79, h78, H⟩) ⟨⟨_, rfl, rfl⟩, ⟨_, rfl, rfl⟩, trivial⟩ ⟨.inr rfl, .inr rfl, .inr rfl, .inr rfl, .inr rfl, trivial⟩ rfl rfl))))
    · skip
      refine E.block (E.fewer (E.loop (fun n env L Γ => ∃ (i119 : Int) (l120 : (List arr2_i64)) (es121 : List Value), env = [(2, some (.p 0 0)), (3, some (.p 1 0)), (8, some (.row 2)), (21, some (.v (.slice A1 p0.Plans.length c2))), (22, some (.v (.int .i64 (p0.Plans.length : Int)))), (23, some (.v (.int .i64 i119)))] ∧ L = [.box 25 [.v (.int .i64 p0.Segs), .v (.slice A1 p0.Plans.length c2), .v (.slice A4 p0.Hosts.length c5)], .box 3 [.v (.int .i64 p1)], .row 41 2 l120.length es121] ∧ GLe G12 Γ ∧ Els Γ l120 es121 ∧ loopN (fun _ _ => none) (lan_On_s10 k p0 p1) n i119 l120 = some r) k ⟨0, [], [], rfl, rfl, GLe.refl _, All2.nil, H⟩ ?_) ⟨⟨_, rfl, rfl⟩, ⟨_, rfl, rfl⟩, ⟨_, rfl, rfl⟩, ⟨_, rfl, rfl⟩, ⟨_, rfl, rfl⟩, ⟨_, rfl, rfl⟩, trivial⟩ ⟨.inr rfl, .inr rfl, .inr rfl, trivial⟩ rfl rfl)
      rintro n127 _ _ G125 ⟨i119, l120, es121, rfl, rfl, hle123, h122, H⟩ K hK126
      obtain _ | n127 := n127
      · exact none_ne H
      rw [loopN] at H; unfold lan_On_s10 at H
      have h3 := Rep.mono hle123 h3; have h6 := Rep.mono hle123 h6
      refine E.seq (E.region (EL.run tabOk 1 rfl (EL.nil (EX.seq (E.seq (E.cond rfl H (fun hb H => ?_) (fun hb H => ?_)))))))
      · skip
        refine E.skip (EX.seq (E.seq (E.block (E.seq (E.region (EL.run tabOk 1 rfl ?_))))))
        obtain ⟨y128, hy129, H⟩ := bind_some H
        refine EL.index hy129 h3 tabOk rfl rfl rfl rfl rfl rfl rfl rfl (fun b130 o131 u132 hu133 hc134 => ?_)
        obtain ⟨v138, rfl, h137⟩ := hu133
        obtain ⟨A135, c136, rfl, h137⟩ := Sl.open h137
        refine EL.load hc134 tabOk rfl rfl rfl rfl rfl rfl (EL.run tabOk 3 rfl (EL.nil (EX.seq (E.seq (E.region (EL.run tabOk 4 rfl (EL.nil (EX.seq (E.join (fun env L Γ => ∃ (l139 : (List arr2_i64)) (es140 : List Value), env = [(2, some (.p 0 0)), (3, some (.p 1 0)), (8, some (.row 2)), (21, some (.v (.slice A1 p0.Plans.length c2))), (22, some (.v (.int .i64 (p0.Plans.length : Int)))), (23, some (.v (.int .i64 i119)))] ∧ L = [.box 25 [.v (.int .i64 p0.Segs), .v (.slice A1 p0.Plans.length c2), .v (.slice A4 p0.Hosts.length c5)], .box 3 [.v (.int .i64 p1)], .row 41 2 l139.length es140, .box 33 [.v (.int .i64 y128.ID), .v (.slice A135 y128.Ports.length c136)]] ∧ GLe G125 Γ ∧ Els Γ l139 es140 ∧ lan_On_j6 k i119 (loopN (fun _ _ => none) (lan_On_s10 k p0 p1) n127) l139 = some r) ?_ (fun hj142 => ?_))))))))))
        · skip
          rintro _ _ G144 ⟨l139, es140, rfl, rfl, hle143, h141, H⟩
          unfold lan_On_j6 at H
          have h3 := Rep.mono hle143 h3; have h6 := Rep.mono hle143 h6; have h137 := Rep.mono hle143 h137
          exact EX.block (EX.seq (E.region (EL.run tabOk 2 rfl (EL.nil (EX.fewer (hK126 n127 _ _ _ (Nat.lt_succ_self _) ⟨wr (i119 + 1), l139, es140, rfl, rfl, (GLe.trans hle123 hle143), h141, H⟩) ⟨⟨_, rfl, rfl⟩, ⟨_, rfl, rfl⟩, ⟨_, rfl, rfl⟩, ⟨_, rfl, rfl⟩, ⟨_, rfl, rfl⟩, ⟨_, rfl, rfl⟩, trivial⟩ ⟨.inr rfl, .inr rfl, .inr rfl, trivial⟩ rfl rfl)))))
        · skip
          refine E.block (E.fewer (E.loop (fun n env L Γ => ∃ (i145 : Int) (l146 : (List arr2_i64)) (es147 : List Value), env = [(2, some (.p 0 0)), (3, some (.p 1 0)), (8, some (.row 2)), (9, some (.v (.int .i64 i119))), (21, some (.v (.slice A1 p0.Plans.length c2))), (22, some (.v (.int .i64 (p0.Plans.length : Int)))), (23, some (.v (.int .i64 i119))), (29, some (.v (.slice A135 y128.Ports.length c136))), (30, some (.v (.int .i64 (y128.Ports.length : Int)))), (31, some (.v (.int .i64 i145)))] ∧ L = [.box 25 [.v (.int .i64 p0.Segs), .v (.slice A1 p0.Plans.length c2), .v (.slice A4 p0.Hosts.length c5)], .box 3 [.v (.int .i64 p1)], .row 41 2 l146.length es147, .box 33 [.v (.int .i64 y128.ID), .v (.slice A135 y128.Ports.length c136)]] ∧ GLe G125 Γ ∧ Els Γ l146 es147 ∧ loopN (fun _ _ => none) (lan_On_s9 k p1 i119 (loopN (fun _ _ => none) (lan_On_s10 k p0 p1) n127) y128) n i145 l146 = some r) k ⟨0, l120, es121, rfl, rfl, GLe.refl _, h122, H⟩ ?_) ⟨⟨_, rfl, rfl⟩, ⟨_, rfl, rfl⟩, ⟨_, rfl, rfl⟩, ⟨_, rfl, rfl⟩, ⟨_, rfl, rfl⟩, ⟨_, rfl, rfl⟩, ⟨_, rfl, rfl⟩, ⟨_, rfl, rfl⟩, ⟨_, rfl, rfl⟩, ⟨_, rfl, rfl⟩, trivial⟩ ⟨.inr rfl, .inr rfl, .inr rfl, .inr rfl, trivial⟩ rfl rfl)
          rintro n153 _ _ G151 ⟨i145, l146, es147, rfl, rfl, hle149, h148, H⟩ K hK152
          obtain _ | n153 := n153
          · exact none_ne H
          rw [loopN] at H; unfold lan_On_s9 at H
          have h3 := Rep.mono hle149 h3; have h137 := Rep.mono hle149 h137; have h6 := Rep.mono hle149 h6
          refine E.seq (E.region (EL.run tabOk 1 rfl (EL.nil (EX.seq (E.seq (E.cond rfl H (fun hb H => ?_) (fun hb H => ?_)))))))
          · skip
            refine E.skip (EX.seq (E.seq (E.block (E.seq (E.region (EL.run tabOk 1 rfl ?_))))))
            obtain ⟨y154, hy155, H⟩ := bind_some H
            refine EL.index hy155 h137 tabOk rfl rfl rfl rfl rfl rfl rfl rfl (fun b156 o157 u158 hu159 hc160 => ?_)
            obtain rfl : _ = _ := hu159
            refine EL.load hc160 tabOk rfl rfl rfl rfl rfl rfl (EL.run tabOk 3 rfl (EL.nil (EX.seq (E.seq (E.join (fun env L Γ => ∃ (b161 : Bool), env = [(2, some (.p 0 0)), (3, some (.p 1 0)), (8, some (.row 2)), (9, some (.v (.int .i64 i119))), (11, some (.v (.int .i64 i145))), (21, some (.v (.slice A1 p0.Plans.length c2))), (22, some (.v (.int .i64 (p0.Plans.length : Int)))), (23, some (.v (.int .i64 i119))), (29, some (.v (.slice A135 y128.Ports.length c136))), (30, some (.v (.int .i64 (y128.Ports.length : Int)))), (31, some (.v (.int .i64 i145))), (43, some (.v (.bool b161)))] ∧ L = [.box 25 [.v (.int .i64 p0.Segs), .v (.slice A1 p0.Plans.length c2), .v (.slice A4 p0.Hosts.length c5)], .box 3 [.v (.int .i64 p1)], .row 41 2 l146.length es147, .box 33 [.v (.int .i64 y128.ID), .v (.slice A135 y128.Ports.length c136)], .box 35 [.v (.int .i64 y154.Seg), .v (.int .i64 y154.Cost), .v (.bool y154.Up)]] ∧ GLe G151 Γ ∧ lan_On_j8 k i119 i145 l146 (loopN (fun _ _ => none) (lan_On_s9 k p1 i119 (loopN (fun _ _ => none) (lan_On_s10 k p0 p1) n127) y128) n153) b161 = some r) ?_ (fun hj162 => ?_))))))
            · skip
              rintro _ _ G164 ⟨b161, rfl, rfl, hle163, H⟩
              unfold lan_On_j8 at H
              have h3 := Rep.mono hle163 h3; have h137 := Rep.mono hle163 h137; have h6 := Rep.mono hle163 h6; have h148 := Els.mono h148 hle163
              refine EX.seq (E.join (fun env L Γ => ∃ (l165 : (List arr2_i64)) (es166 : List Value), env = [(2, some (.p 0 0)), (3, some (.p 1 0)), (8, some (.row 2)), (9, some (.v (.int .i64 i119))), (21, some (.v (.slice A1 p0.Plans.length c2))), (22, some (.v (.int .i64 (p0.Plans.length : Int)))), (23, some (.v (.int .i64 i119))), (29, some (.v (.slice A135 y128.Ports.length c136))), (30, some (.v (.int .i64 (y128.Ports.length : Int)))), (31, some (.v (.int .i64 i145)))] ∧ L = [.box 25 [.v (.int .i64 p0.Segs), .v (.slice A1 p0.Plans.length c2), .v (.slice A4 p0.Hosts.length c5)], .box 3 [.v (.int .i64 p1)], .row 41 2 l165.length es166, .box 33 [.v (.int .i64 y128.ID), .v (.slice A135 y128.Ports.length c136)], .box 35 [.v (.int .i64 y154.Seg), .v (.int .i64 y154.Cost), .v (.bool y154.Up)]] ∧ GLe G164 Γ ∧ Els Γ l165 es166 ∧ lan_On_j7 k i145 (loopN (fun _ _ => none) (lan_On_s9 k p1 i119 (loopN (fun _ _ => none) (lan_On_s10 k p0 p1) n127) y128) n153) l165 = some r) ?_ (fun hj168 => ?_))
              · skip
                rintro _ _ G170 ⟨l165, es166, rfl, rfl, hle169, h167, H⟩
                unfold lan_On_j7 at H
                have h3 := Rep.mono hle169 h3; have h137 := Rep.mono hle169 h137; have h6 := Rep.mono hle169 h6
                exact EX.block (EX.seq (E.region (EL.run tabOk 2 rfl (EL.nil (EX.fewer (hK152 n153 _ _ _ (Nat.lt_succ_self _) ⟨wr (i145 + 1), l165, es166, rfl, rfl, (GLe.trans (GLe.trans hle149 hle163) hle169), h167, H⟩) ⟨⟨_, rfl, rfl⟩, ⟨_, rfl, rfl⟩, ⟨_, rfl, rfl⟩, ⟨_, rfl, rfl⟩, ⟨_, rfl, rfl⟩, ⟨_, rfl, rfl⟩, ⟨_, rfl, rfl⟩, ⟨_, rfl, rfl⟩, ⟨_, rfl, rfl⟩, ⟨_, rfl, rfl⟩, trivial⟩ ⟨.inr rfl, .inr rfl, .inr rfl, .inr rfl, trivial⟩ rfl rfl)))))
              · skip
                refine E.cond rfl H (fun hb H => ?_) (fun hb H => ?_)
                · skip
                  refine E.region (EL.run tabOk 5 rfl ?_)
                  obtain ⟨l171, hp172, H⟩ := bind_some H
                  refine EL.push hp172 h148 (show R G164 (⟨i119, i145⟩ : arr2_i64) (.agg #[.int .i64 i119, .int .i64 i145]) from rfl) tabOk rfl rfl rfl rfl rfl rfl rfl rfl rfl rfl rfl rfl rfl rfl rfl (fun k173 v174 es175 h176 => ?_)
                  exact EL.run tabOk 1 rfl (EL.nil (EX.fewer (hj168 _ _ _ ⟨l171, es175, rfl, rfl, (GLe.refl _), h176, H⟩) ⟨⟨_, rfl, rfl⟩, ⟨_, rfl, rfl⟩, ⟨_, rfl, rfl⟩, ⟨_, rfl, rfl⟩, ⟨_, rfl, rfl⟩, ⟨_, rfl, rfl⟩, ⟨_, rfl, rfl⟩, ⟨_, rfl, rfl⟩, ⟨_, rfl, rfl⟩, ⟨_, rfl, rfl⟩, trivial⟩ ⟨.inr rfl, .inr rfl, .inr rfl, .inr rfl, .inr rfl, trivial⟩ rfl rfl))
                · skip
                  exact E.skip (EX.fewer (hj168 _ _ _ ⟨l146, es147, rfl, rfl, (GLe.refl _), h148, H⟩) ⟨⟨_, rfl, rfl⟩, ⟨_, rfl, rfl⟩, ⟨_, rfl, rfl⟩, ⟨_, rfl, rfl⟩, ⟨_, rfl, rfl⟩, ⟨_, rfl, rfl⟩, ⟨_, rfl, rfl⟩, ⟨_, rfl, rfl⟩, ⟨_, rfl, rfl⟩, ⟨_, rfl, rfl⟩, trivial⟩ ⟨.inr rfl, .inr rfl, .inr rfl, .inr rfl, .inr rfl, trivial⟩ rfl rfl)
            · skip
              refine E.region (EL.run tabOk 3 rfl (EL.split (s := 38) rfl H (fun hb H => ?_) (fun hb H => ?_)))
              · skip
                exact EL.run tabOk 5 rfl (EL.nil (EX.fewer (hj162 _ _ _ ⟨y154.Seg == p1, rfl, rfl, (GLe.refl _), H⟩) ⟨⟨_, rfl, rfl⟩, ⟨_, rfl, rfl⟩, ⟨_, rfl, rfl⟩, ⟨_, rfl, rfl⟩, ⟨_, rfl, rfl⟩, ⟨_, rfl, rfl⟩, ⟨_, rfl, rfl⟩, ⟨_, rfl, rfl⟩, ⟨_, rfl, rfl⟩, ⟨_, rfl, rfl⟩, ⟨_, rfl, rfl⟩, ⟨_, rfl, rfl⟩, trivial⟩ ⟨.inr rfl, .inr rfl, .inr rfl, .inr rfl, .inr rfl, trivial⟩ rfl rfl))
              · skip
                exact EL.run tabOk 5 rfl (EL.nil (EX.fewer (hj162 _ _ _ ⟨false, rfl, rfl, (GLe.refl _), H⟩) ⟨⟨_, rfl, rfl⟩, ⟨_, rfl, rfl⟩, ⟨_, rfl, rfl⟩, ⟨_, rfl, rfl⟩, ⟨_, rfl, rfl⟩, ⟨_, rfl, rfl⟩, ⟨_, rfl, rfl⟩, ⟨_, rfl, rfl⟩, ⟨_, rfl, rfl⟩, ⟨_, rfl, rfl⟩, ⟨_, rfl, rfl⟩, ⟨_, rfl, rfl⟩, trivial⟩ ⟨.inr rfl, .inr rfl, .inr rfl, .inr rfl, .inr rfl, trivial⟩ rfl rfl))
          · skip
            exact E.exit (EX.out (EX.out (EX.hit (EX.fewer (hj142 _ _ _ ⟨l146, es147, rfl, rfl, hle149, h148, H⟩) ⟨⟨_, rfl, rfl⟩, ⟨_, rfl, rfl⟩, ⟨_, rfl, rfl⟩, ⟨_, rfl, rfl⟩, ⟨_, rfl, rfl⟩, ⟨_, rfl, rfl⟩, trivial⟩ ⟨.inr rfl, .inr rfl, .inr rfl, .inr rfl, trivial⟩ rfl rfl))))
      · skip
        exact E.exit (EX.out (EX.out (EX.hit (EX.fewer (hj18 _ _ _ ⟨l120, es121, rfl, rfl, hle123, h122, H⟩) ⟨⟨_, rfl, rfl⟩, ⟨_, rfl, rfl⟩, ⟨_, rfl, rfl⟩, trivial⟩ ⟨.inr rfl, .inr rfl, .inr rfl, trivial⟩ rfl rfl))))
end Go.Proofs.Ytdiclbejalelfaa
