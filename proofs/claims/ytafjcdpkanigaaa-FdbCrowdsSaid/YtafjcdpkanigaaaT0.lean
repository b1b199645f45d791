/- PRINTED by a program of the claim's own: the types of the seat, and Go's functions as Lean functions, each with the proof that a call of it comes to that. -/
import Derived.Test.YtafjcdpkanigaaaFwQ
import Derived.Test.YtafjcdpkanigaaaTD
import Derived.Test.YtafjcdpkanigaaaProg
set_option linter.unusedVariables false
set_option linter.unusedSimpArgs false
set_option maxRecDepth 100000
namespace Go.Proofs.Ytafjcdpkanigaaa
open Go.RowKit
open Rep (R)
def T : Tab := [none, some ⟨1, 8, [.nilFunc], .other⟩, none, some ⟨1, 8, [.int .i64 0], (.int .i64)⟩, some ⟨1, 1, [.bool false], .bool⟩, some ⟨1, 1, [.int .u8 0], (.int .u8)⟩, none, none, none, some ⟨1, 16, [.string ⟨#[]⟩], .str⟩, none, none, none, none, none, none, none, none, none, none, none, none, some ⟨1, 24, [.slice none 0 0], (.slice 44)⟩, none, some ⟨3, 40, [.slice none 0 0, .int .i64 0, .int .i64 0], (.struct [(0, 1, 22), (1, 1, 3), (2, 1, 3)])⟩, none, some ⟨1, 8, [.int .i64 0], (.int .i64)⟩, none, none, none, none, none, none, none, none, none, none, some ⟨1, 8, [.nilFunc], .other⟩, none, none, none, some ⟨1, 24, [.slice none 0 0], (.slice 3)⟩, some ⟨1, 8, [.map none], (.map 3 3)⟩, none, some ⟨1, 24, [.slice none 0 0], (.slice 49)⟩, none, none, none, none, some ⟨4, 32, [.int .i64 0, .int .i64 0, .int .i64 0, .bool false], (.struct [(0, 1, 3), (1, 1, 3), (2, 1, 3), (3, 1, 4)])⟩, none, none, none, none, none, none, none, none, none, none, none, none, none, none, none, some ⟨1, 8, [.nilFunc], .other⟩, none, none, none, none, none, none, some ⟨1, 24, [.slice none 0 0], (.slice 3)⟩, none, none, none, some ⟨1, 4, [.int .u32 0], (.int .u32)⟩, none, none, some ⟨6, 6, [.int .u8 0, .int .u8 0, .int .u8 0, .int .u8 0, .int .u8 0, .int .u8 0], (.arr 6 5)⟩, some ⟨1, 24, [.slice none 0 0], (.slice 5)⟩]
theorem tab_eq : tabAt Try.prog [none, some 1, none, some 3, some 4, some 5, none, none, none, some 9, none, none, none, none, none, none, none, none, none, none, none, none, some 22, none, some 24, none, some 26, none, none, none, none, none, none, none, none, none, none, some 37, none, none, none, some 41, some 42, none, some 44, none, none, none, none, some 49, none, none, none, none, none, none, none, none, none, none, none, none, none, none, none, some 65, none, none, none, none, none, none, some 72, none, none, none, some 76, none, none, some 79, some 80] = T := by kernel_rfl
theorem tabOk : TOk Try.prog T := by
  rw [← tab_eq]
  exact ti_tabAt _ _ (fun i t h => by have := idxOk_of (m := 0) (by rfl) i t h; omega)
def sts : List Nat := [49]
theorem stsAll : (sts.all fun t => !(Try.prog.stoodInHeld t)) = true := by kernel_rfl
theorem mixed : Try.prog.follows .mixedOrders = true := by kernel_rfl
theorem stsOk : ∀ t ∈ sts, Try.prog.stoodInHeld t = false := fun t h => by have := List.all_eq_true.1 stsAll t h; simpa using this
theorem gt49 : Try.prog.eqGuardType Try.prog.depth 49 = false := by kernel_rfl
theorem slices_DeleteFunc_enters : Enters Try.prog 58 := ⟨_, Try.func58, rfl, rfl⟩
theorem law08_few_enters : Enters Try.prog 5 := ⟨_, Try.func5, rfl, rfl⟩
set_option maxHeartbeats 4000000 in
theorem law08_few_ok {k : Nat} {p0 : Table} {r : Table} (H : law08_few k p0 = some r) {G : Ghost} {w : World} (hG : Holds G w) {v0 : Value} (h0 : R G p0 v0) : Ret Try.prog 5 [v0] w G (fun G v => R G r v) := by
  obtain ⟨v4, rfl, h3⟩ := h0
  obtain ⟨A1, c2, rfl, h3⟩ := Sl.open h3
  unfold law08_few at H
  refine start Try.func5 rfl Try.ntmps5 rfl hG (E.seq (E.region (EL.run tabOk 2 rfl (EL.nil (EX.seq (E.seq (E.region (EL.run tabOk 1 rfl (EL.nil (EX.seq (E.seq (E.seq (E.region (EL.run tabOk 6 rfl ?_))))))))))))))
  obtain ⟨l5, hy6, H⟩ := bind_some H
  refine EL.slice hy6 h3 tabOk rfl rfl rfl rfl rfl rfl rfl rfl rfl (fun A7 c8 h9 => ?_)
  refine EL.run tabOk 2 rfl (EL.nil (EX.seq (E.nilRow 3 44 1 rfl (E.join (fun env L Γ => ∃ (l10 : (List (List Entry))) (es11 : List Value), env = [(1, some (.p 0 0)), (2, some (.p 1 0)), (3, some (.row 2))] ∧ L = [.box 24 [.v (.slice A1 p0.Buckets.length c2), .v (.int .i64 p0.Slots), .v (.int .i64 p0.Age)], .box 24 [.v (.slice none 0 0), .v (.int .i64 0), .v (.int .i64 0)], .row 44 1 l10.length es11] ∧ GLe G Γ ∧ Els Γ l10 es11 ∧ law08_few_j1 k p0 l10 = some r) ?_ (fun hj13 => ?_)))))
  · skip
    rintro _ _ G15 ⟨l10, es11, rfl, rfl, hle14, h12, H⟩
    unfold law08_few_j1 at H
    have h3 := Rep.mono hle14 h3
    refine EX.seq (E.seq (E.region (EL.run tabOk 3 rfl (EL.nil (EX.seq (E.seq (E.region (EL.run tabOk 2 rfl (EL.nil (EX.seq (E.ret (EX.pubRow (xs := l10) 2 rfl h12 rfl (fun k16 A17 c18 G21 hle19 h20 => ?_)))))))))))))
    exact EX.retE H tabOk rfl ⟨_, rfl, h20⟩
  · skip
    refine E.block (E.fewer (E.loop (fun n env L Γ => ∃ (i22 : Int) (l23 : (List (List Entry))) (es24 : List Value), env = [(1, some (.p 0 0)), (2, some (.p 1 0)), (3, some (.row 2)), (12, some (.v (.slice A7 l5.length c8))), (13, some (.v (.int .i64 (l5.length : Int)))), (14, some (.v (.int .i64 i22)))] ∧ L = [.box 24 [.v (.slice A1 p0.Buckets.length c2), .v (.int .i64 p0.Slots), .v (.int .i64 p0.Age)], .box 24 [.v (.slice none 0 0), .v (.int .i64 0), .v (.int .i64 0)], .row 44 1 l23.length es24] ∧ GLe G Γ ∧ Els Γ l23 es24 ∧ loopN (fun _ _ => none) (law08_few_s2 k p0 l5) n i22 l23 = some r) k ⟨0, [], [], rfl, rfl, GLe.refl _, All2.nil, H⟩ ?_) ⟨⟨_, rfl, rfl⟩, ⟨_, rfl, rfl⟩, ⟨_, rfl, rfl⟩, ⟨_, rfl, rfl⟩, ⟨_, rfl, rfl⟩, ⟨_, rfl, rfl⟩, trivial⟩ ⟨.inr rfl, .inr rfl, .inr rfl, trivial⟩ rfl rfl)
    rintro n30 _ _ G28 ⟨i22, l23, es24, rfl, rfl, hle26, h25, H⟩ K hK29
    obtain _ | n30 := n30
    · exact none_ne H
    rw [loopN] at H; unfold law08_few_s2 at H
    have h9 := Rep.mono hle26 h9; have h3 := Rep.mono hle26 h3
    refine E.seq (E.region (EL.run tabOk 1 rfl (EL.nil (EX.seq (E.seq (E.cond rfl H (fun hb H => ?_) (fun hb H => ?_)))))))
    · skip
      refine E.skip (EX.seq (E.seq (E.block (E.seq (E.region ?_)))))
      obtain ⟨y31, hy32, H⟩ := bind_some H
      refine EL.index hy32 h9 tabOk rfl rfl rfl rfl rfl rfl rfl rfl (fun b33 o34 u35 hu36 hc37 => ?_)
      obtain ⟨A38, c39, rfl, h40⟩ := Sl.open hu36
      refine EL.load hc37 tabOk rfl rfl rfl rfl rfl rfl (EL.run tabOk 1 rfl (EL.nil (EX.seq (E.region (EL.run tabOk 5 rfl ?_)))))
      obtain ⟨l41, hy42, H⟩ := bind_some H
      refine EL.slice hy42 h40 tabOk rfl rfl rfl rfl rfl rfl rfl rfl rfl (fun A43 c44 h45 => ?_)
      refine EL.run tabOk 1 rfl ?_
      obtain ⟨l46, hp47, H⟩ := bind_some H
      refine EL.push hp47 h25 (show R G28 l41 (.slice A43 l41.length c44) from h45) tabOk rfl rfl rfl rfl rfl rfl rfl rfl rfl rfl rfl rfl rfl rfl rfl (fun k48 v49 es50 h51 => ?_)
      exact EL.run tabOk 1 rfl (EL.nil (EX.block (EX.seq (E.region (EL.run tabOk 2 rfl (EL.nil (EX.fewer (hK29 n30 _ _ _ (Nat.lt_succ_self _) ⟨wr (i22 + 1), l46, es50, rfl, rfl, hle26, h51, H⟩) ⟨⟨_, rfl, rfl⟩, ⟨_, rfl, rfl⟩, ⟨_, rfl, rfl⟩, ⟨_, rfl, rfl⟩, ⟨_, rfl, rfl⟩, ⟨_, rfl, rfl⟩, trivial⟩ ⟨.inr rfl, .inr rfl, .inr rfl, trivial⟩ rfl rfl)))))))
    · skip
      exact E.exit (EX.out (EX.out (EX.hit (EX.fewer (hj13 _ _ _ ⟨l23, es24, rfl, rfl, hle26, h25, H⟩) ⟨⟨_, rfl, rfl⟩, ⟨_, rfl, rfl⟩, ⟨_, rfl, rfl⟩, trivial⟩ ⟨.inr rfl, .inr rfl, .inr rfl, trivial⟩ rfl rfl))))
theorem hash_isNumber_enters : Enters Try.prog 46 := ⟨_, Try.func46, rfl, rfl⟩
set_option maxHeartbeats 4000000 in
theorem hash_isNumber_ok {k : Nat} {p0 : Int} {r : Bool} (H : hash_isNumber k p0 = some r) {G : Ghost} {w : World} (hG : Holds G w)  : Ret Try.prog 46 [.int .i64 p0] w G (fun G v => R G r v) := by
  unfold hash_isNumber at H
  exact start Try.func46 rfl Try.ntmps46 rfl hG (E.seq (E.region (EL.run tabOk 1 rfl (EL.nil (EX.seq (E.seq (E.region (EL.run tabOk 14 rfl (EL.nil (EX.seq (E.ret (EX.retE H tabOk rfl rfl))))))))))))
theorem mac_Right_enters : Enters Try.prog 52 := ⟨_, Try.func52, rfl, rfl⟩
set_option maxHeartbeats 4000000 in
theorem mac_Right_ok {k : Nat} {p0 : Int} {r : Bool} (H : mac_Right k p0 = some r) {G : Ghost} {w : World} (hG : Holds G w)  : Ret Try.prog 52 [.int .i64 p0] w G (fun G v => R G r v) := by
  unfold mac_Right at H
  exact start Try.func52 rfl Try.ntmps52 rfl hG (E.seq (E.region (EL.run tabOk 1 rfl (EL.nil (EX.seq (E.seq (E.region (EL.run tabOk 7 rfl (EL.nil (EX.seq (E.ret (EX.retE H tabOk rfl rfl))))))))))))
theorem mac_Bytes_enters : Enters Try.prog 56 := ⟨_, Try.func56, rfl, rfl⟩
set_option maxHeartbeats 4000000 in
theorem mac_Bytes_ok {k : Nat} {p0 : Int} {r : (ByteArray × Int)} (H : mac_Bytes k p0 = some r) {G : Ghost} {w : World} (hG : Holds G w)  : Ret Try.prog 56 [.int .i64 p0] w G (fun G v => R2 G r v) := by
  unfold mac_Bytes at H
  refine start Try.func56 rfl Try.ntmps56 rfl hG (E.seq (E.region (EL.run tabOk 2 rfl (EL.nil (EX.seq (E.seq (E.seq (E.region (EL.run tabOk 1 rfl ?_)))))))))
  obtain ⟨x1, hx2, H⟩ := bind_some H
  refine EL.call rfl rfl rfl rfl mac_Right_enters (fun w hw => mac_Right_ok hx2 hw ) (fun v5 G4 hle3 hv6 => ?_)
  obtain rfl : _ = _ := hv6
  refine EL.run tabOk 1 rfl (EL.nil (EX.seq (E.cond rfl H (fun hb H => ?_) (fun hb H => ?_))))
  · skip
    exact E.seq (E.region (EL.run tabOk 2 rfl (EL.nil (EX.seq (E.ret (EX.retT (EX.retE H tabOk rfl ⟨_, _, rfl, rfl, rfl⟩)))))))
  · skip
    refine E.skip (EX.seq (E.seq (E.region (EL.allocArr (z0 := (⟨0⟩ : IK .u8)) (z := .int .u8 0) (show R G4 (⟨0⟩ : IK .u8) (.int .u8 0) from rfl) tabOk rfl rfl rfl rfl rfl rfl rfl (fun es7 h8 => ?_)))))
    refine EL.nil (EX.seq (E.seq (E.seq (E.region (EL.run tabOk 1 rfl (EL.nil (EX.seq (E.join (fun env L Γ => ∃ (l9 : (List (IK .u8))) (es10 : List Value), env = [(4, some (.p 0 0))] ∧ L = [.row 79 1 6 es10] ∧ GLe G4 Γ ∧ Els Γ l9 es10 ∧ mac_Bytes_j1 k l9 = some r) ?_ (fun hj12 => ?_)))))))))
    · skip
      rintro _ _ G14 ⟨l9, es10, rfl, rfl, hle13, h11, H⟩
      unfold mac_Bytes_j1 at H
      refine EX.seq (E.seq (E.region (EL.sliceArr h11 rfl tabOk rfl rfl rfl rfl rfl rfl rfl rfl (fun k15 v16 A17 c18 G21 hle19 h20 => ?_))))
      exact EL.bytesStr h20 tabOk rfl rfl rfl rfl rfl rfl rfl (EL.run tabOk 2 rfl (EL.nil (EX.seq (E.ret (EX.retE H tabOk rfl ⟨_, _, rfl, rfl, rfl⟩)))))
    · skip
      refine E.block (E.fewer (E.loop (fun n env L Γ => ∃ (i22 : Int) (l23 : (List (IK .u8))) (es24 : List Value), env = [(0, some (.v (.int .i64 p0))), (4, some (.p 0 0)), (9, some (.v (.int .i64 i22)))] ∧ L = [.row 79 1 6 es24] ∧ GLe G4 Γ ∧ Els Γ l23 es24 ∧ loopN (fun _ _ => none) (mac_Bytes_s2 k p0) n i22 l23 = some r) k ⟨0, (List.replicate 6 (⟨0⟩ : IK .u8)), es7, rfl, rfl, GLe.refl _, h8, H⟩ ?_) ⟨⟨_, rfl, rfl⟩, ⟨_, rfl, rfl⟩, ⟨_, rfl, rfl⟩, trivial⟩ ⟨.inr rfl, trivial⟩ rfl rfl)
      rintro n30 _ _ G28 ⟨i22, l23, es24, rfl, rfl, hle26, h25, H⟩ K hK29
      obtain _ | n30 := n30
      · exact none_ne H
      rw [loopN] at H; unfold mac_Bytes_s2 at H
      refine E.seq (E.region (EL.run tabOk 1 rfl (EL.nil (EX.seq (E.seq (E.cond rfl H (fun hb H => ?_) (fun hb H => ?_)))))))
      · skip
        refine E.skip (EX.seq (E.seq (E.block (E.seq (E.region (EL.run tabOk 2 rfl (EL.nil (EX.seq (E.region (EL.run tabOk 5 rfl ?_))))))))))
        obtain ⟨i31, hq32, H⟩ := bind_some H
        refine EL.shr hq32 rfl rfl rfl rfl rfl (EL.run tabOk 1 rfl ?_)
        obtain ⟨y33, hy34, H⟩ := bind_some H
        obtain ⟨g35, g36, g37, g38⟩ := idx_some hy34; obtain ⟨u39, hj40, hu41⟩ := All2.get h25 g38
        refine EL.indexArr g35 g37 h25 tabOk rfl rfl rfl rfl rfl rfl rfl rfl ?_
        obtain rfl : _ = _ := hu41
        obtain ⟨l42, hx43, H⟩ := bind_some H
        refine EL.updA hx43 h25 (show R G28 (⟨IntKind.u8.wrap i31⟩ : IK .u8) (.int .u8 (IntKind.u8.wrap i31)) from rfl) tabOk rfl rfl rfl rfl rfl rfl rfl rfl rfl (fun es44 h45 => ?_)
        exact EL.nil (EX.block (EX.seq (E.region (EL.run tabOk 2 rfl (EL.nil (EX.fewer (hK29 n30 _ _ _ (Nat.lt_succ_self _) ⟨wr (i22 + 1), l42, es44, rfl, rfl, hle26, h45, H⟩) ⟨⟨_, rfl, rfl⟩, ⟨_, rfl, rfl⟩, ⟨_, rfl, rfl⟩, trivial⟩ ⟨.inr rfl, trivial⟩ rfl rfl))))))
      · skip
        exact E.exit (EX.out (EX.out (EX.hit (EX.fewer (hj12 _ _ _ ⟨l23, es24, rfl, rfl, hle26, h25, H⟩) ⟨⟨_, rfl, rfl⟩, trivial⟩ ⟨.inr rfl, trivial⟩ rfl rfl))))
theorem hash_Sum_enters : Enters Try.prog 47 := ⟨_, Try.func47, rfl, rfl⟩
set_option maxHeartbeats 4000000 in
theorem hash_Sum_ok {k : Nat} {p0 : Int} {r : (Int × Int)} (H : hash_Sum k p0 = some r) {G : Ghost} {w : World} (hG : Holds G w)  : Ret Try.prog 47 [.int .i64 p0] w G (fun G v => R2 G r v) := by
  unfold hash_Sum at H
  refine start Try.func47 rfl Try.ntmps47 rfl hG (E.seq (E.region (EL.run tabOk 2 rfl (EL.nil (EX.seq (E.seq (E.region (EL.run tabOk 1 rfl ?_))))))))
  obtain ⟨x1, hx2, H⟩ := bind_some H
  refine EL.call rfl rfl rfl rfl mac_Bytes_enters (fun w hw => mac_Bytes_ok hx2 hw ) (fun v5 G4 hle3 hv6 => ?_)
  obtain ⟨u7, u8, rfl, h9, h10⟩ := hv6
  obtain rfl : _ = _ := h9
  obtain rfl : _ = _ := h10
  refine EL.run tabOk 5 rfl (EL.nil (EX.seq (E.seq (E.seq (E.region (EL.run tabOk 2 rfl (EL.nil (EX.seq (E.cond rfl H (fun hb H => ?_) (fun hb H => ?_))))))))))
  · skip
    exact E.seq (E.region (EL.run tabOk 3 rfl (EL.nil (EX.seq (E.ret (EX.retT (EX.retE H tabOk rfl ⟨_, _, rfl, rfl, rfl⟩)))))))
  · skip
    refine E.skip (EX.seq (E.seq (E.region (EL.run tabOk 1 rfl (EL.nil (EX.seq (E.seq (E.seq (E.region (EL.run tabOk 3 rfl (EL.nil (EX.seq (E.join (fun env L Γ => ∃ (i11 : (IK .u32)), env = [(6, some (.v (.int .u32 i11.n)))] ∧ L = [] ∧ GLe G4 Γ ∧ hash_Sum_j1 k i11 = some r) ?_ (fun hj12 => ?_))))))))))))))
    · skip
      rintro _ _ G14 ⟨i11, rfl, rfl, hle13, H⟩
      unfold hash_Sum_j1 at H
      exact EX.seq (E.seq (E.region (EL.run tabOk 4 rfl (EL.nil (EX.seq (E.ret (EX.retE H tabOk rfl ⟨_, _, rfl, rfl, rfl⟩)))))))
    · skip
      refine E.block (E.fewer (E.loop (fun n env L Γ => ∃ (i15 : (IK .u32)) (i16 : Int), env = [(4, some (.v (.string x1.1))), (6, some (.v (.int .u32 i15.n))), (17, some (.v (.int .i64 (x1.1.size : Int)))), (18, some (.v (.int .i64 i16)))] ∧ L = [] ∧ GLe G4 Γ ∧ loopN (fun _ _ => none) (hash_Sum_s2 k x1) n i15 i16 = some r) k ⟨(⟨2166136261⟩ : IK .u32), 0, rfl, rfl, GLe.refl _, H⟩ ?_) ⟨⟨_, rfl, rfl⟩, ⟨_, rfl, rfl⟩, ⟨_, rfl, rfl⟩, ⟨_, rfl, rfl⟩, trivial⟩ trivial rfl rfl)
      rintro n21 _ _ G19 ⟨i15, i16, rfl, rfl, hle17, H⟩ K hK20
      obtain _ | n21 := n21
      · exact none_ne H
      rw [loopN] at H; unfold hash_Sum_s2 at H
      refine E.seq (E.region (EL.run tabOk 1 rfl (EL.nil (EX.seq (E.seq (E.cond rfl H (fun hb H => ?_) (fun hb H => ?_)))))))
      · skip
        refine E.skip (EX.seq (E.seq (E.block (E.seq (E.region (EL.run tabOk 2 rfl (EL.nil (EX.seq (E.region (EL.run tabOk 3 rfl ?_))))))))))
        obtain ⟨i22, hc23, H⟩ := bind_some H
        exact EL.sindex hc23 tabOk rfl rfl rfl rfl rfl rfl (EL.run tabOk 4 rfl (EL.nil (EX.block (EX.seq (E.region (EL.run tabOk 2 rfl (EL.nil (EX.fewer (hK20 n21 _ _ _ (Nat.lt_succ_self _) ⟨(⟨IntKind.u32.wrap ((bxor .u32 i15.n (IntKind.u32.wrap i22)) * 16777619)⟩ : IK .u32), wr (i16 + 1), rfl, rfl, hle17, H⟩) ⟨⟨_, rfl, rfl⟩, ⟨_, rfl, rfl⟩, ⟨_, rfl, rfl⟩, ⟨_, rfl, rfl⟩, trivial⟩ trivial rfl rfl))))))))
      · skip
        exact E.exit (EX.out (EX.out (EX.hit (EX.fewer (hj12 _ _ _ ⟨i15, rfl, rfl, hle17, H⟩) ⟨⟨_, rfl, rfl⟩, trivial⟩ trivial rfl rfl))))
theorem hash_Bucket_enters : Enters Try.prog 27 := ⟨_, Try.func27, rfl, rfl⟩
set_option maxHeartbeats 4000000 in
theorem hash_Bucket_ok {k : Nat} {p0 : Int} {p1 : Int} {r : (Int × Int)} (H : hash_Bucket k p0 p1 = some r) {G : Ghost} {w : World} (hG : Holds G w)  : Ret Try.prog 27 [.int .i64 p0, .int .i64 p1] w G (fun G v => R2 G r v) := by
  unfold hash_Bucket at H
  refine start Try.func27 rfl Try.ntmps27 rfl hG (E.seq (E.region (EL.run tabOk 2 rfl (EL.nil (EX.seq (E.seq (E.seq (E.region (EL.run tabOk 1 rfl ?_)))))))))
  obtain ⟨x1, hx2, H⟩ := bind_some H
  refine EL.call rfl rfl rfl rfl hash_isNumber_enters (fun w hw => hash_isNumber_ok hx2 hw ) (fun v5 G4 hle3 hv6 => ?_)
  obtain rfl : _ = _ := hv6
  refine EL.run tabOk 1 rfl (EL.nil (EX.seq (E.cond rfl H (fun hb H => ?_) (fun hb H => ?_))))
  · skip
    exact E.seq (E.region (EL.run tabOk 2 rfl (EL.nil (EX.seq (E.ret (EX.retT (EX.retE H tabOk rfl ⟨_, _, rfl, rfl, rfl⟩)))))))
  · skip
    refine E.skip (EX.seq (E.seq (E.region (EL.run tabOk 1 rfl ?_))))
    obtain ⟨x7, hx8, H⟩ := bind_some H
    refine EL.call rfl rfl rfl rfl hash_Sum_enters (fun w hw => hash_Sum_ok hx8 hw ) (fun v11 G10 hle9 hv12 => ?_)
    obtain ⟨u13, u14, rfl, h15, h16⟩ := hv12
    obtain rfl : _ = _ := h15
    obtain rfl : _ = _ := h16
    exact EL.run tabOk 5 rfl (EL.nil (EX.seq (E.seq (E.region (EL.run tabOk 7 rfl (EL.nil (EX.seq (E.ret (EX.retE H tabOk rfl ⟨_, _, rfl, rfl, rfl⟩)))))))))
theorem fdb_in_enters : Enters Try.prog 37 := ⟨_, Try.func37, rfl, rfl⟩
set_option maxHeartbeats 4000000 in
theorem fdb_in_ok {k : Nat} {p0 : Int} {p1 : Int} {p2 : Int} {r : Bool} (H : fdb_in k p0 p1 p2 = some r) {G : Ghost} {w : World} (hG : Holds G w)  : Ret Try.prog 37 [.int .i64 p0, .int .i64 p1, .int .i64 p2] w G (fun G v => R G r v) := by
  unfold fdb_in at H
  exact start Try.func37 rfl Try.ntmps37 rfl hG (E.seq (E.region (EL.run tabOk 1 rfl (EL.nil (EX.seq (E.seq (E.region (EL.run tabOk 9 rfl (EL.nil (EX.seq (E.ret (EX.retE H tabOk rfl rfl))))))))))))
theorem fdb_sizes_enters : Enters Try.prog 20 := ⟨_, Try.func20, rfl, rfl⟩
set_option maxHeartbeats 4000000 in
theorem fdb_sizes_ok {k : Nat} {p0 : Int} {p1 : Int} {p2 : Int} {r : Bool} (H : fdb_sizes k p0 p1 p2 = some r) {G : Ghost} {w : World} (hG : Holds G w)  : Ret Try.prog 20 [.int .i64 p0, .int .i64 p1, .int .i64 p2] w G (fun G v => R G r v) := by
  unfold fdb_sizes at H
  refine start Try.func20 rfl Try.ntmps20 rfl hG (E.seq (E.region (EL.run tabOk 1 rfl (EL.nil (EX.seq (E.seq (E.region (EL.run tabOk 1 rfl ?_))))))))
  obtain ⟨x1, hx2, H⟩ := bind_some H
  refine EL.call rfl rfl rfl rfl hash_Bucket_enters (fun w hw => hash_Bucket_ok hx2 hw ) (fun v5 G4 hle3 hv6 => ?_)
  obtain ⟨u7, u8, rfl, h9, h10⟩ := hv6
  obtain rfl : _ = _ := h9
  obtain rfl : _ = _ := h10
  refine EL.run tabOk 5 rfl (EL.nil (EX.seq (E.seq (E.region (EL.run tabOk 3 rfl (EL.split (s := 16) rfl H (fun hb H => ?_) (fun hb H => ?_)))))))
  · skip
    refine EL.run tabOk 1 rfl ?_
    obtain ⟨x11, hx12, H⟩ := bind_some H
    refine EL.call rfl rfl rfl rfl fdb_in_enters (fun w hw => fdb_in_ok hx12 hw ) (fun v15 G14 hle13 hv16 => ?_)
    obtain rfl : _ = _ := hv16
    refine EL.run tabOk 2 rfl (EL.split (s := 20) rfl H (fun hb H => ?_) (fun hb H => ?_))
    · skip
      refine EL.run tabOk 1 rfl ?_
      obtain ⟨x17, hx18, H⟩ := bind_some H
      refine EL.call rfl rfl rfl rfl fdb_in_enters (fun w hw => fdb_in_ok hx18 hw ) (fun v21 G20 hle19 hv22 => ?_)
      obtain rfl : _ = _ := hv22
      exact EL.run tabOk 2 rfl (EL.nil (EX.seq (E.ret (EX.retE H tabOk rfl rfl))))
    · skip
      exact EL.run tabOk 4 rfl (EL.nil (EX.seq (E.ret (EX.retE H tabOk rfl rfl))))
  · skip
    exact EL.run tabOk 8 rfl (EL.nil (EX.seq (E.ret (EX.retE H tabOk rfl rfl))))
theorem fdb_New_enters : Enters Try.prog 6 := ⟨_, Try.func6, rfl, rfl⟩
set_option maxHeartbeats 4000000 in
theorem fdb_New_ok {k : Nat} {p0 : Int} {p1 : Int} {p2 : Int} {r : (Table × Int)} (H : fdb_New k p0 p1 p2 = some r) {G : Ghost} {w : World} (hG : Holds G w)  : Ret Try.prog 6 [.int .i64 p0, .int .i64 p1, .int .i64 p2] w G (fun G v => R2 G r v) := by
  unfold fdb_New at H
  refine start Try.func6 rfl Try.ntmps6 rfl hG (E.seq (E.region (EL.run tabOk 2 rfl (EL.nil (EX.seq (E.seq (E.seq (E.region (EL.run tabOk 3 rfl ?_)))))))))
  obtain ⟨x1, hx2, H⟩ := bind_some H
  refine EL.call rfl rfl rfl rfl fdb_sizes_enters (fun w hw => fdb_sizes_ok hx2 hw ) (fun v5 G4 hle3 hv6 => ?_)
  obtain rfl : _ = _ := hv6
  refine EL.run tabOk 1 rfl (EL.nil (EX.seq (E.cond rfl H (fun hb H => ?_) (fun hb H => ?_))))
  · skip
    exact E.seq (E.region (EL.run tabOk 3 rfl (EL.nil (EX.seq (E.ret (EX.retT (EX.retE H tabOk rfl ⟨_, _, rfl, ⟨_, rfl, (Sl.nil _)⟩, rfl⟩)))))))
  · skip
    refine E.skip (EX.seq (E.seq (E.region (EL.run tabOk 1 rfl ?_))))
    obtain ⟨l7, hx8, H⟩ := bind_some H
    refine EL.mk (z := .slice none 0 0) hx8 (Sl.nil _) tabOk rfl rfl rfl rfl rfl rfl rfl rfl rfl rfl rfl (fun es9 h10 => ?_)
    refine EL.run tabOk 5 rfl (EL.nil (EX.seq (E.ret (EX.pubRow (xs := l7) 1 rfl h10 rfl (fun k11 A12 c13 G16 hle14 h15 => ?_)))))
    exact EX.retE H tabOk rfl ⟨_, _, rfl, ⟨_, rfl, h15⟩, rfl⟩
theorem mac_Class_enters : Enters Try.prog 38 := ⟨_, Try.func38, rfl, rfl⟩
set_option maxHeartbeats 4000000 in
theorem mac_Class_ok {k : Nat} {p0 : Int} {r : (Int × Int)} (H : mac_Class k p0 = some r) {G : Ghost} {w : World} (hG : Holds G w)  : Ret Try.prog 38 [.int .i64 p0] w G (fun G v => R2 G r v) := by
  unfold mac_Class at H
  refine start Try.func38 rfl Try.ntmps38 rfl hG (E.seq (E.region (EL.run tabOk 2 rfl (EL.nil (EX.seq (E.seq (E.block (E.seq (E.region (EL.run tabOk 1 rfl ?_))))))))))
  obtain ⟨x1, hx2, H⟩ := bind_some H
  refine EL.call rfl rfl rfl rfl mac_Right_enters (fun w hw => mac_Right_ok hx2 hw ) (fun v5 G4 hle3 hv6 => ?_)
  obtain rfl : _ = _ := hv6
  refine EL.run tabOk 2 rfl (EL.nil (EX.seq (E.cond rfl H (fun hb H => ?_) (fun hb H => ?_))))
  · skip
    exact E.seq (E.region (EL.run tabOk 2 rfl (EL.nil (EX.seq (E.ret (EX.retB (EX.retT (EX.retE H tabOk rfl ⟨_, _, rfl, rfl, rfl⟩))))))))
  · skip
    refine E.seq (E.region (EL.run tabOk 4 rfl (EL.nil (EX.seq (E.cond rfl H (fun hb H => ?_) (fun hb H => ?_))))))
    · skip
      exact E.seq (E.region (EL.run tabOk 2 rfl (EL.nil (EX.seq (E.ret (EX.retB (EX.retT (EX.retE H tabOk rfl ⟨_, _, rfl, rfl, rfl⟩))))))))
    · skip
      exact E.skip (EX.block (EX.seq (E.seq (E.region (EL.run tabOk 5 rfl (EL.nil (EX.seq (E.ret (EX.retE H tabOk rfl ⟨_, _, rfl, rfl, rfl⟩)))))))))
theorem fdb_isMac_enters : Enters Try.prog 21 := ⟨_, Try.func21, rfl, rfl⟩
set_option maxHeartbeats 4000000 in
theorem fdb_isMac_ok {k : Nat} {p0 : Int} {r : Bool} (H : fdb_isMac k p0 = some r) {G : Ghost} {w : World} (hG : Holds G w)  : Ret Try.prog 21 [.int .i64 p0] w G (fun G v => R G r v) := by
  unfold fdb_isMac at H
  refine start Try.func21 rfl Try.ntmps21 rfl hG (E.seq (E.region (EL.run tabOk 1 rfl (EL.nil (EX.seq (E.seq (E.region (EL.run tabOk 1 rfl ?_))))))))
  obtain ⟨x1, hx2, H⟩ := bind_some H
  refine EL.call rfl rfl rfl rfl mac_Class_enters (fun w hw => mac_Class_ok hx2 hw ) (fun v5 G4 hle3 hv6 => ?_)
  obtain ⟨u7, u8, rfl, h9, h10⟩ := hv6
  obtain rfl : _ = _ := h9
  obtain rfl : _ = _ := h10
  exact EL.run tabOk 5 rfl (EL.nil (EX.seq (E.seq (E.region (EL.run tabOk 7 rfl (EL.nil (EX.seq (E.ret (EX.retE H tabOk rfl rfl)))))))))
theorem fdb_isPort_enters : Enters Try.prog 22 := ⟨_, Try.func22, rfl, rfl⟩
set_option maxHeartbeats 4000000 in
theorem fdb_isPort_ok {k : Nat} {p0 : Int} {r : Bool} (H : fdb_isPort k p0 = some r) {G : Ghost} {w : World} (hG : Holds G w)  : Ret Try.prog 22 [.int .i64 p0] w G (fun G v => R G r v) := by
  unfold fdb_isPort at H
  refine start Try.func22 rfl Try.ntmps22 rfl hG (E.seq (E.region (EL.run tabOk 1 rfl (EL.nil (EX.seq (E.seq (E.region (EL.run tabOk 1 rfl ?_))))))))
  obtain ⟨x1, hx2, H⟩ := bind_some H
  refine EL.call rfl rfl rfl rfl fdb_in_enters (fun w hw => fdb_in_ok hx2 hw ) (fun v5 G4 hle3 hv6 => ?_)
  obtain rfl : _ = _ := hv6
  exact EL.run tabOk 1 rfl (EL.nil (EX.seq (E.ret (EX.retE H tabOk rfl rfl))))
theorem fdb_isTime_enters : Enters Try.prog 23 := ⟨_, Try.func23, rfl, rfl⟩
set_option maxHeartbeats 4000000 in
theorem fdb_isTime_ok {k : Nat} {p0 : Int} {r : Bool} (H : fdb_isTime k p0 = some r) {G : Ghost} {w : World} (hG : Holds G w)  : Ret Try.prog 23 [.int .i64 p0] w G (fun G v => R G r v) := by
  unfold fdb_isTime at H
  refine start Try.func23 rfl Try.ntmps23 rfl hG (E.seq (E.region (EL.run tabOk 1 rfl (EL.nil (EX.seq (E.seq (E.region (EL.run tabOk 1 rfl ?_))))))))
  obtain ⟨x1, hx2, H⟩ := bind_some H
  refine EL.call rfl rfl rfl rfl fdb_in_enters (fun w hw => fdb_in_ok hx2 hw ) (fun v5 G4 hle3 hv6 => ?_)
  obtain rfl : _ = _ := hv6
  exact EL.run tabOk 1 rfl (EL.nil (EX.seq (E.ret (EX.retE H tabOk rfl rfl))))
theorem fdb_Right_enters : Enters Try.prog 9 := ⟨_, Try.func9, rfl, rfl⟩
set_option maxHeartbeats 4000000 in
theorem fdb_Right_ok {k : Nat} {p0 : Table} {r : Bool} (H : fdb_Right k p0 = some r) {G : Ghost} {w : World} (hG : Holds G w) {v0 : Value} (h0 : R G p0 v0) : Ret Try.prog 9 [v0] w G (fun G v => R G r v) := by
  obtain ⟨v4, rfl, h3⟩ := h0
  obtain ⟨A1, c2, rfl, h3⟩ := Sl.open h3
  unfold fdb_Right at H
  refine start Try.func9 rfl Try.ntmps9 rfl hG (E.seq (E.region (EL.run tabOk 2 rfl (EL.nil (EX.seq (E.seq (E.seq (E.region (EL.run tabOk 7 rfl ?_)))))))))
  obtain ⟨x5, hx6, H⟩ := bind_some H
  refine EL.call rfl rfl rfl rfl fdb_sizes_enters (fun w hw => fdb_sizes_ok hx6 hw ) (fun v9 G8 hle7 hv10 => ?_)
  have h3 := Rep.mono hle7 h3
  obtain rfl : _ = _ := hv10
  refine EL.run tabOk 1 rfl (EL.nil (EX.seq (E.cond rfl H (fun hb H => ?_) (fun hb H => ?_))))
  · skip
    exact E.seq (E.region (EL.run tabOk 1 rfl (EL.nil (EX.seq (E.ret (EX.retT (EX.retE H tabOk rfl rfl)))))))
  · skip
    refine E.skip (EX.seq (E.seq (E.seq (E.region (EL.run tabOk 4 rfl (EL.nil (EX.seq (E.join (fun env L Γ =>  env = [] ∧ L = [.box 24 [.v (.slice A1 p0.Buckets.length c2), .v (.int .i64 p0.Slots), .v (.int .i64 p0.Age)]] ∧ GLe G8 Γ ∧ fdb_Right_j1 k = some r) ?_ (fun hj11 => ?_)))))))))
    · skip
      rintro _ _ G13 ⟨rfl, rfl, hle12, H⟩
      unfold fdb_Right_j1 at H
      have h3 := Rep.mono hle12 h3
      exact EX.seq (E.seq (E.region (EL.run tabOk 1 rfl (EL.nil (EX.seq (E.ret (EX.retE H tabOk rfl rfl)))))))
    · skip
      refine E.block (E.fewer (E.loop (fun n env L Γ => ∃ (i14 : Int), env = [(1, some (.p 0 0)), (20, some (.v (.slice A1 p0.Buckets.length c2))), (21, some (.v (.int .i64 (p0.Buckets.length : Int)))), (22, some (.v (.int .i64 i14)))] ∧ L = [.box 24 [.v (.slice A1 p0.Buckets.length c2), .v (.int .i64 p0.Slots), .v (.int .i64 p0.Age)]] ∧ GLe G8 Γ ∧ loopN (fun _ => none) (fdb_Right_s4 k p0) n i14 = some r) k ⟨0, rfl, rfl, GLe.refl _, H⟩ ?_) ⟨⟨_, rfl, rfl⟩, ⟨_, rfl, rfl⟩, ⟨_, rfl, rfl⟩, ⟨_, rfl, rfl⟩, trivial⟩ ⟨.inr rfl, trivial⟩ rfl rfl)
      rintro n19 _ _ G17 ⟨i14, rfl, rfl, hle15, H⟩ K hK18
      obtain _ | n19 := n19
      · exact none_ne H
      rw [loopN] at H; unfold fdb_Right_s4 at H
      have h3 := Rep.mono hle15 h3
      refine E.seq (E.region (EL.run tabOk 1 rfl (EL.nil (EX.seq (E.seq (E.cond rfl H (fun hb H => ?_) (fun hb H => ?_)))))))
      · skip
        refine E.skip (EX.seq (E.seq (E.block (E.seq (E.region (EL.run tabOk 1 rfl ?_))))))
        obtain ⟨y20, hy21, H⟩ := bind_some H
        refine EL.index hy21 h3 tabOk rfl rfl rfl rfl rfl rfl rfl rfl (fun b22 o23 u24 hu25 hc26 => ?_)
        obtain ⟨A27, c28, rfl, h29⟩ := Sl.open hu25
        refine EL.load hc26 tabOk rfl rfl rfl rfl rfl rfl (EL.run tabOk 2 rfl (EL.nil (EX.seq (E.seq (E.region (EL.makeMap rfl rfl rfl (EL.run tabOk 1 rfl (EL.nil (EX.seq (E.seq (E.seq (E.region (EL.run tabOk 3 rfl (EL.nil (EX.seq (E.join (fun env L Γ => ∃ (m30 : (List (Int × Int))), env = [(1, some (.p 0 0)), (4, some (.v (.slice A27 y20.length c28))), (20, some (.v (.slice A1 p0.Buckets.length c2))), (21, some (.v (.int .i64 (p0.Buckets.length : Int)))), (22, some (.v (.int .i64 i14)))] ∧ L = [.box 24 [.v (.slice A1 p0.Buckets.length c2), .v (.int .i64 p0.Slots), .v (.int .i64 p0.Age)], .mp (mE (Value.int .i64) m30)] ∧ GLe G17 Γ ∧ fdb_Right_j2 k p0 i14 (loopN (fun _ => none) (fdb_Right_s4 k p0) n19) y20 m30 = some r) ?_ (fun hj31 => ?_)))))))))))))))))
        · skip
          rintro _ _ G33 ⟨m30, rfl, rfl, hle32, H⟩
          unfold fdb_Right_j2 at H
          have h29 := Rep.mono hle32 h29; have h3 := Rep.mono hle32 h3
          refine EX.seq (E.seq (E.region (EL.run tabOk 5 rfl (EL.nil (EX.seq (E.cond rfl H (fun hb H => ?_) (fun hb H => ?_)))))))
          · skip
            exact E.seq (E.region (EL.run tabOk 1 rfl (EL.nil (EX.seq (E.ret (EX.retB (EX.retT (EX.retT (EX.retB (EX.retT (EX.retE H tabOk rfl rfl)))))))))))
          · skip
            exact E.skip (EX.block (EX.seq (E.region (EL.run tabOk 2 rfl (EL.nil (EX.fewer (hK18 n19 _ _ _ (Nat.lt_succ_self _) ⟨wr (i14 + 1), rfl, rfl, (GLe.trans hle15 hle32), H⟩) ⟨⟨_, rfl, rfl⟩, ⟨_, rfl, rfl⟩, ⟨_, rfl, rfl⟩, ⟨_, rfl, rfl⟩, trivial⟩ ⟨.inr rfl, trivial⟩ rfl rfl))))))
        · skip
          refine E.block (E.fewer (E.loop (fun n env L Γ => ∃ (i34 : Int) (m35 : (List (Int × Int))), env = [(1, some (.p 0 0)), (3, some (.v (.int .i64 i14))), (4, some (.v (.slice A27 y20.length c28))), (5, some (.mp 1)), (20, some (.v (.slice A1 p0.Buckets.length c2))), (21, some (.v (.int .i64 (p0.Buckets.length : Int)))), (22, some (.v (.int .i64 i14))), (28, some (.v (.slice A27 y20.length c28))), (29, some (.v (.int .i64 (y20.length : Int)))), (30, some (.v (.int .i64 i34)))] ∧ L = [.box 24 [.v (.slice A1 p0.Buckets.length c2), .v (.int .i64 p0.Slots), .v (.int .i64 p0.Age)], .mp (mE (Value.int .i64) m35)] ∧ GLe G17 Γ ∧ loopN (fun _ _ => none) (fdb_Right_s3 k p0 i14 (loopN (fun _ => none) (fdb_Right_s4 k p0) n19) y20) n i34 m35 = some r) k ⟨0, [], rfl, rfl, GLe.refl _, H⟩ ?_) ⟨⟨_, rfl, rfl⟩, ⟨_, rfl, rfl⟩, ⟨_, rfl, rfl⟩, ⟨_, rfl, rfl⟩, ⟨_, rfl, rfl⟩, ⟨_, rfl, rfl⟩, ⟨_, rfl, rfl⟩, ⟨_, rfl, rfl⟩, ⟨_, rfl, rfl⟩, ⟨_, rfl, rfl⟩, trivial⟩ ⟨.inr rfl, .inr rfl, trivial⟩ rfl rfl)
          rintro n40 _ _ G38 ⟨i34, m35, rfl, rfl, hle36, H⟩ K hK39
          obtain _ | n40 := n40
          · exact none_ne H
          rw [loopN] at H; unfold fdb_Right_s3 at H
          have h29 := Rep.mono hle36 h29; have h3 := Rep.mono hle36 h3
          refine E.seq (E.region (EL.run tabOk 1 rfl (EL.nil (EX.seq (E.seq (E.cond rfl H (fun hb H => ?_) (fun hb H => ?_)))))))
          · skip
            refine E.skip (EX.seq (E.seq (E.block (E.seq (E.region ?_)))))
            obtain ⟨y41, hy42, H⟩ := bind_some H
            refine EL.index hy42 h29 tabOk rfl rfl rfl rfl rfl rfl rfl rfl (fun b43 o44 u45 hu46 hc47 => ?_)
            obtain rfl : _ = _ := hu46
            refine EL.load hc47 tabOk rfl rfl rfl rfl rfl rfl (EL.run tabOk 2 rfl (EL.nil (EX.seq (E.seq (E.seq (E.region (EL.run tabOk 2 rfl ?_)))))))
            obtain ⟨x48, hx49, H⟩ := bind_some H
            refine EL.call rfl rfl rfl rfl fdb_isMac_enters (fun w hw => fdb_isMac_ok hx49 hw ) (fun v52 G51 hle50 hv53 => ?_)
            have h29 := Rep.mono hle50 h29; have h3 := Rep.mono hle50 h3
            obtain rfl : _ = _ := hv53
            refine EL.run tabOk 2 rfl (EL.split (s := 38) rfl H (fun hb H => ?_) (fun hb H => ?_))
            · skip
              exact EL.run tabOk 24 rfl (EL.nil (EX.seq (E.condT rfl (E.seq (E.region (EL.run tabOk 1 rfl (EL.nil (EX.seq (E.ret (EX.retT (EX.retB (EX.retT (EX.retT (EX.retB (EX.retT (EX.retB (EX.retT (EX.retT (EX.retB (EX.retT (EX.retE H tabOk rfl rfl)))))))))))))))))))))
            · skip
              refine EL.run tabOk 2 rfl ?_
              obtain ⟨x54, hx55, H⟩ := bind_some H
              refine EL.call rfl rfl rfl rfl fdb_isPort_enters (fun w hw => fdb_isPort_ok hx55 hw ) (fun v58 G57 hle56 hv59 => ?_)
              have h29 := Rep.mono hle56 h29; have h3 := Rep.mono hle56 h3
              obtain rfl : _ = _ := hv59
              refine EL.run tabOk 3 rfl (EL.split (s := 44) rfl H (fun hb H => ?_) (fun hb H => ?_))
              · skip
                exact EL.run tabOk 18 rfl (EL.nil (EX.seq (E.condT rfl (E.seq (E.region (EL.run tabOk 1 rfl (EL.nil (EX.seq (E.ret (EX.retT (EX.retB (EX.retT (EX.retT (EX.retB (EX.retT (EX.retB (EX.retT (EX.retT (EX.retB (EX.retT (EX.retE H tabOk rfl rfl)))))))))))))))))))))
              · skip
                refine EL.run tabOk 2 rfl ?_
                obtain ⟨x60, hx61, H⟩ := bind_some H
                refine EL.call rfl rfl rfl rfl fdb_isTime_enters (fun w hw => fdb_isTime_ok hx61 hw ) (fun v64 G63 hle62 hv65 => ?_)
                have h29 := Rep.mono hle62 h29; have h3 := Rep.mono hle62 h3
                obtain rfl : _ = _ := hv65
                refine EL.run tabOk 3 rfl (EL.split (s := 50) rfl H (fun hb H => ?_) (fun hb H => ?_))
                · skip
                  exact EL.run tabOk 12 rfl (EL.nil (EX.seq (E.condT rfl (E.seq (E.region (EL.run tabOk 1 rfl (EL.nil (EX.seq (E.ret (EX.retT (EX.retB (EX.retT (EX.retT (EX.retB (EX.retT (EX.retB (EX.retT (EX.retT (EX.retB (EX.retT (EX.retE H tabOk rfl rfl)))))))))))))))))))))
                · skip
                  refine EL.run tabOk 3 rfl (EL.split (s := 53) rfl H (fun hb H => ?_) (fun hb H => ?_))
                  · skip
                    refine EL.run tabOk 6 rfl (EL.eqS (ts := sts) tabOk stsOk gt49 rfl rfl rfl rfl rfl rfl rfl rfl true rfl (EL.run tabOk 2 rfl (EL.nil (EX.seq (E.cond rfl H (fun hb H => ?_) (fun hb H => ?_))))))
                    · skip
                      exact E.seq (E.region (EL.run tabOk 1 rfl (EL.nil (EX.seq (E.ret (EX.retT (EX.retB (EX.retT (EX.retT (EX.retB (EX.retT (EX.retB (EX.retT (EX.retT (EX.retB (EX.retT (EX.retE H tabOk rfl rfl)))))))))))))))))
                    · skip
                      refine E.skip (EX.seq (E.seq (E.region (EL.run tabOk 5 rfl ?_))))
                      obtain ⟨x66, hx67, H⟩ := bind_some H
                      refine EL.call rfl rfl rfl rfl hash_Bucket_enters (fun w hw => hash_Bucket_ok hx67 hw ) (fun v70 G69 hle68 hv71 => ?_)
                      have h29 := Rep.mono hle68 h29; have h3 := Rep.mono hle68 h3
                      obtain ⟨u72, u73, rfl, h74, h75⟩ := hv71
                      obtain rfl : _ = _ := h74
                      obtain rfl : _ = _ := h75
                      refine EL.run tabOk 5 rfl (EL.nil (EX.seq (E.seq (E.region (EL.run tabOk 3 rfl (EL.lookup (enc := (Value.int .i64)) (m := m35) (z0 := 0) tabOk rfl rfl rfl rfl rfl rfl rfl rfl (fun _ => rfl) (EL.run tabOk 1 rfl (EL.mapUpdate (enc := (Value.int .i64)) (m := m35) (u := (wr (((mget m35 y41.Mac).getD 0) + 1))) tabOk rfl rfl rfl rfl rfl rfl rfl rfl rfl rfl (EL.nil (EX.seq (E.seq (E.region (EL.run tabOk 4 rfl (EL.split (s := 80) rfl H (fun hb H => ?_) (fun hb H => ?_)))))))))))))))
                      · skip
                        exact EL.run tabOk 6 rfl (EL.nil (EX.seq (E.condT rfl (E.seq (E.region (EL.run tabOk 1 rfl (EL.nil (EX.seq (E.ret (EX.retB (EX.retT (EX.retT (EX.retB (EX.retT (EX.retB (EX.retT (EX.retT (EX.retB (EX.retT (EX.retE H tabOk rfl rfl))))))))))))))))))))
                      · skip
                        refine EL.run tabOk 3 rfl (EL.lookup (enc := (Value.int .i64)) (m := mset m35 y41.Mac (wr (((mget m35 y41.Mac).getD 0) + 1))) (z0 := 0) tabOk rfl rfl rfl rfl rfl rfl rfl rfl (fun _ => rfl) (EL.run tabOk 2 rfl (EL.nil (EX.seq (E.cond rfl H (fun hb H => ?_) (fun hb H => ?_))))))
                        · skip
                          exact E.seq (E.region (EL.run tabOk 1 rfl (EL.nil (EX.seq (E.ret (EX.retB (EX.retT (EX.retT (EX.retB (EX.retT (EX.retB (EX.retT (EX.retT (EX.retB (EX.retT (EX.retE H tabOk rfl rfl))))))))))))))))
                        · skip
                          exact E.skip (EX.block (EX.seq (E.region (EL.run tabOk 2 rfl (EL.nil (EX.fewer (hK39 n40 _ _ _ (Nat.lt_succ_self _) ⟨wr (i34 + 1), mset m35 y41.Mac (wr (((mget m35 y41.Mac).getD 0) + 1)), rfl, rfl, (GLe.trans (GLe.trans (GLe.trans (GLe.trans hle36 hle50) hle56) hle62) hle68), H⟩) ⟨⟨_, rfl, rfl⟩, ⟨_, rfl, rfl⟩, ⟨_, rfl, rfl⟩, ⟨_, rfl, rfl⟩, ⟨_, rfl, rfl⟩, ⟨_, rfl, rfl⟩, ⟨_, rfl, rfl⟩, ⟨_, rfl, rfl⟩, ⟨_, rfl, rfl⟩, ⟨_, rfl, rfl⟩, trivial⟩ ⟨.inr rfl, .inr rfl, trivial⟩ rfl rfl))))))
                  · skip
                    refine EL.run tabOk 9 rfl (EL.nil (EX.seq (E.condF rfl (E.skip (EX.seq (E.seq (E.region (EL.run tabOk 5 rfl ?_))))))))
                    obtain ⟨x76, hx77, H⟩ := bind_some H
                    refine EL.call rfl rfl rfl rfl hash_Bucket_enters (fun w hw => hash_Bucket_ok hx77 hw ) (fun v80 G79 hle78 hv81 => ?_)
                    have h29 := Rep.mono hle78 h29; have h3 := Rep.mono hle78 h3
                    obtain ⟨u82, u83, rfl, h84, h85⟩ := hv81
                    obtain rfl : _ = _ := h84
                    obtain rfl : _ = _ := h85
                    refine EL.run tabOk 5 rfl (EL.nil (EX.seq (E.seq (E.region (EL.run tabOk 3 rfl (EL.lookup (enc := (Value.int .i64)) (m := m35) (z0 := 0) tabOk rfl rfl rfl rfl rfl rfl rfl rfl (fun _ => rfl) (EL.run tabOk 1 rfl (EL.mapUpdate (enc := (Value.int .i64)) (m := m35) (u := (wr (((mget m35 y41.Mac).getD 0) + 1))) tabOk rfl rfl rfl rfl rfl rfl rfl rfl rfl rfl (EL.nil (EX.seq (E.seq (E.region (EL.run tabOk 4 rfl (EL.split (s := 80) rfl H (fun hb H => ?_) (fun hb H => ?_)))))))))))))))
                    · skip
                      exact EL.run tabOk 6 rfl (EL.nil (EX.seq (E.condT rfl (E.seq (E.region (EL.run tabOk 1 rfl (EL.nil (EX.seq (E.ret (EX.retB (EX.retT (EX.retT (EX.retB (EX.retT (EX.retB (EX.retT (EX.retT (EX.retB (EX.retT (EX.retE H tabOk rfl rfl))))))))))))))))))))
                    · skip
                      refine EL.run tabOk 3 rfl (EL.lookup (enc := (Value.int .i64)) (m := mset m35 y41.Mac (wr (((mget m35 y41.Mac).getD 0) + 1))) (z0 := 0) tabOk rfl rfl rfl rfl rfl rfl rfl rfl (fun _ => rfl) (EL.run tabOk 2 rfl (EL.nil (EX.seq (E.cond rfl H (fun hb H => ?_) (fun hb H => ?_))))))
                      · skip
                        exact E.seq (E.region (EL.run tabOk 1 rfl (EL.nil (EX.seq (E.ret (EX.retB (EX.retT (EX.retT (EX.retB (EX.retT (EX.retB (EX.retT (EX.retT (EX.retB (EX.retT (EX.retE H tabOk rfl rfl))))))))))))))))
                      · skip
                        exact E.skip (EX.block (EX.seq (E.region (EL.run tabOk 2 rfl (EL.nil (EX.fewer (hK39 n40 _ _ _ (Nat.lt_succ_self _) ⟨wr (i34 + 1), mset m35 y41.Mac (wr (((mget m35 y41.Mac).getD 0) + 1)), rfl, rfl, (GLe.trans (GLe.trans (GLe.trans (GLe.trans hle36 hle50) hle56) hle62) hle78), H⟩) ⟨⟨_, rfl, rfl⟩, ⟨_, rfl, rfl⟩, ⟨_, rfl, rfl⟩, ⟨_, rfl, rfl⟩, ⟨_, rfl, rfl⟩, ⟨_, rfl, rfl⟩, ⟨_, rfl, rfl⟩, ⟨_, rfl, rfl⟩, ⟨_, rfl, rfl⟩, ⟨_, rfl, rfl⟩, trivial⟩ ⟨.inr rfl, .inr rfl, trivial⟩ rfl rfl))))))
          · skip
            exact E.exit (EX.out (EX.out (EX.hit (EX.fewer (hj31 _ _ _ ⟨m35, rfl, rfl, hle36, H⟩) ⟨⟨_, rfl, rfl⟩, ⟨_, rfl, rfl⟩, ⟨_, rfl, rfl⟩, ⟨_, rfl, rfl⟩, ⟨_, rfl, rfl⟩, trivial⟩ ⟨.inr rfl, .inr rfl, trivial⟩ rfl rfl))))
      · skip
        exact E.exit (EX.out (EX.out (EX.hit (EX.fewer (hj11 _ _ _ ⟨rfl, rfl, hle15, H⟩) trivial ⟨.inr rfl, trivial⟩ rfl rfl))))
theorem fdb_place_1_enters : Enters Try.prog 45 := ⟨_, Try.func45, rfl, rfl⟩
set_option maxHeartbeats 4000000 in
theorem fdb_place_1_ok {k : Nat} {p0 : Entry} {p1 : Int} {r : Bool} (H : fdb_place_1 k p0 p1 = some r) {G : Ghost} {w : World} (hG : Holds G w) {b1 : Nat} (hc1 : CellsAt G b1 0 (.agg #[.int .i64 p1])) : Ret Try.prog 45 [.agg #[.int .i64 p0.Mac, .int .i64 p0.Port, .int .i64 p0.Seen, .bool p0.Static], .pointer (some ⟨b1, 0, none⟩)] w G (fun G v => R G r v) := by
  unfold fdb_place_1 at H
  exact start Try.func45 rfl Try.ntmps45 rfl hG (E.seq (E.region (EL.run tabOk 2 rfl (EL.nil (EX.seq (E.seq (E.region (EL.run tabOk 2 rfl (EL.load (CellsAt.fld (j := 0) hc1 rfl rfl) tabOk rfl rfl rfl rfl rfl rfl (EL.run tabOk 2 rfl (EL.nil (EX.seq (E.ret (EX.retE H tabOk rfl rfl))))))))))))))
theorem slices_IndexFunc_enters : Enters Try.prog 44 := ⟨_, Try.func44, rfl, rfl⟩
set_option maxHeartbeats 4000000 in
theorem slices_IndexFunc_ok {k : Nat} {p0 : (List Entry)} {p1 : (Entry → Option Bool)} {r : Int} (H : slices_IndexFunc k p0 p1 = some r) {G : Ghost} {w : World} (hG : Holds G w) {v0 : Value} (h0 : R G p0 v0) {v1 : Value} (h1 : FnR Try.prog G p1 v1) : Ret Try.prog 44 [v0, v1] w G (fun G v => R G r v) := by
  obtain ⟨A5, c6, rfl, h7⟩ := Sl.open h0
  obtain ⟨g1, cp2, rfl, hen3, hsp4⟩ := h1
  unfold slices_IndexFunc at H
  refine start Try.func44 rfl Try.ntmps44 rfl hG (E.seq (E.region (EL.run tabOk 1 rfl (EL.nil (EX.seq (E.seq (E.seq (E.region (EL.run tabOk 3 rfl (EL.nil (EX.seq (E.join (fun env L Γ =>  env = [] ∧ L = [] ∧ GLe G Γ ∧ slices_IndexFunc_j1 k = some r) ?_ (fun hj8 => ?_)))))))))))))
  · skip
    rintro _ _ G10 ⟨rfl, rfl, hle9, H⟩
    unfold slices_IndexFunc_j1 at H
    exact EX.seq (E.seq (E.region (EL.run tabOk 1 rfl (EL.nil (EX.seq (E.ret (EX.retE H tabOk rfl rfl)))))))
  · skip
    refine E.block (E.fewer (E.loop (fun n env L Γ => ∃ (i11 : Int), env = [(0, some (.v (.slice A5 p0.length c6))), (1, some (.v (.func (.func g1) #[] cp2))), (7, some (.v (.int .i64 (p0.length : Int)))), (8, some (.v (.int .i64 i11)))] ∧ L = [] ∧ GLe G Γ ∧ loopN (fun _ => none) (slices_IndexFunc_s2 k p0 p1) n i11 = some r) k ⟨0, rfl, rfl, GLe.refl _, H⟩ ?_) ⟨⟨_, rfl, rfl⟩, ⟨_, rfl, rfl⟩, ⟨_, rfl, rfl⟩, ⟨_, rfl, rfl⟩, trivial⟩ trivial rfl rfl)
    rintro n16 _ _ G14 ⟨i11, rfl, rfl, hle12, H⟩ K hK15
    obtain _ | n16 := n16
    · exact none_ne H
    rw [loopN] at H; unfold slices_IndexFunc_s2 at H
    have h7 := Rep.mono hle12 h7
    refine E.seq (E.region (EL.run tabOk 1 rfl (EL.nil (EX.seq (E.seq (E.cond rfl H (fun hb H => ?_) (fun hb H => ?_)))))))
    · skip
      refine E.skip (EX.seq (E.seq (E.block (E.seq (E.region (EL.run tabOk 2 rfl (EL.nil (EX.seq (E.seq (E.region (EL.run tabOk 3 rfl ?_)))))))))))
      obtain ⟨y17, hy18, H⟩ := bind_some H
      refine EL.index hy18 h7 tabOk rfl rfl rfl rfl rfl rfl rfl rfl (fun b19 o20 u21 hu22 hc23 => ?_)
      obtain rfl : _ = _ := hu22
      refine EL.load hc23 tabOk rfl rfl rfl rfl rfl rfl ?_
      obtain ⟨x24, hx25, H⟩ := bind_some H
      refine EL.callV rfl rfl rfl rfl rfl hen3 (fun w hw => hsp4 _ _ hx25 _ hle12 _ rfl w hw) (fun v27 G29 hle26 hv28 => ?_)
      have h7 := Rep.mono hle26 h7
      obtain rfl : _ = _ := hv28
      refine EL.nil (EX.seq (E.cond rfl H (fun hb H => ?_) (fun hb H => ?_)))
      · skip
        exact E.seq (E.region (EL.run tabOk 2 rfl (EL.nil (EX.seq (E.ret (EX.retB (EX.retT (EX.retT (EX.retB (EX.retT (EX.retE H tabOk rfl rfl)))))))))))
      · skip
        exact E.skip (EX.block (EX.seq (E.region (EL.run tabOk 2 rfl (EL.nil (EX.fewer (hK15 n16 _ _ _ (Nat.lt_succ_self _) ⟨wr (i11 + 1), rfl, rfl, (GLe.trans hle12 hle26), H⟩) ⟨⟨_, rfl, rfl⟩, ⟨_, rfl, rfl⟩, ⟨_, rfl, rfl⟩, ⟨_, rfl, rfl⟩, trivial⟩ trivial rfl rfl))))))
    · skip
      exact E.exit (EX.out (EX.out (EX.hit (EX.fewer (hj8 _ _ _ ⟨rfl, rfl, hle12, H⟩) trivial trivial rfl rfl))))
theorem fdb_place_enters : Enters Try.prog 26 := ⟨_, Try.func26, rfl, rfl⟩
set_option maxHeartbeats 4000000 in
theorem fdb_place_ok {k : Nat} {p0 : Table} {p1 : Int} {r : (Int × Int)} (H : fdb_place k p0 p1 = some r) {G : Ghost} {w : World} (hG : Holds G w) {v0 : Value} (h0 : R G p0 v0) : Ret Try.prog 26 [v0, .int .i64 p1] w G (fun G v => R2 G r v) := by
  obtain ⟨v4, rfl, h3⟩ := h0
  obtain ⟨A1, c2, rfl, h3⟩ := Sl.open h3
  unfold fdb_place at H
  refine start Try.func26 rfl Try.ntmps26 rfl hG (E.seq (E.region (EL.run tabOk 4 rfl (EL.nil (EX.seq (E.seq (E.region (EL.run tabOk 4 rfl ?_))))))))
  obtain ⟨x5, hx6, H⟩ := bind_some H
  refine EL.call rfl rfl rfl rfl hash_Bucket_enters (fun w hw => hash_Bucket_ok hx6 hw ) (fun v9 G8 hle7 hv10 => ?_)
  have h3 := Rep.mono hle7 h3
  obtain ⟨u11, u12, rfl, h13, h14⟩ := hv10
  obtain rfl : _ = _ := h13
  obtain rfl : _ = _ := h14
  refine EL.run tabOk 5 rfl (EL.nil (EX.seq (E.seq (E.region (EL.run tabOk 4 rfl ?_)))))
  obtain ⟨y15, hy16, H⟩ := bind_some H
  refine EL.index hy16 h3 tabOk rfl rfl rfl rfl rfl rfl rfl rfl (fun b17 o18 u19 hu20 hc21 => ?_)
  obtain ⟨A22, c23, rfl, h24⟩ := Sl.open hu20
  refine EL.load hc21 tabOk rfl rfl rfl rfl rfl rfl (EL.pubBox 1 rfl rfl rfl (fun k25 u26 G29 hle27 hc28 => ?_))
  have h3 := Rep.mono hle27 h3; have hc21 := CellsAt.mono hle27 hc21; have h24 := Rep.mono hle27 h24
  have hf31 : FnR Try.prog G29 (fun (x30 : Entry) => fdb_place_1 k x30 p1) (.func (.func 45) #[] #[.pointer (some ⟨k25, 0, none⟩)]) := ⟨45, _, rfl, fdb_place_1_enters, fun x0' y hf G' hle' u0 hu0 w hw => by obtain rfl : _ = _ := hu0; exact fdb_place_1_ok hf hw (CellsAt.mono hle' hc28)⟩
  refine EL.run tabOk 1 rfl ?_
  obtain ⟨x32, hx33, H⟩ := bind_some H
  refine EL.call rfl rfl rfl rfl slices_IndexFunc_enters (fun w hw => slices_IndexFunc_ok hx33 hw h24 hf31) (fun v36 G35 hle34 hv37 => ?_)
  have h3 := Rep.mono hle34 h3
  obtain rfl : _ = _ := hv37
  exact EL.run tabOk 2 rfl (EL.nil (EX.seq (E.ret (EX.retE H tabOk rfl ⟨_, _, rfl, rfl, rfl⟩))))
theorem fdb_pinned_enters : Enters Try.prog 24 := ⟨_, Try.func24, rfl, rfl⟩
set_option maxHeartbeats 4000000 in
theorem fdb_pinned_ok {k : Nat} {p0 : Table} {p1 : Int} {r : Bool} (H : fdb_pinned k p0 p1 = some r) {G : Ghost} {w : World} (hG : Holds G w) {v0 : Value} (h0 : R G p0 v0) : Ret Try.prog 24 [v0, .int .i64 p1] w G (fun G v => R G r v) := by
  obtain ⟨v4, rfl, h3⟩ := h0
  obtain ⟨A1, c2, rfl, h3⟩ := Sl.open h3
  unfold fdb_pinned at H
  refine start Try.func24 rfl Try.ntmps24 rfl hG (E.seq (E.region (EL.run tabOk 2 rfl (EL.nil (EX.seq (E.seq (E.region (EL.run tabOk 2 rfl ?_))))))))
  obtain ⟨x5, hx6, H⟩ := bind_some H
  refine EL.call rfl rfl rfl rfl fdb_place_enters (fun w hw => fdb_place_ok hx6 hw ⟨_, rfl, h3⟩) (fun v9 G8 hle7 hv10 => ?_)
  have h3 := Rep.mono hle7 h3
  obtain ⟨u11, u12, rfl, h13, h14⟩ := hv10
  obtain rfl : _ = _ := h13
  obtain rfl : _ = _ := h14
  refine EL.run tabOk 5 rfl (EL.nil (EX.seq (E.seq (E.region (EL.run tabOk 3 rfl (EL.split (s := 15) rfl H (fun hb H => ?_) (fun hb H => ?_)))))))
  · skip
    refine EL.run tabOk 3 rfl ?_
    obtain ⟨y15, hy16, H⟩ := bind_some H
    refine EL.index hy16 h3 tabOk rfl rfl rfl rfl rfl rfl rfl rfl (fun b17 o18 u19 hu20 hc21 => ?_)
    obtain ⟨A22, c23, rfl, h24⟩ := Sl.open hu20
    refine EL.load hc21 tabOk rfl rfl rfl rfl rfl rfl (EL.run tabOk 1 rfl ?_)
    obtain ⟨y25, hy26, H⟩ := bind_some H
    refine EL.index hy26 h24 tabOk rfl rfl rfl rfl rfl rfl rfl rfl (fun b27 o28 u29 hu30 hc31 => ?_)
    obtain rfl : _ = _ := hu30
    exact EL.run tabOk 1 rfl (EL.load (CellsAt.fld (j := 3) hc31 rfl rfl) tabOk rfl rfl rfl rfl rfl rfl (EL.run tabOk 2 rfl (EL.nil (EX.seq (E.ret (EX.retE H tabOk rfl rfl))))))
  · skip
    exact EL.run tabOk 11 rfl (EL.nil (EX.seq (E.ret (EX.retE H tabOk rfl rfl))))
def slices_Clone_own (r : List Entry) (G : Ghost) (ent : Ent) (s : SV) : Prop := ∃ es, ent = .row 49 4 r.length es ∧ s = .row 0 ∧ Els G r es
theorem slices_Clone_enters : Enters Try.prog 39 := ⟨_, Try.func39, rfl, rfl⟩
theorem slices_Clone_ok {k : Nat} {p0 r : List Entry} (H : slices_Clone k p0 = some r) {G : Ghost} {w : World} (hG : Holds G w) {v0 : Value} (h0 : R G p0 v0) : RetO Try.prog 39 [v0] w G (slices_Clone_own r) := by
  obtain ⟨A, c, rfl, h0⟩ := Sl.open h0
  unfold slices_Clone at H
  refine startO Try.func39 rfl Try.ntmps39 rfl hG (E.seq (E.region (EL.run tabOk 1 rfl (EL.nil (EX.seq ?_)))))
  refine E.seq (E.seq (E.region (EL.run tabOk 2 rfl (EL.nil (EX.seq ?_)))))
  cases A with
  | none =>
    have hp : p0 = [] := Sl.none_nil h0
    subst hp
    obtain ⟨_, rfl⟩ := cat_some H
    refine E.condB (b := true) rfl (fun _ => ?_) (fun h => nomatch h)
    refine E.seq (E.region (EL.run tabOk 1 rfl (EL.nil (EX.seq (E.ret (EX.retT ?_))))))
    exact EX.nilRow 2 49 4 rfl (EX.retO (s := .row 0) (r := 0) tabOk rfl rfl rfl (by exact trivial) ⟨[], rfl, rfl, All2.nil⟩)
  | some ad =>
    refine E.condB (b := false) rfl (fun h => nomatch h) (fun _ => E.skip (EX.seq ?_))
    refine E.seq (E.region (EL.run tabOk 2 rfl (EL.cat H All2.nil h0 tabOk rfl rfl rfl rfl rfl rfl rfl rfl rfl rfl rfl rfl rfl rfl (fun blk val es' h' => EL.run tabOk 1 rfl (EL.nil (EX.seq (E.ret ?_)))))))
    exact EX.retO (s := .row 0) (r := 0) tabOk rfl rfl rfl (by exact trivial) ⟨_, rfl, rfl, h'⟩
theorem lru_Right_enters : Enters Try.prog 53 := ⟨_, Try.func53, rfl, rfl⟩
set_option maxHeartbeats 4000000 in
theorem lru_Right_ok {k : Nat} {p0 : (List Int)} {r : Bool} (H : lru_Right k p0 = some r) {G : Ghost} {w : World} (hG : Holds G w) {v0 : Value} (h0 : R G p0 v0) : Ret Try.prog 53 [v0] w G (fun G v => R G r v) := by
  obtain ⟨A1, c2, rfl, h3⟩ := Sl.open h0
  unfold lru_Right at H
  refine start Try.func53 rfl Try.ntmps53 rfl hG (E.seq (E.region (EL.run tabOk 1 rfl (EL.nil (EX.seq (E.seq (E.region (EL.makeMap rfl rfl rfl (EL.run tabOk 1 rfl (EL.nil (EX.seq (E.seq (E.seq (E.region (EL.run tabOk 3 rfl (EL.nil (EX.seq (E.join (fun env L Γ => ∃ (m4 : (List (Int × Int))), env = [(0, some (.v (.slice A1 p0.length c2)))] ∧ L = [.mp (mE (Value.int .i64) m4)] ∧ GLe G Γ ∧ lru_Right_j1 k p0 m4 = some r) ?_ (fun hj5 => ?_)))))))))))))))))))
  · skip
    rintro _ _ G7 ⟨m4, rfl, rfl, hle6, H⟩
    unfold lru_Right_j1 at H
    have h3 := Rep.mono hle6 h3
    exact EX.seq (E.seq (E.region (EL.run tabOk 4 rfl (EL.nil (EX.seq (E.ret (EX.retE H tabOk rfl rfl)))))))
  · skip
    refine E.block (E.fewer (E.loop (fun n env L Γ => ∃ (i8 : Int) (m9 : (List (Int × Int))), env = [(0, some (.v (.slice A1 p0.length c2))), (3, some (.mp 0)), (7, some (.v (.slice A1 p0.length c2))), (8, some (.v (.int .i64 (p0.length : Int)))), (9, some (.v (.int .i64 i8)))] ∧ L = [.mp (mE (Value.int .i64) m9)] ∧ GLe G Γ ∧ loopN (fun _ _ => none) (lru_Right_s2 k p0) n i8 m9 = some r) k ⟨0, [], rfl, rfl, GLe.refl _, H⟩ ?_) ⟨⟨_, rfl, rfl⟩, ⟨_, rfl, rfl⟩, ⟨_, rfl, rfl⟩, ⟨_, rfl, rfl⟩, ⟨_, rfl, rfl⟩, trivial⟩ ⟨.inr rfl, trivial⟩ rfl rfl)
    rintro n14 _ _ G12 ⟨i8, m9, rfl, rfl, hle10, H⟩ K hK13
    obtain _ | n14 := n14
    · exact none_ne H
    rw [loopN] at H; unfold lru_Right_s2 at H
    have h3 := Rep.mono hle10 h3
    refine E.seq (E.region (EL.run tabOk 1 rfl (EL.nil (EX.seq (E.seq (E.cond rfl H (fun hb H => ?_) (fun hb H => ?_)))))))
    · skip
      refine E.skip (EX.seq (E.seq (E.block (E.seq (E.region ?_)))))
      obtain ⟨y15, hy16, H⟩ := bind_some H
      refine EL.index hy16 h3 tabOk rfl rfl rfl rfl rfl rfl rfl rfl (fun b17 o18 u19 hu20 hc21 => ?_)
      obtain rfl : _ = _ := hu20
      refine EL.load hc21 tabOk rfl rfl rfl rfl rfl rfl (EL.run tabOk 1 rfl (EL.nil (EX.seq (E.seq (E.region (EL.run tabOk 2 rfl (EL.lookup (enc := (Value.int .i64)) (m := m9) (z0 := 0) tabOk rfl rfl rfl rfl rfl rfl rfl rfl (fun _ => rfl) (EL.run tabOk 1 rfl (EL.mapUpdate (enc := (Value.int .i64)) (m := m9) (u := (wr (((mget m9 y15).getD 0) + 1))) tabOk rfl rfl rfl rfl rfl rfl rfl rfl rfl rfl (EL.nil (EX.seq (E.seq (E.region (EL.run tabOk 3 rfl (EL.split (s := 19) rfl H (fun hb H => ?_) (fun hb H => ?_))))))))))))))))
      · skip
        exact EL.run tabOk 5 rfl (EL.nil (EX.seq (E.condT rfl (E.seq (E.region (EL.run tabOk 1 rfl (EL.nil (EX.seq (E.ret (EX.retB (EX.retT (EX.retT (EX.retB (EX.retT (EX.retE H tabOk rfl rfl)))))))))))))))
      · skip
        refine EL.run tabOk 2 rfl (EL.lookup (enc := (Value.int .i64)) (m := mset m9 y15 (wr (((mget m9 y15).getD 0) + 1))) (z0 := 0) tabOk rfl rfl rfl rfl rfl rfl rfl rfl (fun _ => rfl) (EL.run tabOk 2 rfl (EL.nil (EX.seq (E.cond rfl H (fun hb H => ?_) (fun hb H => ?_))))))
        · skip
          exact E.seq (E.region (EL.run tabOk 1 rfl (EL.nil (EX.seq (E.ret (EX.retB (EX.retT (EX.retT (EX.retB (EX.retT (EX.retE H tabOk rfl rfl)))))))))))
        · skip
          exact E.skip (EX.block (EX.seq (E.region (EL.run tabOk 2 rfl (EL.nil (EX.fewer (hK13 n14 _ _ _ (Nat.lt_succ_self _) ⟨wr (i8 + 1), mset m9 y15 (wr (((mget m9 y15).getD 0) + 1)), rfl, rfl, hle10, H⟩) ⟨⟨_, rfl, rfl⟩, ⟨_, rfl, rfl⟩, ⟨_, rfl, rfl⟩, ⟨_, rfl, rfl⟩, ⟨_, rfl, rfl⟩, trivial⟩ ⟨.inr rfl, trivial⟩ rfl rfl))))))
    · skip
      exact E.exit (EX.out (EX.out (EX.hit (EX.fewer (hj5 _ _ _ ⟨m9, rfl, rfl, hle10, H⟩) ⟨⟨_, rfl, rfl⟩, trivial⟩ ⟨.inr rfl, trivial⟩ rfl rfl))))
def slices_Clone_59_own (r : List Int) (G : Ghost) (ent : Ent) (s : SV) : Prop := ∃ es, ent = .row 3 1 r.length es ∧ s = .row 0 ∧ Els G r es
theorem slices_Clone_59_enters : Enters Try.prog 59 := ⟨_, Try.func59, rfl, rfl⟩
theorem slices_Clone_59_ok {k : Nat} {p0 r : List Int} (H : slices_Clone_59 k p0 = some r) {G : Ghost} {w : World} (hG : Holds G w) {v0 : Value} (h0 : R G p0 v0) : RetO Try.prog 59 [v0] w G (slices_Clone_59_own r) := by
  obtain ⟨A, c, rfl, h0⟩ := Sl.open h0
  unfold slices_Clone_59 at H
  refine startO Try.func59 rfl Try.ntmps59 rfl hG (E.seq (E.region (EL.run tabOk 1 rfl (EL.nil (EX.seq ?_)))))
  refine E.seq (E.seq (E.region (EL.run tabOk 2 rfl (EL.nil (EX.seq ?_)))))
  cases A with
  | none =>
    have hp : p0 = [] := Sl.none_nil h0
    subst hp
    obtain ⟨_, rfl⟩ := cat_some H
    refine E.condB (b := true) rfl (fun _ => ?_) (fun h => nomatch h)
    refine E.seq (E.region (EL.run tabOk 1 rfl (EL.nil (EX.seq (E.ret (EX.retT ?_))))))
    exact EX.nilRow 2 3 1 rfl (EX.retO (s := .row 0) (r := 0) tabOk rfl rfl rfl (by exact trivial) ⟨[], rfl, rfl, All2.nil⟩)
  | some ad =>
    refine E.condB (b := false) rfl (fun h => nomatch h) (fun _ => E.skip (EX.seq ?_))
    refine E.seq (E.region (EL.run tabOk 2 rfl (EL.cat H All2.nil h0 tabOk rfl rfl rfl rfl rfl rfl rfl rfl rfl rfl rfl rfl rfl rfl (fun blk val es' h' => EL.run tabOk 1 rfl (EL.nil (EX.seq (E.ret ?_)))))))
    exact EX.retO (s := .row 0) (r := 0) tabOk rfl rfl rfl (by exact trivial) ⟨_, rfl, rfl, h'⟩
theorem lru_order_without_1_enters : Enters Try.prog 60 := ⟨_, Try.func60, rfl, rfl⟩
set_option maxHeartbeats 4000000 in
theorem lru_order_without_1_ok {k : Nat} {p0 : Int} {p1 : Int} {r : Bool} (H : lru_order_without_1 k p0 p1 = some r) {G : Ghost} {w : World} (hG : Holds G w) {b1 : Nat} (hc1 : CellsAt G b1 0 (.agg #[.int .i64 p1])) : Ret Try.prog 60 [.int .i64 p0, .pointer (some ⟨b1, 0, none⟩)] w G (fun G v => R G r v) := by
  unfold lru_order_without_1 at H
  exact start Try.func60 rfl Try.ntmps60 rfl hG (E.seq (E.region (EL.run tabOk 1 rfl (EL.nil (EX.seq (E.seq (E.region (EL.run tabOk 1 rfl (EL.load (CellsAt.fld (j := 0) hc1 rfl rfl) tabOk rfl rfl rfl rfl rfl rfl (EL.run tabOk 2 rfl (EL.nil (EX.seq (E.ret (EX.retE H tabOk rfl rfl))))))))))))))
theorem slices_IndexFunc_63_enters : Enters Try.prog 63 := ⟨_, Try.func63, rfl, rfl⟩
set_option maxHeartbeats 4000000 in
theorem slices_IndexFunc_63_ok {k : Nat} {p0 : (List Int)} {p1 : (Int → Option Bool)} {r : Int} (H : slices_IndexFunc_63 k p0 p1 = some r) {G : Ghost} {w : World} (hG : Holds G w) {v0 : Value} (h0 : R G p0 v0) {v1 : Value} (h1 : FnR Try.prog G p1 v1) : Ret Try.prog 63 [v0, v1] w G (fun G v => R G r v) := by
  obtain ⟨A5, c6, rfl, h7⟩ := Sl.open h0
  obtain ⟨g1, cp2, rfl, hen3, hsp4⟩ := h1
  unfold slices_IndexFunc_63 at H
  refine start Try.func63 rfl Try.ntmps63 rfl hG (E.seq (E.region (EL.run tabOk 1 rfl (EL.nil (EX.seq (E.seq (E.seq (E.region (EL.run tabOk 3 rfl (EL.nil (EX.seq (E.join (fun env L Γ =>  env = [] ∧ L = [] ∧ GLe G Γ ∧ slices_IndexFunc_63_j1 k = some r) ?_ (fun hj8 => ?_)))))))))))))
  · skip
    rintro _ _ G10 ⟨rfl, rfl, hle9, H⟩
    unfold slices_IndexFunc_63_j1 at H
    exact EX.seq (E.seq (E.region (EL.run tabOk 1 rfl (EL.nil (EX.seq (E.ret (EX.retE H tabOk rfl rfl)))))))
  · skip
    refine E.block (E.fewer (E.loop (fun n env L Γ => ∃ (i11 : Int), env = [(0, some (.v (.slice A5 p0.length c6))), (1, some (.v (.func (.func g1) #[] cp2))), (7, some (.v (.int .i64 (p0.length : Int)))), (8, some (.v (.int .i64 i11)))] ∧ L = [] ∧ GLe G Γ ∧ loopN (fun _ => none) (slices_IndexFunc_63_s2 k p0 p1) n i11 = some r) k ⟨0, rfl, rfl, GLe.refl _, H⟩ ?_) ⟨⟨_, rfl, rfl⟩, ⟨_, rfl, rfl⟩, ⟨_, rfl, rfl⟩, ⟨_, rfl, rfl⟩, trivial⟩ trivial rfl rfl)
    rintro n16 _ _ G14 ⟨i11, rfl, rfl, hle12, H⟩ K hK15
    obtain _ | n16 := n16
    · exact none_ne H
    rw [loopN] at H; unfold slices_IndexFunc_63_s2 at H
    have h7 := Rep.mono hle12 h7
    refine E.seq (E.region (EL.run tabOk 1 rfl (EL.nil (EX.seq (E.seq (E.cond rfl H (fun hb H => ?_) (fun hb H => ?_)))))))
    · skip
      refine E.skip (EX.seq (E.seq (E.block (E.seq (E.region (EL.run tabOk 2 rfl (EL.nil (EX.seq (E.seq (E.region (EL.run tabOk 3 rfl ?_)))))))))))
      obtain ⟨y17, hy18, H⟩ := bind_some H
      refine EL.index hy18 h7 tabOk rfl rfl rfl rfl rfl rfl rfl rfl (fun b19 o20 u21 hu22 hc23 => ?_)
      obtain rfl : _ = _ := hu22
      refine EL.load hc23 tabOk rfl rfl rfl rfl rfl rfl ?_
      obtain ⟨x24, hx25, H⟩ := bind_some H
      refine EL.callV rfl rfl rfl rfl rfl hen3 (fun w hw => hsp4 _ _ hx25 _ hle12 _ rfl w hw) (fun v27 G29 hle26 hv28 => ?_)
      have h7 := Rep.mono hle26 h7
      obtain rfl : _ = _ := hv28
      refine EL.nil (EX.seq (E.cond rfl H (fun hb H => ?_) (fun hb H => ?_)))
      · skip
        exact E.seq (E.region (EL.run tabOk 2 rfl (EL.nil (EX.seq (E.ret (EX.retB (EX.retT (EX.retT (EX.retB (EX.retT (EX.retE H tabOk rfl rfl)))))))))))
      · skip
        exact E.skip (EX.block (EX.seq (E.region (EL.run tabOk 2 rfl (EL.nil (EX.fewer (hK15 n16 _ _ _ (Nat.lt_succ_self _) ⟨wr (i11 + 1), rfl, rfl, (GLe.trans hle12 hle26), H⟩) ⟨⟨_, rfl, rfl⟩, ⟨_, rfl, rfl⟩, ⟨_, rfl, rfl⟩, ⟨_, rfl, rfl⟩, trivial⟩ trivial rfl rfl))))))
    · skip
      exact E.exit (EX.out (EX.out (EX.hit (EX.fewer (hj8 _ _ _ ⟨rfl, rfl, hle12, H⟩) trivial trivial rfl rfl))))
theorem lru_order_without_enters : Enters Try.prog 55 := ⟨_, Try.func55, rfl, rfl⟩
set_option maxHeartbeats 4000000 in
theorem lru_order_without_ok {k : Nat} {p0 : (List Int)} {p1 : Int} {r : (List Int)} (H : lru_order_without k p0 p1 = some r) {G : Ghost} {w : World} (hG : Holds G w) {v0 : Value} (h0 : R G p0 v0) : Ret Try.prog 55 [v0, .int .i64 p1] w G (fun G v => R G r v) := by
  obtain ⟨A1, c2, rfl, h3⟩ := Sl.open h0
  unfold lru_order_without at H
  refine start Try.func55 rfl Try.ntmps55 rfl hG (E.seq (E.region (EL.run tabOk 2 rfl (EL.nil (EX.seq (E.seq (E.region (EL.run tabOk 1 rfl ?_))))))))
  obtain ⟨x4, hx5, H⟩ := bind_some H
  refine EL.callO rfl rfl rfl rfl slices_Clone_59_enters (fun w hw => slices_Clone_59_ok hx5 hw h3) ?_
  rintro _ _ G7 hle6 ⟨es10, rfl, rfl, h11⟩
  have h3 := Rep.mono hle6 h3
  refine EL.pubBox 0 rfl rfl rfl (fun k12 u13 G16 hle14 hc15 => ?_)
  have h3 := Rep.mono hle14 h3; have h11 := Els.mono h11 hle14
  have hf18 : FnR Try.prog G16 (fun (x17 : Int) => lru_order_without_1 k x17 p1) (.func (.func 60) #[] #[.pointer (some ⟨k12, 0, none⟩)]) := ⟨60, _, rfl, lru_order_without_1_enters, fun x0' y hf G' hle' u0 hu0 w hw => by obtain rfl : _ = _ := hu0; exact lru_order_without_1_ok hf hw (CellsAt.mono hle' hc15)⟩
  refine EL.run tabOk 1 rfl (EL.inl [] rfl rfl rfl rfl rfl rfl Try.func58 slices_DeleteFunc_enters rfl Try.ntmps58 rfl rfl (fun L Γ ks s => ∃ (vals19 : List Value) (l22 : (List Int)) (es23 : List Value), L = [.gone, .row 3 1 l22.length es23, .sav [] vals19] ∧ ks = [] ∧ s = .row 1 ∧ GLe G16 Γ ∧ Els Γ l22 es23 ∧ lru_order_without_j1 k l22 = some r) ?_ ?_)
  · skip
    rintro _ G26 _ _ ⟨vals19, l22, es23, rfl, rfl, rfl, hle25, h24, H⟩
    unfold lru_order_without_j1 at H
    refine EL.run tabOk 1 rfl (EL.nil (EX.seq (E.ret (EX.pubRow (xs := l22) 1 rfl h24 rfl (fun k27 A28 c29 G32 hle30 h31 => ?_)))))
    exact EX.retE H tabOk rfl h31
  · skip
    intro K20 vals19 hB21
    refine E.seq (E.region (EL.run tabOk 1 rfl (EL.nil (EX.seq (E.seq (E.region (EL.run tabOk 2 rfl ?_)))))))
    obtain ⟨x33, hx34, H⟩ := bind_some H
    refine EL.callS (r := 1) (e := 3) (sz := 1) (n := x4.length) (xs := x4) (va := fun A c => [.slice A x4.length c, .func (.func 60) #[] #[.pointer (some ⟨k12, 0, none⟩)]]) (u := .int .i64 x33) h11 rfl rfl rfl rfl rfl (fun _ _ => rfl) rfl slices_IndexFunc_63_enters (fun w A c G1 hle' h1' hw => slices_IndexFunc_63_ok hx34 hw h1' (FnR.mono hle' hf18)) (fun _ _ h => h) (EL.run tabOk 1 rfl (EL.nil (EX.seq (E.seq (E.seq (E.region (EL.run tabOk 2 rfl (EL.nil (EX.seq (E.cond rfl H (fun hb H => ?_) (fun hb H => ?_)))))))))))
    · skip
      exact E.seq (E.region (EL.run tabOk 2 rfl (EL.nil (EX.seq (E.ret (EX.retT (EX.back hB21 ⟨vals19, x4, es10, rfl, rfl, rfl, (GLe.refl _), h11, H⟩ tabOk rfl rfl (fun _ => rfl) ⟨.inr rfl, .inr rfl, .inr rfl, trivial⟩ rfl rfl rfl)))))))
    · skip
      refine E.skip (EX.seq (E.seq (E.seq (E.region (EL.run tabOk 3 rfl (EL.nil (EX.seq (E.join (fun env L Γ => ∃ (i35 : Int) (l36 : (List Int)) (es37 : List Value), env = [(0, some (.row 1)), (5, some (.v (.int .i64 i35)))] ∧ L = [.gone, .row 3 1 l36.length es37, .sav [] vals19] ∧ GLe G16 Γ ∧ Els Γ l36 es37 ∧ lru_order_without_j2 k i35 l36 = some r) ?_ (fun hj39 => ?_)))))))))
      · skip
        rintro _ _ G41 ⟨i35, l36, es37, rfl, rfl, hle40, h38, H⟩
        unfold lru_order_without_j2 at H
        refine EX.seq (E.seq (E.region (EL.run tabOk 2 rfl ?_)))
        obtain ⟨l42, hp43, H⟩ := bind_some H
        refine EL.clr (z := .int .i64 0) hp43 h38 (show R G41 0 (.int .i64 0) from rfl) tabOk rfl rfl rfl rfl rfl rfl rfl rfl rfl rfl rfl rfl rfl rfl (fun es44 h45 => ?_)
        refine EL.nil (EX.seq (E.seq (E.region (EL.run tabOk 2 rfl ?_))))
        obtain ⟨l46, hp47, H⟩ := bind_some H
        refine EL.rowPrefix hp47 h45 tabOk rfl rfl rfl rfl rfl rfl rfl rfl rfl (fun k48 v49 h50 => ?_)
        exact EL.run tabOk 1 rfl (EL.nil (EX.seq (E.ret (EX.back hB21 ⟨vals19, l46, (es44.take (i35).toNat), rfl, rfl, rfl, hle40, h50, H⟩ tabOk rfl rfl (fun _ => rfl) ⟨.inr rfl, .inr rfl, .inr rfl, trivial⟩ rfl rfl rfl))))
      · skip
        refine E.block (E.fewer (E.loop (fun n env L Γ => ∃ (i51 : Int) (i52 : Int) (l53 : (List Int)) (es54 : List Value), env = [(0, some (.row 1)), (1, some (.v (.func (.func 60) #[] #[.pointer (some ⟨k12, 0, none⟩)]))), (5, some (.v (.int .i64 i51))), (6, some (.v (.int .i64 i52)))] ∧ L = [.gone, .row 3 1 l53.length es54, .sav [] vals19] ∧ GLe G16 Γ ∧ Els Γ l53 es54 ∧ loopN (fun _ _ _ => none) (lru_order_without_s4 k p1) n i51 i52 l53 = some r) k ⟨x33, wr (x33 + 1), x4, es10, rfl, rfl, GLe.refl _, h11, H⟩ ?_) ⟨⟨_, rfl, rfl⟩, ⟨_, rfl, rfl⟩, ⟨_, rfl, rfl⟩, ⟨_, rfl, rfl⟩, trivial⟩ ⟨.inr rfl, .inr rfl, .inr rfl, trivial⟩ rfl rfl)
        rintro n60 _ _ G58 ⟨i51, i52, l53, es54, rfl, rfl, hle56, h55, H⟩ K hK59
        obtain _ | n60 := n60
        · exact none_ne H
        rw [loopN] at H; unfold lru_order_without_s4 at H
        have hf18 := FnR.mono hle56 hf18; have hc15 := CellsAt.mono hle56 hc15
        refine E.seq (E.seq (E.region (EL.run tabOk 4 rfl (EL.nil (EX.seq (E.cond rfl H (fun hb H => ?_) (fun hb H => ?_)))))))
        · skip
          refine E.skip (EX.seq (E.seq (E.block (E.seq (E.region (EL.run tabOk 2 rfl ?_))))))
          obtain ⟨y61, hy62, H⟩ := bind_some H
          obtain ⟨g63, g64, g65, g66⟩ := idx_some hy62; obtain ⟨u67, hj68, hu69⟩ := All2.get h55 g66
          refine EL.indexRow g63 g65 tabOk rfl rfl rfl rfl rfl rfl rfl rfl ?_
          obtain rfl : _ = _ := hu69
          refine EL.loadRow (j := (i52).toNat) (off := 0) hj68 (part_whole _) tabOk rfl rfl rfl rfl rfl rfl rfl rfl (EL.run tabOk 1 rfl (EL.nil (EX.seq (E.seq (E.region (EL.run tabOk 2 rfl ?_))))))
          obtain ⟨x70, hx71, H⟩ := bind_some H
          refine EL.callV rfl rfl rfl rfl rfl lru_order_without_1_enters (fun w hw => lru_order_without_1_ok hx71 hw hc15) (fun v73 G75 hle72 hv74 => ?_)
          have hf18 := FnR.mono hle72 hf18; have hc15 := CellsAt.mono hle72 hc15; have h55 := Els.mono h55 hle72
          obtain rfl : _ = _ := hv74
          refine EL.run tabOk 1 rfl (EL.nil (EX.seq (E.join (fun env L Γ => ∃ (i76 : Int) (l77 : (List Int)) (es78 : List Value), env = [(0, some (.row 1)), (1, some (.v (.func (.func 60) #[] #[.pointer (some ⟨k12, 0, none⟩)]))), (5, some (.v (.int .i64 i76))), (6, some (.v (.int .i64 i52)))] ∧ L = [.gone, .row 3 1 l77.length es78, .sav [] vals19] ∧ GLe G75 Γ ∧ Els Γ l77 es78 ∧ lru_order_without_j3 k i52 (loopN (fun _ _ _ => none) (lru_order_without_s4 k p1) n60) i76 l77 = some r) ?_ (fun hj80 => ?_))))
          · skip
            rintro _ _ G82 ⟨i76, l77, es78, rfl, rfl, hle81, h79, H⟩
            unfold lru_order_without_j3 at H
            have hf18 := FnR.mono hle81 hf18; have hc15 := CellsAt.mono hle81 hc15
            exact EX.block (EX.seq (E.region (EL.run tabOk 3 rfl (EL.nil (EX.fewer (hK59 n60 _ _ _ (Nat.lt_succ_self _) ⟨i76, wr (i52 + 1), l77, es78, rfl, rfl, (GLe.trans (GLe.trans hle56 hle72) hle81), h79, H⟩) ⟨⟨_, rfl, rfl⟩, ⟨_, rfl, rfl⟩, ⟨_, rfl, rfl⟩, ⟨_, rfl, rfl⟩, trivial⟩ ⟨.inr rfl, .inr rfl, .inr rfl, trivial⟩ rfl rfl)))))
          · skip
            refine E.cond rfl H (fun hb H => ?_) (fun hb H => ?_)
            · skip
              refine E.seq (E.region (EL.run tabOk 3 rfl ?_))
              obtain ⟨y83, hy84, H⟩ := bind_some H
              obtain ⟨g85, g86, g87, g88⟩ := idx_some hy84; obtain ⟨u89, hj90, hu91⟩ := All2.get h55 g88
              refine EL.indexRow g85 g87 tabOk rfl rfl rfl rfl rfl rfl rfl rfl ?_
              obtain rfl : _ = _ := hu91
              obtain ⟨l92, hx93, H⟩ := bind_some H
              refine EL.upd hx93 h55 (show R G75 y61 (.int .i64 y61) from rfl) tabOk rfl rfl rfl rfl rfl rfl rfl rfl rfl rfl (fun es94 h95 => ?_)
              exact EL.nil (EX.seq (E.region (EL.run tabOk 3 rfl (EL.nil (EX.fewer (hj80 _ _ _ ⟨wr (i51 + 1), l92, es94, rfl, rfl, (GLe.refl _), h95, H⟩) ⟨⟨_, rfl, rfl⟩, ⟨_, rfl, rfl⟩, ⟨_, rfl, rfl⟩, ⟨_, rfl, rfl⟩, trivial⟩ ⟨.inr rfl, .inr rfl, .inr rfl, trivial⟩ rfl rfl)))))
            · skip
              exact E.skip (EX.fewer (hj80 _ _ _ ⟨i51, l53, es54, rfl, rfl, (GLe.refl _), h55, H⟩) ⟨⟨_, rfl, rfl⟩, ⟨_, rfl, rfl⟩, ⟨_, rfl, rfl⟩, ⟨_, rfl, rfl⟩, trivial⟩ ⟨.inr rfl, .inr rfl, .inr rfl, trivial⟩ rfl rfl)
        · skip
          exact E.exit (EX.out (EX.out (EX.hit (EX.fewer (hj39 _ _ _ ⟨i51, l53, es54, rfl, rfl, hle56, h55, H⟩) ⟨⟨_, rfl, rfl⟩, ⟨_, rfl, rfl⟩, trivial⟩ ⟨.inr rfl, .inr rfl, .inr rfl, trivial⟩ rfl rfl))))
theorem lru_order_use_enters : Enters Try.prog 54 := ⟨_, Try.func54, rfl, rfl⟩
set_option maxHeartbeats 4000000 in
theorem lru_order_use_ok {k : Nat} {p0 : (List Int)} {p1 : Int} {r : (List Int)} (H : lru_order_use k p0 p1 = some r) {G : Ghost} {w : World} (hG : Holds G w) {v0 : Value} (h0 : R G p0 v0) : Ret Try.prog 54 [v0, .int .i64 p1] w G (fun G v => R G r v) := by
  obtain ⟨A1, c2, rfl, h3⟩ := Sl.open h0
  unfold lru_order_use at H
  refine start Try.func54 rfl Try.ntmps54 rfl hG (E.seq (E.region (EL.run tabOk 1 rfl (EL.nil (EX.seq (E.seq (E.region (EL.run tabOk 4 rfl ?_))))))))
  obtain ⟨x4, hx5, H⟩ := bind_some H
  refine EL.call rfl rfl rfl rfl lru_order_without_enters (fun w hw => lru_order_without_ok hx5 hw h3) (fun v8 G7 hle6 hv9 => ?_)
  obtain ⟨A10, c11, rfl, h12⟩ := Sl.open hv9
  obtain ⟨l13, hp14, H⟩ := bind_some H
  refine EL.cat hp14 (show Els G7 ([p1] : List Int) [(.int .i64 p1)] from (.cons rfl All2.nil)) h12 tabOk rfl rfl rfl rfl rfl rfl rfl rfl rfl rfl rfl rfl rfl rfl (fun k15 v16 es17 h18 => ?_)
  refine EL.run tabOk 1 rfl (EL.nil (EX.seq (E.ret (EX.pubRow (xs := l13) 0 rfl h18 rfl (fun k19 A20 c21 G24 hle22 h23 => ?_)))))
  exact EX.retE H tabOk rfl h23
theorem lru_Use_enters : Enters Try.prog 40 := ⟨_, Try.func40, rfl, rfl⟩
set_option maxHeartbeats 4000000 in
theorem lru_Use_ok {k : Nat} {p0 : (List Int)} {p1 : Int} {r : ((List Int) × Int)} (H : lru_Use k p0 p1 = some r) {G : Ghost} {w : World} (hG : Holds G w) {v0 : Value} (h0 : R G p0 v0) : Ret Try.prog 40 [v0, .int .i64 p1] w G (fun G v => R2 G r v) := by
  obtain ⟨A1, c2, rfl, h3⟩ := Sl.open h0
  unfold lru_Use at H
  refine start Try.func40 rfl Try.ntmps40 rfl hG (E.seq (E.region (EL.run tabOk 2 rfl (EL.nil (EX.seq (E.seq (E.seq (E.region (EL.run tabOk 1 rfl ?_)))))))))
  obtain ⟨x4, hx5, H⟩ := bind_some H
  refine EL.call rfl rfl rfl rfl lru_Right_enters (fun w hw => lru_Right_ok hx5 hw h3) (fun v8 G7 hle6 hv9 => ?_)
  have h3 := Rep.mono hle6 h3
  obtain rfl : _ = _ := hv9
  refine EL.run tabOk 5 rfl (EL.nil (EX.seq (E.cond rfl H (fun hb H => ?_) (fun hb H => ?_))))
  · skip
    exact E.seq (E.region (EL.run tabOk 2 rfl (EL.nil (EX.seq (E.ret (EX.retT (EX.retE H tabOk rfl ⟨_, _, rfl, (Sl.nil _), rfl⟩)))))))
  · skip
    refine E.skip (EX.seq (E.seq (E.region (EL.run tabOk 2 rfl ?_))))
    obtain ⟨x10, hx11, H⟩ := bind_some H
    refine EL.call rfl rfl rfl rfl lru_order_use_enters (fun w hw => lru_order_use_ok hx11 hw h3) (fun v14 G13 hle12 hv15 => ?_)
    obtain ⟨A16, c17, rfl, h18⟩ := Sl.open hv15
    refine EL.run tabOk 1 rfl (EL.nil (EX.seq (E.seq (E.seq (E.region (EL.run tabOk 3 rfl (EL.nil (EX.seq (E.cond rfl H (fun hb H => ?_) (fun hb H => ?_))))))))))
    · skip
      exact E.seq (E.region (EL.run tabOk 2 rfl (EL.nil (EX.seq (E.ret (EX.retT (EX.retE H tabOk rfl ⟨_, _, rfl, (Sl.nil _), rfl⟩)))))))
    · skip
      exact E.skip (EX.seq (E.seq (E.region (EL.run tabOk 3 rfl (EL.nil (EX.seq (E.ret (EX.retE H tabOk rfl ⟨_, _, rfl, h18, rfl⟩))))))))
def fdb_own_own (r : Table) (G : Ghost) (ent : Ent) (s : SV) : Prop := ∃ es, ent = .row 44 1 r.Buckets.length es ∧ s = .agg [.row 0, .v (.int .i64 r.Slots), .v (.int .i64 r.Age)] ∧ Els G r.Buckets es
theorem fdb_own_enters : Enters Try.prog 43 := ⟨_, Try.func43, rfl, rfl⟩
set_option maxHeartbeats 4000000 in
theorem fdb_own_ok {k : Nat} {p0 : Table} {r : Table} (H : fdb_own k p0 = some r) {G : Ghost} {w : World} (hG : Holds G w) {v0 : Value} (h0 : R G p0 v0) : RetO Try.prog 43 [v0] w G (fdb_own_own r) := by
  obtain ⟨v4, rfl, h3⟩ := h0
  obtain ⟨A1, c2, rfl, h3⟩ := Sl.open h3
  unfold fdb_own at H
  refine startO Try.func43 rfl Try.ntmps43 rfl hG (E.seq (E.region (EL.run tabOk 2 rfl (EL.nil (EX.seq (E.seq (E.region (EL.run tabOk 3 rfl ?_))))))))
  obtain ⟨l5, hx6, H⟩ := bind_some H
  refine EL.mk (z := .slice none 0 0) hx6 (Sl.nil _) tabOk rfl rfl rfl rfl rfl rfl rfl rfl rfl rfl rfl (fun es7 h8 => ?_)
  refine EL.run tabOk 1 rfl (EL.nil (EX.seq (E.seq (E.region (EL.run tabOk 3 rfl (EL.copy h8 h3 tabOk rfl rfl rfl rfl rfl rfl rfl rfl rfl rfl (fun es9 h10 => ?_)))))))
  refine EL.nil (EX.seq (E.seq (E.region (EL.run tabOk 3 rfl (EL.nil (EX.seq (E.seq (E.region (EL.run tabOk 2 rfl (EL.nil (EX.seq (E.ret ?_))))))))))))
  obtain rfl := Option.some.inj H
  exact EX.retO (s := .agg [.row 0, .v (.int .i64 p0.Slots), .v (.int .i64 p0.Age)]) (r := 2) tabOk rfl rfl rfl (by exact trivial) ⟨_, rfl, rfl, h10⟩
def slices_Clone_41_own (r : List Int) (G : Ghost) (ent : Ent) (s : SV) : Prop := ∃ es, ent = .row 3 1 r.length es ∧ s = .row 0 ∧ Els G r es
theorem slices_Clone_41_enters : Enters Try.prog 41 := ⟨_, Try.func41, rfl, rfl⟩
theorem slices_Clone_41_ok {k : Nat} {p0 r : List Int} (H : slices_Clone_41 k p0 = some r) {G : Ghost} {w : World} (hG : Holds G w) {v0 : Value} (h0 : R G p0 v0) : RetO Try.prog 41 [v0] w G (slices_Clone_41_own r) := by
  obtain ⟨A, c, rfl, h0⟩ := Sl.open h0
  unfold slices_Clone_41 at H
  refine startO Try.func41 rfl Try.ntmps41 rfl hG (E.seq (E.region (EL.run tabOk 1 rfl (EL.nil (EX.seq ?_)))))
  refine E.seq (E.seq (E.region (EL.run tabOk 2 rfl (EL.nil (EX.seq ?_)))))
  cases A with
  | none =>
    have hp : p0 = [] := Sl.none_nil h0
    subst hp
    obtain ⟨_, rfl⟩ := cat_some H
    refine E.condB (b := true) rfl (fun _ => ?_) (fun h => nomatch h)
    refine E.seq (E.region (EL.run tabOk 1 rfl (EL.nil (EX.seq (E.ret (EX.retT ?_))))))
    exact EX.nilRow 2 3 1 rfl (EX.retO (s := .row 0) (r := 0) tabOk rfl rfl rfl (by exact trivial) ⟨[], rfl, rfl, All2.nil⟩)
  | some ad =>
    refine E.condB (b := false) rfl (fun h => nomatch h) (fun _ => E.skip (EX.seq ?_))
    refine E.seq (E.region (EL.run tabOk 2 rfl (EL.cat H All2.nil h0 tabOk rfl rfl rfl rfl rfl rfl rfl rfl rfl rfl rfl rfl rfl rfl (fun blk val es' h' => EL.run tabOk 1 rfl (EL.nil (EX.seq (E.ret ?_)))))))
    exact EX.retO (s := .row 0) (r := 0) tabOk rfl rfl rfl (by exact trivial) ⟨_, rfl, rfl, h'⟩
theorem lru_Drop_enters : Enters Try.prog 42 := ⟨_, Try.func42, rfl, rfl⟩
set_option maxHeartbeats 4000000 in
theorem lru_Drop_ok {k : Nat} {p0 : (List Int)} {p1 : Int} {r : ((List Int) × Int)} (H : lru_Drop k p0 p1 = some r) {G : Ghost} {w : World} (hG : Holds G w) {v0 : Value} (h0 : R G p0 v0) : Ret Try.prog 42 [v0, .int .i64 p1] w G (fun G v => R2 G r v) := by
  obtain ⟨A1, c2, rfl, h3⟩ := Sl.open h0
  unfold lru_Drop at H
  refine start Try.func42 rfl Try.ntmps42 rfl hG (E.seq (E.region (EL.run tabOk 2 rfl (EL.nil (EX.seq (E.seq (E.seq (E.region (EL.run tabOk 1 rfl ?_)))))))))
  obtain ⟨x4, hx5, H⟩ := bind_some H
  refine EL.call rfl rfl rfl rfl lru_Right_enters (fun w hw => lru_Right_ok hx5 hw h3) (fun v8 G7 hle6 hv9 => ?_)
  have h3 := Rep.mono hle6 h3
  obtain rfl : _ = _ := hv9
  refine EL.run tabOk 5 rfl (EL.nil (EX.seq (E.cond rfl H (fun hb H => ?_) (fun hb H => ?_))))
  · skip
    exact E.seq (E.region (EL.run tabOk 2 rfl (EL.nil (EX.seq (E.ret (EX.retT (EX.retE H tabOk rfl ⟨_, _, rfl, (Sl.nil _), rfl⟩)))))))
  · skip
    refine E.skip (EX.seq (E.seq (E.region (EL.run tabOk 2 rfl ?_))))
    obtain ⟨x10, hx11, H⟩ := bind_some H
    refine EL.call rfl rfl rfl rfl lru_order_without_enters (fun w hw => lru_order_without_ok hx11 hw h3) (fun v14 G13 hle12 hv15 => ?_)
    have h3 := Rep.mono hle12 h3
    obtain ⟨A16, c17, rfl, h18⟩ := Sl.open hv15
    refine EL.run tabOk 1 rfl (EL.nil (EX.seq (E.seq (E.seq (E.region (EL.run tabOk 5 rfl (EL.nil (EX.seq (E.cond rfl H (fun hb H => ?_) (fun hb H => ?_))))))))))
    · skip
      exact E.seq (E.region (EL.run tabOk 2 rfl (EL.nil (EX.seq (E.ret (EX.retT (EX.retE H tabOk rfl ⟨_, _, rfl, (Sl.nil _), rfl⟩)))))))
    · skip
      exact E.skip (EX.seq (E.seq (E.region (EL.run tabOk 3 rfl (EL.nil (EX.seq (E.ret (EX.retE H tabOk rfl ⟨_, _, rfl, h18, rfl⟩))))))))
theorem fdb_put_enters : Enters Try.prog 25 := ⟨_, Try.func25, rfl, rfl⟩
set_option maxHeartbeats 4000000 in
theorem fdb_put_ok {k : Nat} {p0 : Table} {p1 : Entry} {r : (Table × Bool)} (H : fdb_put k p0 p1 = some r) {G : Ghost} {w : World} (hG : Holds G w) {v0 : Value} (h0 : R G p0 v0) : Ret Try.prog 25 [v0, .agg #[.int .i64 p1.Mac, .int .i64 p1.Port, .int .i64 p1.Seen, .bool p1.Static]] w G (fun G v => R2 G r v) := by
  obtain ⟨v4, rfl, h3⟩ := h0
  obtain ⟨A1, c2, rfl, h3⟩ := Sl.open h3
  unfold fdb_put at H
  refine start Try.func25 rfl Try.ntmps25 rfl hG (E.seq (E.region (EL.run tabOk 4 rfl (EL.nil (EX.seq (E.seq (E.region (EL.run tabOk 3 rfl ?_))))))))
  obtain ⟨x5, hx6, H⟩ := bind_some H
  refine EL.call rfl rfl rfl rfl fdb_place_enters (fun w hw => fdb_place_ok hx6 hw ⟨_, rfl, h3⟩) (fun v9 G8 hle7 hv10 => ?_)
  have h3 := Rep.mono hle7 h3
  obtain ⟨u11, u12, rfl, h13, h14⟩ := hv10
  obtain rfl : _ = _ := h13
  obtain rfl : _ = _ := h14
  refine EL.run tabOk 5 rfl (EL.nil (EX.seq (E.seq (E.region (EL.run tabOk 3 rfl ?_)))))
  obtain ⟨y15, hy16, H⟩ := bind_some H
  refine EL.index hy16 h3 tabOk rfl rfl rfl rfl rfl rfl rfl rfl (fun b17 o18 u19 hu20 hc21 => ?_)
  obtain ⟨A22, c23, rfl, h24⟩ := Sl.open hu20
  refine EL.load hc21 tabOk rfl rfl rfl rfl rfl rfl ?_
  obtain ⟨x25, hx26, H⟩ := bind_some H
  refine EL.callO rfl rfl rfl rfl slices_Clone_enters (fun w hw => slices_Clone_ok hx26 hw h24) ?_
  rintro _ _ G28 hle27 ⟨es31, rfl, rfl, h32⟩
  have h24 := Rep.mono hle27 h24; have h3 := Rep.mono hle27 h3
  refine EL.run tabOk 1 rfl (EL.nil (EX.seq (E.seq (E.region (EL.run tabOk 1 rfl (EL.nil (EX.seq (E.seq (E.seq (E.region (EL.run tabOk 3 rfl (EL.nil (EX.seq (E.nilRow 9 3 1 rfl (E.join (fun env L Γ => ∃ (l33 : (List Int)) (es34 : List Value), env = [(2, some (.p 0 0)), (3, some (.p 1 0)), (4, some (.p 2 0)), (6, some (.v (.int .i64 x5.1))), (7, some (.v (.int .i64 x5.2))), (8, some (.row 3)), (9, some (.row 4))] ∧ L = [.box 24 [.v (.slice A1 p0.Buckets.length c2), .v (.int .i64 p0.Slots), .v (.int .i64 p0.Age)], .box 49 [.v (.int .i64 p1.Mac), .v (.int .i64 p1.Port), .v (.int .i64 p1.Seen), .v (.bool p1.Static)], .box 24 [.v (.slice none 0 0), .v (.int .i64 0), .v (.int .i64 0)], .row 49 4 x25.length es31, .row 3 1 l33.length es34] ∧ GLe G28 Γ ∧ Els Γ l33 es34 ∧ fdb_put_j7 k p0 p1 x5 x25 l33 = some r) ?_ (fun hj36 => ?_))))))))))))))))
  · skip
    rintro _ _ G38 ⟨l33, es34, rfl, rfl, hle37, h35, H⟩
    unfold fdb_put_j7 at H
    have h3 := Rep.mono hle37 h3; have h32 := Els.mono h32 hle37
    refine EX.seq (E.seq (E.seq (E.region (EL.run tabOk 2 rfl (EL.nil (EX.seq (E.join (fun env L Γ => ∃ (i39 : Int) (l40 : (List Entry)) (es41 : List Value), env = [(2, some (.p 0 0)), (3, some (.p 1 0)), (4, some (.p 2 0)), (6, some (.v (.int .i64 x5.1))), (7, some (.v (.int .i64 i39))), (8, some (.row 3)), (9, some (.row 4))] ∧ L = [.box 24 [.v (.slice A1 p0.Buckets.length c2), .v (.int .i64 p0.Slots), .v (.int .i64 p0.Age)], .box 49 [.v (.int .i64 p1.Mac), .v (.int .i64 p1.Port), .v (.int .i64 p1.Seen), .v (.bool p1.Static)], .box 24 [.v (.slice none 0 0), .v (.int .i64 0), .v (.int .i64 0)], .row 49 4 l40.length es41, .row 3 1 l33.length es34] ∧ GLe G38 Γ ∧ Els Γ l40 es41 ∧ fdb_put_j6 k p0 p1 x5 l33 i39 l40 = some r) ?_ (fun hj43 => ?_))))))))
    · skip
      rintro _ _ G45 ⟨i39, l40, es41, rfl, rfl, hle44, h42, H⟩
      unfold fdb_put_j6 at H
      have h3 := Rep.mono hle44 h3; have h35 := Els.mono h35 hle44
      refine EX.seq (E.seq (E.region (EL.run tabOk 3 rfl ?_)))
      obtain ⟨y46, hy47, H⟩ := bind_some H
      obtain ⟨g48, g49, g50, g51⟩ := idx_some hy47; obtain ⟨u52, hj53, hu54⟩ := All2.get h42 g51
      refine EL.indexRow g48 g50 tabOk rfl rfl rfl rfl rfl rfl rfl rfl ?_
      obtain rfl : _ = _ := hu54
      obtain ⟨l55, hx56, H⟩ := bind_some H
      refine EL.upd hx56 h42 (show R G45 p1 (.agg #[.int .i64 p1.Mac, .int .i64 p1.Port, .int .i64 p1.Seen, .bool p1.Static]) from rfl) tabOk rfl rfl rfl rfl rfl rfl rfl rfl rfl rfl (fun es57 h58 => ?_)
      refine EL.nil (EX.seq (E.seq (E.region (EL.run tabOk 2 rfl (EL.pubRow (xs := l33) 4 rfl h35 rfl rfl (fun k59 A60 c61 G64 hle62 h63 => ?_))))))
      have h3 := Rep.mono hle62 h3; have h58 := Els.mono h58 hle62
      obtain ⟨x65, hx66, H⟩ := bind_some H
      refine EL.call rfl rfl rfl rfl lru_Use_enters (fun w hw => lru_Use_ok hx66 hw h63) (fun v69 G68 hle67 hv70 => ?_)
      have h63 := Rep.mono hle67 h63; have h3 := Rep.mono hle67 h3; have h58 := Els.mono h58 hle67
      obtain ⟨u71, u72, rfl, h73, h74⟩ := hv70
      obtain ⟨A75, c76, rfl, h77⟩ := Sl.open h73
      obtain rfl : _ = _ := h74
      refine EL.run tabOk 4 rfl (EL.nil (EX.seq (E.seq (E.seq (E.region (EL.run tabOk 5 rfl (EL.nil (EX.seq (E.join (fun env L Γ => ∃ (l78 : (List Int)) (l82 : (List (List Entry))) (i86 : Int) (i87 : Int) (A79 : Option Addr) (c80 : Nat) (A83 : Option Addr) (c84 : Nat), env = [(2, some (.p 0 0)), (4, some (.p 2 0)), (6, some (.v (.int .i64 x5.1))), (8, some (.row 3)), (9, some (.v (.slice A79 l78.length c80)))] ∧ L = [.box 24 [.v (.slice A1 p0.Buckets.length c2), .v (.int .i64 p0.Slots), .v (.int .i64 p0.Age)], .box 49 [.v (.int .i64 p1.Mac), .v (.int .i64 p1.Port), .v (.int .i64 p1.Seen), .v (.bool p1.Static)], .box 24 [.v (.slice A83 l82.length c84), .v (.int .i64 i86), .v (.int .i64 i87)], .row 49 4 l55.length es57, .gone] ∧ GLe G68 Γ ∧ R Γ l78 (.slice A79 l78.length c80) ∧ R Γ l82 (.slice A83 l82.length c84) ∧ fdb_put_j3 k p0 x5 l55 l78 l82 i86 i87 = some r) ?_ (fun hj88 => ?_))))))))))
      · skip
        rintro _ _ G90 ⟨l78, l82, i86, i87, A79, c80, A83, c84, rfl, rfl, hle89, h81, h85, H⟩
        unfold fdb_put_j3 at H
        have h3 := Rep.mono hle89 h3; have h58 := Els.mono h58 hle89
        refine EX.seq (E.seq (E.region (EL.run tabOk 1 rfl (EL.nil (EX.seq (E.seq (E.seq (E.region (EL.run tabOk 3 rfl (EL.nil (EX.seq (E.nilRow 12 49 4 rfl (E.join (fun env L Γ => ∃ (l91 : (List Entry)) (es92 : List Value), env = [(2, some (.p 0 0)), (4, some (.p 2 0)), (6, some (.v (.int .i64 x5.1))), (12, some (.row 5))] ∧ L = [.box 24 [.v (.slice A1 p0.Buckets.length c2), .v (.int .i64 p0.Slots), .v (.int .i64 p0.Age)], .box 49 [.v (.int .i64 p1.Mac), .v (.int .i64 p1.Port), .v (.int .i64 p1.Seen), .v (.bool p1.Static)], .box 24 [.v (.slice A83 l82.length c84), .v (.int .i64 i86), .v (.int .i64 i87)], .row 49 4 l55.length es57, .gone, .row 49 4 l91.length es92] ∧ GLe G90 Γ ∧ Els Γ l91 es92 ∧ fdb_put_j1 k p0 x5 l91 = some r) ?_ (fun hj94 => ?_))))))))))))))
        · skip
          rintro _ _ G96 ⟨l91, es92, rfl, rfl, hle95, h93, H⟩
          unfold fdb_put_j1 at H
          have h3 := Rep.mono hle95 h3; have h85 := Rep.mono hle95 h85; have h58 := Els.mono h58 hle95
          refine EX.seq (E.seq (E.region (EL.run tabOk 1 rfl ?_)))
          obtain ⟨x97, hx98, H⟩ := bind_some H
          refine EL.callO rfl rfl rfl rfl fdb_own_enters (fun w hw => fdb_own_ok hx98 hw ⟨_, rfl, h3⟩) ?_
          rintro _ _ G100 hle99 ⟨es103, rfl, rfl, h104⟩
          have h3 := Rep.mono hle99 h3; have h85 := Rep.mono hle99 h85; have h58 := Els.mono h58 hle99; have h93 := Els.mono h93 hle99
          refine EL.run tabOk 1 rfl (EL.nil (EX.seq (E.seq (E.region (EL.run tabOk 4 rfl ?_)))))
          obtain ⟨y108, hy109, H⟩ := bind_some H
          obtain ⟨g110, g111, g112, g113⟩ := idx_some hy109; obtain ⟨u114, hj115, hu116⟩ := All2.get h104 g113
          refine EL.indexRow g110 g112 tabOk rfl rfl rfl rfl rfl rfl rfl rfl ?_
          obtain ⟨A117, c118, rfl, h119⟩ := Sl.open hu116
          refine EL.pubRow (xs := l91) 5 rfl h93 rfl rfl (fun k120 A121 c122 G125 hle123 h124 => ?_)
          have h85 := Rep.mono hle123 h85; have h58 := Els.mono h58 hle123; have h104 := Els.mono h104 hle123
          obtain ⟨l126, hx127, H⟩ := bind_some H
          refine EL.upd hx127 h104 (show R G125 l91 (.slice A121 l91.length c122) from h124) tabOk rfl rfl rfl rfl rfl rfl rfl rfl rfl rfl (fun es128 h129 => ?_)
          refine EL.nil (EX.seq (E.seq (E.region (EL.run tabOk 3 rfl (EL.nil (EX.seq (E.ret (EX.pubRow (xs := l126) 6 rfl h129 rfl (fun k130 A131 c132 G135 hle133 h134 => ?_)))))))))
          have h58 := Els.mono h58 hle133
          exact EX.retE H tabOk rfl ⟨_, _, rfl, ⟨_, rfl, h134⟩, rfl⟩
        · skip
          refine E.block (E.fewer (E.loop (fun n env L Γ => ∃ (i136 : Int) (l137 : (List Entry)) (es138 : List Value), env = [(2, some (.p 0 0)), (4, some (.p 2 0)), (6, some (.v (.int .i64 x5.1))), (8, some (.row 3)), (12, some (.row 5)), (99, some (.v (.slice A79 l78.length c80))), (100, some (.v (.int .i64 (l78.length : Int)))), (101, some (.v (.int .i64 i136)))] ∧ L = [.box 24 [.v (.slice A1 p0.Buckets.length c2), .v (.int .i64 p0.Slots), .v (.int .i64 p0.Age)], .box 49 [.v (.int .i64 p1.Mac), .v (.int .i64 p1.Port), .v (.int .i64 p1.Seen), .v (.bool p1.Static)], .box 24 [.v (.slice A83 l82.length c84), .v (.int .i64 i86), .v (.int .i64 i87)], .row 49 4 l55.length es57, .gone, .row 49 4 l137.length es138] ∧ GLe G90 Γ ∧ Els Γ l137 es138 ∧ loopN (fun _ _ => none) (fdb_put_s2 k p0 x5 l55 l78) n i136 l137 = some r) k ⟨0, [], [], rfl, rfl, GLe.refl _, All2.nil, H⟩ ?_) ⟨⟨_, rfl, rfl⟩, ⟨_, rfl, rfl⟩, ⟨_, rfl, rfl⟩, ⟨_, rfl, rfl⟩, ⟨_, rfl, rfl⟩, ⟨_, rfl, rfl⟩, ⟨_, rfl, rfl⟩, ⟨_, rfl, rfl⟩, trivial⟩ ⟨.inr rfl, .inr rfl, .inr rfl, .inr rfl, .inr rfl, .inr rfl, trivial⟩ rfl rfl)
          rintro n144 _ _ G142 ⟨i136, l137, es138, rfl, rfl, hle140, h139, H⟩ K hK143
          obtain _ | n144 := n144
          · exact none_ne H
          rw [loopN] at H; unfold fdb_put_s2 at H
          have h81 := Rep.mono hle140 h81; have h3 := Rep.mono hle140 h3; have h85 := Rep.mono hle140 h85; have h58 := Els.mono h58 hle140
          refine E.seq (E.region (EL.run tabOk 1 rfl (EL.nil (EX.seq (E.seq (E.cond rfl H (fun hb H => ?_) (fun hb H => ?_)))))))
          · skip
            refine E.skip (EX.seq (E.seq (E.block (E.seq (E.region ?_)))))
            obtain ⟨y145, hy146, H⟩ := bind_some H
            refine EL.index hy146 h81 tabOk rfl rfl rfl rfl rfl rfl rfl rfl (fun b147 o148 u149 hu150 hc151 => ?_)
            obtain rfl : _ = _ := hu150
            refine EL.load hc151 tabOk rfl rfl rfl rfl rfl rfl (EL.run tabOk 1 rfl (EL.nil (EX.seq (E.region (EL.run tabOk 3 rfl ?_)))))
            obtain ⟨y152, hy153, H⟩ := bind_some H
            obtain ⟨g154, g155, g156, g157⟩ := idx_some hy153; obtain ⟨u158, hj159, hu160⟩ := All2.get h58 g157
            refine EL.indexRow g154 g156 tabOk rfl rfl rfl rfl rfl rfl rfl rfl ?_
            obtain rfl : _ = _ := hu160
            refine EL.loadRow (j := (y145).toNat) (off := 0) hj159 (part_whole _) tabOk rfl rfl rfl rfl rfl rfl rfl rfl (EL.run tabOk 1 rfl ?_)
            obtain ⟨l161, hp162, H⟩ := bind_some H
            refine EL.push hp162 h139 (show R G142 y152 (.agg #[.int .i64 y152.Mac, .int .i64 y152.Port, .int .i64 y152.Seen, .bool y152.Static]) from rfl) tabOk rfl rfl rfl rfl rfl rfl rfl rfl rfl rfl rfl rfl rfl rfl rfl (fun k163 v164 es165 h166 => ?_)
            exact EL.run tabOk 1 rfl (EL.nil (EX.block (EX.seq (E.region (EL.run tabOk 2 rfl (EL.nil (EX.fewer (hK143 n144 _ _ _ (Nat.lt_succ_self _) ⟨wr (i136 + 1), l161, es165, rfl, rfl, hle140, h166, H⟩) ⟨⟨_, rfl, rfl⟩, ⟨_, rfl, rfl⟩, ⟨_, rfl, rfl⟩, ⟨_, rfl, rfl⟩, ⟨_, rfl, rfl⟩, ⟨_, rfl, rfl⟩, ⟨_, rfl, rfl⟩, ⟨_, rfl, rfl⟩, trivial⟩ ⟨.inr rfl, .inr rfl, .inr rfl, .inr rfl, .inr rfl, .inr rfl, trivial⟩ rfl rfl)))))))
          · skip
            exact E.exit (EX.out (EX.out (EX.hit (EX.fewer (hj94 _ _ _ ⟨l137, es138, rfl, rfl, hle140, h139, H⟩) ⟨⟨_, rfl, rfl⟩, ⟨_, rfl, rfl⟩, ⟨_, rfl, rfl⟩, ⟨_, rfl, rfl⟩, trivial⟩ ⟨.inr rfl, .inr rfl, .inr rfl, .inr rfl, .inr rfl, .inr rfl, trivial⟩ rfl rfl))))
      · skip
        refine E.cond rfl H (fun hb H => ?_) (fun hb H => ?_)
        · skip
          refine E.seq (E.region (EL.run tabOk 1 rfl ?_))
          obtain ⟨l167, hy168, H⟩ := bind_some H
          refine EL.slice hy168 h77 tabOk rfl rfl rfl rfl rfl rfl rfl rfl rfl (fun A169 c170 h171 => ?_)
          obtain ⟨x172, hx173, H⟩ := bind_some H
          refine EL.callO rfl rfl rfl rfl slices_Clone_41_enters (fun w hw => slices_Clone_41_ok hx173 hw h171) ?_
          rintro _ _ G175 hle174 ⟨es178, rfl, rfl, h179⟩
          have h77 := Rep.mono hle174 h77; have h171 := Rep.mono hle174 h171; have h3 := Rep.mono hle174 h3; have h58 := Els.mono h58 hle174
          refine EL.run tabOk 1 rfl (EL.nil (EX.seq (E.seq (E.join (fun env L Γ => ∃ (l180 : (List Int)) (A181 : Option Addr) (c182 : Nat), env = [(2, some (.p 0 0)), (4, some (.p 2 0)), (6, some (.v (.int .i64 x5.1))), (8, some (.row 3)), (9, some (.v (.slice A75 x65.1.length c76))), (11, some (.v (.slice A181 l180.length c182)))] ∧ L = [.box 24 [.v (.slice A1 p0.Buckets.length c2), .v (.int .i64 p0.Slots), .v (.int .i64 p0.Age)], .box 49 [.v (.int .i64 p1.Mac), .v (.int .i64 p1.Port), .v (.int .i64 p1.Seen), .v (.bool p1.Static)], .box 24 [.v (.slice none 0 0), .v (.int .i64 0), .v (.int .i64 0)], .row 49 4 l55.length es57, .gone, .gone] ∧ GLe G175 Γ ∧ R Γ l180 (.slice A181 l180.length c182) ∧ fdb_put_j4 k p0 x5 l55 x65 l180 = some r) ?_ (fun hj184 => ?_)))))
          · skip
            rintro _ _ G186 ⟨l180, A181, c182, rfl, rfl, hle185, h183, H⟩
            unfold fdb_put_j4 at H
            have h77 := Rep.mono hle185 h77; have h3 := Rep.mono hle185 h3; have h58 := Els.mono h58 hle185
            refine EX.seq (E.seq (E.seq (E.region (EL.run tabOk 3 rfl (EL.nil (EX.seq (E.cond rfl H (fun hb H => ?_) (fun hb H => ?_))))))))
            · skip
              exact E.seq (E.region (EL.run tabOk 3 rfl (EL.nil (EX.seq (E.ret (EX.retT (EX.retT (EX.retE H tabOk rfl ⟨_, _, rfl, ⟨_, rfl, h3⟩, rfl⟩))))))))
            · skip
              refine E.skip (EX.seq (E.region (EL.run tabOk 5 rfl ?_)))
              obtain ⟨y187, hy188, H⟩ := bind_some H
              refine EL.index hy188 h183 tabOk rfl rfl rfl rfl rfl rfl rfl rfl (fun b189 o190 u191 hu192 hc193 => ?_)
              obtain rfl : _ = _ := hu192
              refine EL.load hc193 tabOk rfl rfl rfl rfl rfl rfl ?_
              obtain ⟨x194, hx195, H⟩ := bind_some H
              refine EL.call rfl rfl rfl rfl lru_Drop_enters (fun w hw => lru_Drop_ok hx195 hw h77) (fun v198 G197 hle196 hv199 => ?_)
              have h77 := Rep.mono hle196 h77; have h3 := Rep.mono hle196 h3; have h58 := Els.mono h58 hle196
              obtain ⟨u200, u201, rfl, h202, h203⟩ := hv199
              obtain ⟨A204, c205, rfl, h206⟩ := Sl.open h202
              obtain rfl : _ = _ := h203
              exact EL.run tabOk 4 rfl (EL.nil (EX.fewer (hj88 _ _ _ ⟨x194.1, [], 0, 0, A204, c205, none, 0, rfl, rfl, (GLe.trans (GLe.trans hle174 hle185) hle196), h206, (Sl.nil _), H⟩) ⟨⟨_, rfl, rfl⟩, ⟨_, rfl, rfl⟩, ⟨_, rfl, rfl⟩, ⟨_, rfl, rfl⟩, ⟨_, rfl, rfl⟩, trivial⟩ ⟨.inr rfl, .inr rfl, .inr rfl, .inr rfl, .inr rfl, trivial⟩ rfl rfl))
          · skip
            refine E.block (E.pubRow (xs := x172) 5 rfl h179 rfl (fun k213 A214 c215 G218 hle216 h217 => ?_))
            have h77 := Rep.mono hle216 h77; have h3 := Rep.mono hle216 h3; have h58 := Els.mono h58 hle216
            refine E.fewer (E.loop (fun n env L Γ => ∃ (l207 : (List Int)) (A208 : Option Addr) (c209 : Nat), env = [(2, some (.p 0 0)), (4, some (.p 2 0)), (6, some (.v (.int .i64 x5.1))), (8, some (.row 3)), (9, some (.v (.slice A75 x65.1.length c76))), (11, some (.v (.slice A208 l207.length c209)))] ∧ L = [.box 24 [.v (.slice A1 p0.Buckets.length c2), .v (.int .i64 p0.Slots), .v (.int .i64 p0.Age)], .box 49 [.v (.int .i64 p1.Mac), .v (.int .i64 p1.Port), .v (.int .i64 p1.Seen), .v (.bool p1.Static)], .box 24 [.v (.slice none 0 0), .v (.int .i64 0), .v (.int .i64 0)], .row 49 4 l55.length es57, .gone, .gone] ∧ GLe G218 Γ ∧ R Γ l207 (.slice A208 l207.length c209) ∧ loopN (fun _ => none) (fdb_put_s5 k p0 x5 l55 x65) n l207 = some r) k ⟨x172, A214, c215, rfl, rfl, GLe.refl _, h217, H⟩ ?_) ⟨⟨_, rfl, rfl⟩, ⟨_, rfl, rfl⟩, ⟨_, rfl, rfl⟩, ⟨_, rfl, rfl⟩, ⟨_, rfl, rfl⟩, ⟨_, rfl, rfl⟩, trivial⟩ ⟨.inr rfl, .inr rfl, .inr rfl, .inr rfl, .inr rfl, .inr rfl, trivial⟩ rfl rfl
            rintro n221 _ _ G219 ⟨l207, A208, c209, rfl, rfl, hle211, h210, H⟩ K hK220
            obtain _ | n221 := n221
            · exact none_ne H
            rw [loopN] at H; unfold fdb_put_s5 at H
            have h77 := Rep.mono hle211 h77; have h3 := Rep.mono hle211 h3; have h58 := Els.mono h58 hle211
            refine E.seq (E.seq (E.region (EL.run tabOk 4 rfl (EL.split (s := 67) rfl H (fun hb H => ?_) (fun hb H => ?_)))))
            · skip
              refine EL.run tabOk 5 rfl ?_
              obtain ⟨y222, hy223, H⟩ := bind_some H
              refine EL.index hy223 h210 tabOk rfl rfl rfl rfl rfl rfl rfl rfl (fun b224 o225 u226 hu227 hc228 => ?_)
              obtain rfl : _ = _ := hu227
              refine EL.load hc228 tabOk rfl rfl rfl rfl rfl rfl ?_
              obtain ⟨y229, hy230, H⟩ := bind_some H
              obtain ⟨g231, g232, g233, g234⟩ := idx_some hy230; obtain ⟨u235, hj236, hu237⟩ := All2.get h58 g234
              refine EL.indexRow g231 g233 tabOk rfl rfl rfl rfl rfl rfl rfl rfl ?_
              obtain rfl : _ = _ := hu237
              refine EL.run tabOk 1 rfl (EL.loadRow (j := (y222).toNat) (off := 3) hj236 (part_fld rfl rfl) tabOk rfl rfl rfl rfl rfl rfl rfl rfl (EL.run tabOk 1 rfl (EL.nil (EX.seq (E.cond rfl H (fun hb H => ?_) (fun hb H => ?_))))))
              · skip
                refine E.skip (EX.seq (E.block (E.region (EL.run tabOk 4 rfl ?_))))
                obtain ⟨l238, hy239, H⟩ := bind_some H
                refine EL.slice hy239 h210 tabOk rfl rfl rfl rfl rfl rfl rfl rfl rfl (fun A240 c241 h242 => ?_)
                exact EL.run tabOk 1 rfl (EL.nil (EX.block (EX.fewer (hK220 n221 _ _ _ (Nat.lt_succ_self _) ⟨l238, A240, c241, rfl, rfl, hle211, h242, H⟩) ⟨⟨_, rfl, rfl⟩, ⟨_, rfl, rfl⟩, ⟨_, rfl, rfl⟩, ⟨_, rfl, rfl⟩, ⟨_, rfl, rfl⟩, ⟨_, rfl, rfl⟩, trivial⟩ ⟨.inr rfl, .inr rfl, .inr rfl, .inr rfl, .inr rfl, .inr rfl, trivial⟩ rfl rfl)))
              · skip
                exact E.exit (EX.out (EX.out (EX.hit (EX.fewer (hj184 _ _ _ ⟨l207, A208, c209, rfl, rfl, (GLe.trans hle216 hle211), h210, H⟩) ⟨⟨_, rfl, rfl⟩, ⟨_, rfl, rfl⟩, ⟨_, rfl, rfl⟩, ⟨_, rfl, rfl⟩, ⟨_, rfl, rfl⟩, ⟨_, rfl, rfl⟩, trivial⟩ ⟨.inr rfl, .inr rfl, .inr rfl, .inr rfl, .inr rfl, .inr rfl, trivial⟩ rfl rfl))))
            · skip
              exact EL.run tabOk 11 rfl (EL.nil (EX.seq (E.condF rfl (E.exit (EX.out (EX.out (EX.hit (EX.fewer (hj184 _ _ _ ⟨l207, A208, c209, rfl, rfl, (GLe.trans hle216 hle211), h210, H⟩) ⟨⟨_, rfl, rfl⟩, ⟨_, rfl, rfl⟩, ⟨_, rfl, rfl⟩, ⟨_, rfl, rfl⟩, ⟨_, rfl, rfl⟩, ⟨_, rfl, rfl⟩, trivial⟩ ⟨.inr rfl, .inr rfl, .inr rfl, .inr rfl, .inr rfl, .inr rfl, trivial⟩ rfl rfl))))))))
        · skip
          exact E.skip (EX.fewer (hj88 _ _ _ ⟨x65.1, [], 0, 0, A75, c76, none, 0, rfl, rfl, (GLe.refl _), h77, (Sl.nil _), H⟩) ⟨⟨_, rfl, rfl⟩, ⟨_, rfl, rfl⟩, ⟨_, rfl, rfl⟩, ⟨_, rfl, rfl⟩, ⟨_, rfl, rfl⟩, trivial⟩ ⟨.inr rfl, .inr rfl, .inr rfl, .inr rfl, .inr rfl, trivial⟩ rfl rfl)
    · skip
      refine E.cond rfl H (fun hb H => ?_) (fun hb H => ?_)
      · skip
        refine E.region (EL.run tabOk 5 rfl ?_)
        obtain ⟨l243, hp244, H⟩ := bind_some H
        refine EL.push hp244 h32 (show R G38 p1 (.agg #[.int .i64 p1.Mac, .int .i64 p1.Port, .int .i64 p1.Seen, .bool p1.Static]) from rfl) tabOk rfl rfl rfl rfl rfl rfl rfl rfl rfl rfl rfl rfl rfl rfl rfl (fun k245 v246 es247 h248 => ?_)
        exact EL.run tabOk 2 rfl (EL.nil (EX.fewer (hj43 _ _ _ ⟨((x25.length : Nat) : Int), l243, es247, rfl, rfl, (GLe.refl _), h248, H⟩) ⟨⟨_, rfl, rfl⟩, ⟨_, rfl, rfl⟩, ⟨_, rfl, rfl⟩, ⟨_, rfl, rfl⟩, ⟨_, rfl, rfl⟩, ⟨_, rfl, rfl⟩, ⟨_, rfl, rfl⟩, trivial⟩ ⟨.inr rfl, .inr rfl, .inr rfl, .inr rfl, .inr rfl, trivial⟩ rfl rfl))
      · skip
        exact E.skip (EX.fewer (hj43 _ _ _ ⟨x5.2, x25, es31, rfl, rfl, (GLe.refl _), h32, H⟩) ⟨⟨_, rfl, rfl⟩, ⟨_, rfl, rfl⟩, ⟨_, rfl, rfl⟩, ⟨_, rfl, rfl⟩, ⟨_, rfl, rfl⟩, ⟨_, rfl, rfl⟩, ⟨_, rfl, rfl⟩, trivial⟩ ⟨.inr rfl, .inr rfl, .inr rfl, .inr rfl, .inr rfl, trivial⟩ rfl rfl)
  · skip
    refine E.block (E.fewer (E.loop (fun n env L Γ => ∃ (i249 : Int) (l250 : (List Int)) (es251 : List Value), env = [(2, some (.p 0 0)), (3, some (.p 1 0)), (4, some (.p 2 0)), (6, some (.v (.int .i64 x5.1))), (7, some (.v (.int .i64 x5.2))), (8, some (.row 3)), (9, some (.row 4)), (29, some (.v (.int .i64 ((x25.length : Nat) : Int)))), (30, some (.v (.int .i64 i249)))] ∧ L = [.box 24 [.v (.slice A1 p0.Buckets.length c2), .v (.int .i64 p0.Slots), .v (.int .i64 p0.Age)], .box 49 [.v (.int .i64 p1.Mac), .v (.int .i64 p1.Port), .v (.int .i64 p1.Seen), .v (.bool p1.Static)], .box 24 [.v (.slice none 0 0), .v (.int .i64 0), .v (.int .i64 0)], .row 49 4 x25.length es31, .row 3 1 l250.length es251] ∧ GLe G28 Γ ∧ Els Γ l250 es251 ∧ loopN (fun _ _ => none) (fdb_put_s8 k p0 p1 x5 x25) n i249 l250 = some r) k ⟨0, [], [], rfl, rfl, GLe.refl _, All2.nil, H⟩ ?_) ⟨⟨_, rfl, rfl⟩, ⟨_, rfl, rfl⟩, ⟨_, rfl, rfl⟩, ⟨_, rfl, rfl⟩, ⟨_, rfl, rfl⟩, ⟨_, rfl, rfl⟩, ⟨_, rfl, rfl⟩, ⟨_, rfl, rfl⟩, ⟨_, rfl, rfl⟩, trivial⟩ ⟨.inr rfl, .inr rfl, .inr rfl, .inr rfl, .inr rfl, trivial⟩ rfl rfl)
    rintro n257 _ _ G255 ⟨i249, l250, es251, rfl, rfl, hle253, h252, H⟩ K hK256
    obtain _ | n257 := n257
    · exact none_ne H
    rw [loopN] at H; unfold fdb_put_s8 at H
    have h3 := Rep.mono hle253 h3; have h32 := Els.mono h32 hle253
    refine E.seq (E.region (EL.run tabOk 1 rfl (EL.nil (EX.seq (E.seq (E.cond rfl H (fun hb H => ?_) (fun hb H => ?_)))))))
    · skip
      refine E.skip (EX.seq (E.seq (E.block (E.seq (E.region (EL.run tabOk 2 rfl (EL.nil (EX.seq (E.region (EL.run tabOk 3 rfl ?_))))))))))
      obtain ⟨l258, hp259, H⟩ := bind_some H
      refine EL.push hp259 h252 (show R G255 i249 (.int .i64 i249) from rfl) tabOk rfl rfl rfl rfl rfl rfl rfl rfl rfl rfl rfl rfl rfl rfl rfl (fun k260 v261 es262 h263 => ?_)
      exact EL.run tabOk 1 rfl (EL.nil (EX.block (EX.seq (E.region (EL.run tabOk 2 rfl (EL.nil (EX.fewer (hK256 n257 _ _ _ (Nat.lt_succ_self _) ⟨wr (i249 + 1), l258, es262, rfl, rfl, hle253, h263, H⟩) ⟨⟨_, rfl, rfl⟩, ⟨_, rfl, rfl⟩, ⟨_, rfl, rfl⟩, ⟨_, rfl, rfl⟩, ⟨_, rfl, rfl⟩, ⟨_, rfl, rfl⟩, ⟨_, rfl, rfl⟩, ⟨_, rfl, rfl⟩, ⟨_, rfl, rfl⟩, trivial⟩ ⟨.inr rfl, .inr rfl, .inr rfl, .inr rfl, .inr rfl, trivial⟩ rfl rfl)))))))
    · skip
      exact E.exit (EX.out (EX.out (EX.hit (EX.fewer (hj36 _ _ _ ⟨l250, es251, rfl, rfl, hle253, h252, H⟩) ⟨⟨_, rfl, rfl⟩, ⟨_, rfl, rfl⟩, ⟨_, rfl, rfl⟩, ⟨_, rfl, rfl⟩, ⟨_, rfl, rfl⟩, ⟨_, rfl, rfl⟩, ⟨_, rfl, rfl⟩, trivial⟩ ⟨.inr rfl, .inr rfl, .inr rfl, .inr rfl, .inr rfl, trivial⟩ rfl rfl))))
theorem fdb_Learn_enters : Enters Try.prog 7 := ⟨_, Try.func7, rfl, rfl⟩
set_option maxHeartbeats 4000000 in
theorem fdb_Learn_ok {k : Nat} {p0 : Table} {p1 : Int} {p2 : Int} {p3 : Int} {r : (Table × Int)} (H : fdb_Learn k p0 p1 p2 p3 = some r) {G : Ghost} {w : World} (hG : Holds G w) {v0 : Value} (h0 : R G p0 v0) : Ret Try.prog 7 [v0, .int .i64 p1, .int .i64 p2, .int .i64 p3] w G (fun G v => R2 G r v) := by
  obtain ⟨v4, rfl, h3⟩ := h0
  obtain ⟨A1, c2, rfl, h3⟩ := Sl.open h3
  unfold fdb_Learn at H
  refine start Try.func7 rfl Try.ntmps7 rfl hG (E.seq (E.region (EL.run tabOk 3 rfl (EL.nil (EX.seq (E.seq (E.seq (E.region (EL.run tabOk 1 rfl ?_)))))))))
  obtain ⟨x5, hx6, H⟩ := bind_some H
  refine EL.call rfl rfl rfl rfl fdb_Right_enters (fun w hw => fdb_Right_ok hx6 hw ⟨_, rfl, h3⟩) (fun v9 G8 hle7 hv10 => ?_)
  have h3 := Rep.mono hle7 h3
  obtain rfl : _ = _ := hv10
  refine EL.run tabOk 2 rfl (EL.split (s := 13) rfl H (fun hb H => ?_) (fun hb H => ?_))
  · skip
    exact EL.run tabOk 14 rfl (EL.nil (EX.seq (E.condT rfl (E.seq (E.region (EL.run tabOk 3 rfl (EL.nil (EX.seq (E.ret (EX.retT (EX.retE H tabOk rfl ⟨_, _, rfl, ⟨_, rfl, (Sl.nil _)⟩, rfl⟩)))))))))))
  · skip
    refine EL.run tabOk 1 rfl ?_
    obtain ⟨x11, hx12, H⟩ := bind_some H
    refine EL.call rfl rfl rfl rfl fdb_isMac_enters (fun w hw => fdb_isMac_ok hx12 hw ) (fun v15 G14 hle13 hv16 => ?_)
    have h3 := Rep.mono hle13 h3
    obtain rfl : _ = _ := hv16
    refine EL.run tabOk 3 rfl (EL.split (s := 18) rfl H (fun hb H => ?_) (fun hb H => ?_))
    · skip
      exact EL.run tabOk 9 rfl (EL.nil (EX.seq (E.condT rfl (E.seq (E.region (EL.run tabOk 3 rfl (EL.nil (EX.seq (E.ret (EX.retT (EX.retE H tabOk rfl ⟨_, _, rfl, ⟨_, rfl, (Sl.nil _)⟩, rfl⟩)))))))))))
    · skip
      refine EL.run tabOk 1 rfl ?_
      obtain ⟨x17, hx18, H⟩ := bind_some H
      refine EL.call rfl rfl rfl rfl fdb_isPort_enters (fun w hw => fdb_isPort_ok hx18 hw ) (fun v21 G20 hle19 hv22 => ?_)
      have h3 := Rep.mono hle19 h3
      obtain rfl : _ = _ := hv22
      refine EL.run tabOk 3 rfl (EL.split (s := 23) rfl H (fun hb H => ?_) (fun hb H => ?_))
      · skip
        exact EL.run tabOk 4 rfl (EL.nil (EX.seq (E.condT rfl (E.seq (E.region (EL.run tabOk 3 rfl (EL.nil (EX.seq (E.ret (EX.retT (EX.retE H tabOk rfl ⟨_, _, rfl, ⟨_, rfl, (Sl.nil _)⟩, rfl⟩)))))))))))
      · skip
        refine EL.run tabOk 1 rfl ?_
        obtain ⟨x23, hx24, H⟩ := bind_some H
        refine EL.call rfl rfl rfl rfl fdb_isTime_enters (fun w hw => fdb_isTime_ok hx24 hw ) (fun v27 G26 hle25 hv28 => ?_)
        have h3 := Rep.mono hle25 h3
        obtain rfl : _ = _ := hv28
        refine EL.run tabOk 2 rfl (EL.nil (EX.seq (E.cond rfl H (fun hb H => ?_) (fun hb H => ?_))))
        · skip
          exact E.seq (E.region (EL.run tabOk 3 rfl (EL.nil (EX.seq (E.ret (EX.retT (EX.retE H tabOk rfl ⟨_, _, rfl, ⟨_, rfl, (Sl.nil _)⟩, rfl⟩)))))))
        · skip
          refine E.skip (EX.seq (E.seq (E.seq (E.region (EL.run tabOk 2 rfl ?_)))))
          obtain ⟨x29, hx30, H⟩ := bind_some H
          refine EL.call rfl rfl rfl rfl fdb_pinned_enters (fun w hw => fdb_pinned_ok hx30 hw ⟨_, rfl, h3⟩) (fun v33 G32 hle31 hv34 => ?_)
          have h3 := Rep.mono hle31 h3
          obtain rfl : _ = _ := hv34
          refine EL.run tabOk 1 rfl (EL.nil (EX.seq (E.join (fun env L Γ => ∃ (l35 : (List (List Entry))) (i39 : Int) (i40 : Int) (A36 : Option Addr) (c37 : Nat), env = [(4, some (.p 0 0)), (8, some (.p 1 0))] ∧ L = [.box 24 [.v (.slice A36 l35.length c37), .v (.int .i64 i39), .v (.int .i64 i40)], .box 24 [.v (.slice none 0 0), .v (.int .i64 0), .v (.int .i64 0)]] ∧ GLe G32 Γ ∧ R Γ l35 (.slice A36 l35.length c37) ∧ fdb_Learn_j1 k l35 i39 i40 = some r) ?_ (fun hj41 => ?_))))
          · skip
            rintro _ _ G43 ⟨l35, i39, i40, A36, c37, rfl, rfl, hle42, h38, H⟩
            unfold fdb_Learn_j1 at H
            exact EX.seq (E.seq (E.region (EL.run tabOk 3 rfl (EL.nil (EX.seq (E.ret (EX.retE H tabOk rfl ⟨_, _, rfl, ⟨_, rfl, h38⟩, rfl⟩)))))))
          · skip
            refine E.cond rfl H (fun hb H => ?_) (fun hb H => ?_)
            · skip
              refine E.region (EL.run tabOk 5 rfl ?_)
              obtain ⟨x44, hx45, H⟩ := bind_some H
              refine EL.call rfl rfl rfl rfl fdb_put_enters (fun w hw => fdb_put_ok hx45 hw ⟨_, rfl, h3⟩) (fun v48 G47 hle46 hv49 => ?_)
              have h3 := Rep.mono hle46 h3
              obtain ⟨u50, u51, rfl, h52, h53⟩ := hv49
              obtain ⟨v57, rfl, h56⟩ := h52
              obtain ⟨A54, c55, rfl, h56⟩ := Sl.open h56
              obtain rfl : _ = _ := h53
              exact EL.run tabOk 4 rfl (EL.nil (EX.fewer (hj41 _ _ _ ⟨x44.1.Buckets, x44.1.Slots, x44.1.Age, A54, c55, rfl, rfl, hle46, h56, H⟩) ⟨⟨_, rfl, rfl⟩, ⟨_, rfl, rfl⟩, trivial⟩ ⟨.inr rfl, .inr rfl, trivial⟩ rfl rfl))
            · skip
              exact E.skip (EX.fewer (hj41 _ _ _ ⟨p0.Buckets, p0.Slots, p0.Age, A1, c2, rfl, rfl, (GLe.refl _), h3, H⟩) ⟨⟨_, rfl, rfl⟩, ⟨_, rfl, rfl⟩, trivial⟩ ⟨.inr rfl, .inr rfl, trivial⟩ rfl rfl)
theorem fdb_Find_enters : Enters Try.prog 8 := ⟨_, Try.func8, rfl, rfl⟩
set_option maxHeartbeats 4000000 in
theorem fdb_Find_ok {k : Nat} {p0 : Table} {p1 : Int} {p2 : Int} {r : (Int × Int)} (H : fdb_Find k p0 p1 p2 = some r) {G : Ghost} {w : World} (hG : Holds G w) {v0 : Value} (h0 : R G p0 v0) : Ret Try.prog 8 [v0, .int .i64 p1, .int .i64 p2] w G (fun G v => R2 G r v) := by
  obtain ⟨v4, rfl, h3⟩ := h0
  obtain ⟨A1, c2, rfl, h3⟩ := Sl.open h3
  unfold fdb_Find at H
  refine start Try.func8 rfl Try.ntmps8 rfl hG (E.seq (E.region (EL.run tabOk 3 rfl (EL.nil (EX.seq (E.seq (E.seq (E.region (EL.run tabOk 1 rfl ?_)))))))))
  obtain ⟨x5, hx6, H⟩ := bind_some H
  refine EL.call rfl rfl rfl rfl fdb_Right_enters (fun w hw => fdb_Right_ok hx6 hw ⟨_, rfl, h3⟩) (fun v9 G8 hle7 hv10 => ?_)
  have h3 := Rep.mono hle7 h3
  obtain rfl : _ = _ := hv10
  refine EL.run tabOk 2 rfl (EL.split (s := 14) rfl H (fun hb H => ?_) (fun hb H => ?_))
  · skip
    exact EL.run tabOk 9 rfl (EL.nil (EX.seq (E.condT rfl (E.seq (E.region (EL.run tabOk 2 rfl (EL.nil (EX.seq (E.ret (EX.retT (EX.retE H tabOk rfl ⟨_, _, rfl, rfl, rfl⟩)))))))))))
  · skip
    refine EL.run tabOk 1 rfl ?_
    obtain ⟨x11, hx12, H⟩ := bind_some H
    refine EL.call rfl rfl rfl rfl fdb_isMac_enters (fun w hw => fdb_isMac_ok hx12 hw ) (fun v15 G14 hle13 hv16 => ?_)
    have h3 := Rep.mono hle13 h3
    obtain rfl : _ = _ := hv16
    refine EL.run tabOk 3 rfl (EL.split (s := 19) rfl H (fun hb H => ?_) (fun hb H => ?_))
    · skip
      exact EL.run tabOk 4 rfl (EL.nil (EX.seq (E.condT rfl (E.seq (E.region (EL.run tabOk 2 rfl (EL.nil (EX.seq (E.ret (EX.retT (EX.retE H tabOk rfl ⟨_, _, rfl, rfl, rfl⟩)))))))))))
    · skip
      refine EL.run tabOk 1 rfl ?_
      obtain ⟨x17, hx18, H⟩ := bind_some H
      refine EL.call rfl rfl rfl rfl fdb_isTime_enters (fun w hw => fdb_isTime_ok hx18 hw ) (fun v21 G20 hle19 hv22 => ?_)
      have h3 := Rep.mono hle19 h3
      obtain rfl : _ = _ := hv22
      refine EL.run tabOk 2 rfl (EL.nil (EX.seq (E.cond rfl H (fun hb H => ?_) (fun hb H => ?_))))
      · skip
        exact E.seq (E.region (EL.run tabOk 2 rfl (EL.nil (EX.seq (E.ret (EX.retT (EX.retE H tabOk rfl ⟨_, _, rfl, rfl, rfl⟩)))))))
      · skip
        refine E.skip (EX.seq (E.seq (E.region (EL.run tabOk 2 rfl ?_))))
        obtain ⟨x23, hx24, H⟩ := bind_some H
        refine EL.call rfl rfl rfl rfl fdb_place_enters (fun w hw => fdb_place_ok hx24 hw ⟨_, rfl, h3⟩) (fun v27 G26 hle25 hv28 => ?_)
        have h3 := Rep.mono hle25 h3
        obtain ⟨u29, u30, rfl, h31, h32⟩ := hv28
        obtain rfl : _ = _ := h31
        obtain rfl : _ = _ := h32
        refine EL.run tabOk 5 rfl (EL.nil (EX.seq (E.seq (E.seq (E.region (EL.run tabOk 2 rfl (EL.nil (EX.seq (E.cond rfl H (fun hb H => ?_) (fun hb H => ?_))))))))))
        · skip
          exact E.seq (E.region (EL.run tabOk 2 rfl (EL.nil (EX.seq (E.ret (EX.retT (EX.retE H tabOk rfl ⟨_, _, rfl, rfl, rfl⟩)))))))
        · skip
          refine E.skip (EX.seq (E.seq (E.seq (E.region (EL.run tabOk 3 rfl ?_)))))
          obtain ⟨y33, hy34, H⟩ := bind_some H
          refine EL.index hy34 h3 tabOk rfl rfl rfl rfl rfl rfl rfl rfl (fun b35 o36 u37 hu38 hc39 => ?_)
          obtain ⟨A40, c41, rfl, h42⟩ := Sl.open hu38
          refine EL.load hc39 tabOk rfl rfl rfl rfl rfl rfl (EL.run tabOk 1 rfl ?_)
          obtain ⟨y43, hy44, H⟩ := bind_some H
          refine EL.index hy44 h42 tabOk rfl rfl rfl rfl rfl rfl rfl rfl (fun b45 o46 u47 hu48 hc49 => ?_)
          obtain rfl : _ = _ := hu48
          refine EL.load hc49 tabOk rfl rfl rfl rfl rfl rfl (EL.run tabOk 2 rfl (EL.nil (EX.seq (E.seq (E.region (EL.run tabOk 3 rfl (EL.split (s := 42) rfl H (fun hb H => ?_) (fun hb H => ?_))))))))
          · skip
            exact EL.run tabOk 8 rfl (EL.nil (EX.seq (E.condT rfl (E.seq (E.region (EL.run tabOk 4 rfl (EL.nil (EX.seq (E.ret (EX.retT (EX.retE H tabOk rfl ⟨_, _, rfl, rfl, rfl⟩)))))))))))
          · skip
            refine EL.run tabOk 8 rfl (EL.nil (EX.seq (E.cond rfl H (fun hb H => ?_) (fun hb H => ?_))))
            · skip
              exact E.seq (E.region (EL.run tabOk 4 rfl (EL.nil (EX.seq (E.ret (EX.retT (EX.retE H tabOk rfl ⟨_, _, rfl, rfl, rfl⟩)))))))
            · skip
              exact E.skip (EX.seq (E.seq (E.region (EL.run tabOk 2 rfl (EL.nil (EX.seq (E.ret (EX.retE H tabOk rfl ⟨_, _, rfl, rfl, rfl⟩))))))))
theorem ref07_Number_enters : Enters Try.prog 30 := ⟨_, Try.func30, rfl, rfl⟩
set_option maxHeartbeats 4000000 in
theorem ref07_Number_ok {k : Nat} {p0 : Int} {r : Bool} (H : ref07_Number k p0 = some r) {G : Ghost} {w : World} (hG : Holds G w)  : Ret Try.prog 30 [.int .i64 p0] w G (fun G v => R G r v) := by
  unfold ref07_Number at H
  exact start Try.func30 rfl Try.ntmps30 rfl hG (E.seq (E.region (EL.run tabOk 1 rfl (EL.nil (EX.seq (E.seq (E.region (EL.run tabOk 19 rfl (EL.nil (EX.seq (E.ret (EX.retE H tabOk rfl rfl))))))))))))
theorem ref08_Sizes_enters : Enters Try.prog 12 := ⟨_, Try.func12, rfl, rfl⟩
set_option maxHeartbeats 4000000 in
theorem ref08_Sizes_ok {k : Nat} {p0 : Int} {p1 : Int} {p2 : Int} {r : Bool} (H : ref08_Sizes k p0 p1 p2 = some r) {G : Ghost} {w : World} (hG : Holds G w)  : Ret Try.prog 12 [.int .i64 p0, .int .i64 p1, .int .i64 p2] w G (fun G v => R G r v) := by
  unfold ref08_Sizes at H
  refine start Try.func12 rfl Try.ntmps12 rfl hG (E.seq (E.region (EL.run tabOk 1 rfl (EL.nil (EX.seq (E.seq (E.region (EL.run tabOk 1 rfl ?_))))))))
  obtain ⟨x1, hx2, H⟩ := bind_some H
  refine EL.call rfl rfl rfl rfl ref07_Number_enters (fun w hw => ref07_Number_ok hx2 hw ) (fun v5 G4 hle3 hv6 => ?_)
  obtain rfl : _ = _ := hv6
  exact EL.run tabOk 17 rfl (EL.nil (EX.seq (E.ret (EX.retE H tabOk rfl rfl))))
theorem ref01_Right_enters : Enters Try.prog 32 := ⟨_, Try.func32, rfl, rfl⟩
set_option maxHeartbeats 4000000 in
theorem ref01_Right_ok {k : Nat} {p0 : Int} {r : Bool} (H : ref01_Right k p0 = some r) {G : Ghost} {w : World} (hG : Holds G w)  : Ret Try.prog 32 [.int .i64 p0] w G (fun G v => R G r v) := by
  unfold ref01_Right at H
  exact start Try.func32 rfl Try.ntmps32 rfl hG (E.seq (E.region (EL.run tabOk 1 rfl (EL.nil (EX.seq (E.seq (E.region (EL.run tabOk 7 rfl (EL.nil (EX.seq (E.ret (EX.retE H tabOk rfl rfl))))))))))))
theorem ref01_Class_enters : Enters Try.prog 33 := ⟨_, Try.func33, rfl, rfl⟩
set_option maxHeartbeats 4000000 in
theorem ref01_Class_ok {k : Nat} {p0 : Int} {r : Int} (H : ref01_Class k p0 = some r) {G : Ghost} {w : World} (hG : Holds G w)  : Ret Try.prog 33 [.int .i64 p0] w G (fun G v => R G r v) := by
  unfold ref01_Class at H
  refine start Try.func33 rfl Try.ntmps33 rfl hG (E.seq (E.region (EL.run tabOk 1 rfl (EL.nil (EX.seq (E.seq (E.seq (E.region (EL.run tabOk 1 rfl ?_)))))))))
  obtain ⟨i1, hq2, H⟩ := bind_some H
  refine EL.quo hq2 rfl rfl rfl rfl rfl (EL.run tabOk 1 rfl (EL.nil (EX.seq (E.cond rfl H (fun hb H => ?_) (fun hb H => ?_)))))
  · skip
    exact E.seq (E.region (EL.run tabOk 1 rfl (EL.nil (EX.seq (E.ret (EX.retT (EX.retE H tabOk rfl rfl)))))))
  · skip
    refine E.skip (EX.seq (E.seq (E.seq (E.region (EL.run tabOk 1 rfl ?_)))))
    obtain ⟨i3, hq4, H⟩ := bind_some H
    refine EL.quo hq4 rfl rfl rfl rfl rfl ?_
    obtain ⟨i5, hq6, H⟩ := bind_some H
    refine EL.rem hq6 rfl rfl rfl rfl rfl (EL.run tabOk 1 rfl (EL.nil (EX.seq (E.cond rfl H (fun hb H => ?_) (fun hb H => ?_)))))
    · skip
      exact E.seq (E.region (EL.run tabOk 1 rfl (EL.nil (EX.seq (E.ret (EX.retT (EX.retE H tabOk rfl rfl)))))))
    · skip
      exact E.skip (EX.seq (E.seq (E.region (EL.run tabOk 1 rfl (EL.nil (EX.seq (E.ret (EX.retE H tabOk rfl rfl))))))))
theorem ref08_Mac_enters : Enters Try.prog 15 := ⟨_, Try.func15, rfl, rfl⟩
set_option maxHeartbeats 4000000 in
theorem ref08_Mac_ok {k : Nat} {p0 : Int} {r : Bool} (H : ref08_Mac k p0 = some r) {G : Ghost} {w : World} (hG : Holds G w)  : Ret Try.prog 15 [.int .i64 p0] w G (fun G v => R G r v) := by
  unfold ref08_Mac at H
  refine start Try.func15 rfl Try.ntmps15 rfl hG (E.seq (E.region (EL.run tabOk 1 rfl (EL.nil (EX.seq (E.seq (E.region (EL.run tabOk 1 rfl ?_))))))))
  obtain ⟨x1, hx2, H⟩ := bind_some H
  refine EL.call rfl rfl rfl rfl ref01_Right_enters (fun w hw => ref01_Right_ok hx2 hw ) (fun v5 G4 hle3 hv6 => ?_)
  obtain rfl : _ = _ := hv6
  refine EL.run tabOk 1 rfl (EL.split (s := 5) rfl H (fun hb H => ?_) (fun hb H => ?_))
  · skip
    refine EL.run tabOk 1 rfl ?_
    obtain ⟨x7, hx8, H⟩ := bind_some H
    refine EL.call rfl rfl rfl rfl ref01_Class_enters (fun w hw => ref01_Class_ok hx8 hw ) (fun v11 G10 hle9 hv12 => ?_)
    obtain rfl : _ = _ := hv12
    exact EL.run tabOk 3 rfl (EL.nil (EX.seq (E.ret (EX.retE H tabOk rfl rfl))))
  · skip
    exact EL.run tabOk 5 rfl (EL.nil (EX.seq (E.ret (EX.retE H tabOk rfl rfl))))
theorem ref08_Port_enters : Enters Try.prog 18 := ⟨_, Try.func18, rfl, rfl⟩
set_option maxHeartbeats 4000000 in
theorem ref08_Port_ok {k : Nat} {p0 : Int} {r : Bool} (H : ref08_Port k p0 = some r) {G : Ghost} {w : World} (hG : Holds G w)  : Ret Try.prog 18 [.int .i64 p0] w G (fun G v => R G r v) := by
  unfold ref08_Port at H
  exact start Try.func18 rfl Try.ntmps18 rfl hG (E.seq (E.region (EL.run tabOk 1 rfl (EL.nil (EX.seq (E.seq (E.region (EL.run tabOk 7 rfl (EL.nil (EX.seq (E.ret (EX.retE H tabOk rfl rfl))))))))))))
theorem ref08_Time_enters : Enters Try.prog 16 := ⟨_, Try.func16, rfl, rfl⟩
set_option maxHeartbeats 4000000 in
theorem ref08_Time_ok {k : Nat} {p0 : Int} {r : Bool} (H : ref08_Time k p0 = some r) {G : Ghost} {w : World} (hG : Holds G w)  : Ret Try.prog 16 [.int .i64 p0] w G (fun G v => R G r v) := by
  unfold ref08_Time at H
  exact start Try.func16 rfl Try.ntmps16 rfl hG (E.seq (E.region (EL.run tabOk 1 rfl (EL.nil (EX.seq (E.seq (E.region (EL.run tabOk 7 rfl (EL.nil (EX.seq (E.ret (EX.retE H tabOk rfl rfl))))))))))))
theorem ref01_Bytes_enters : Enters Try.prog 61 := ⟨_, Try.func61, rfl, rfl⟩
set_option maxHeartbeats 4000000 in
theorem ref01_Bytes_ok {k : Nat} {p0 : Int} {r : ByteArray} (H : ref01_Bytes k p0 = some r) {G : Ghost} {w : World} (hG : Holds G w)  : Ret Try.prog 61 [.int .i64 p0] w G (fun G v => R G r v) := by
  unfold ref01_Bytes at H
  refine start Try.func61 rfl Try.ntmps61 rfl hG (E.seq (E.region (EL.run tabOk 1 rfl (EL.nil (EX.seq (E.seq (E.region (EL.run tabOk 1 rfl (EL.nil (EX.seq (E.seq (E.seq (E.region (EL.run tabOk 1 rfl (EL.nil (EX.seq (E.join (fun env L Γ => ∃ (s1 : ByteArray), env = [(3, some (.v (.string s1)))] ∧ L = [] ∧ GLe G Γ ∧ ref01_Bytes_j1 k s1 = some r) ?_ (fun hj2 => ?_))))))))))))))))))
  · skip
    rintro _ _ G4 ⟨s1, rfl, rfl, hle3, H⟩
    unfold ref01_Bytes_j1 at H
    exact EX.seq (E.seq (E.region (EL.run tabOk 2 rfl (EL.nil (EX.seq (E.ret (EX.retE H tabOk rfl rfl)))))))
  · skip
    refine E.block (E.fewer (E.loop (fun n env L Γ => ∃ (i5 : Int) (s6 : ByteArray) (i7 : Int), env = [(0, some (.v (.int .i64 i5))), (3, some (.v (.string s6))), (4, some (.v (.int .i64 i7)))] ∧ L = [] ∧ GLe G Γ ∧ loopN (fun _ _ _ => none) (ref01_Bytes_s2 k) n i5 s6 i7 = some r) k ⟨p0, ⟨#[]⟩, 0, rfl, rfl, GLe.refl _, H⟩ ?_) ⟨⟨_, rfl, rfl⟩, ⟨_, rfl, rfl⟩, ⟨_, rfl, rfl⟩, trivial⟩ trivial rfl rfl)
    rintro n12 _ _ G10 ⟨i5, s6, i7, rfl, rfl, hle8, H⟩ K hK11
    obtain _ | n12 := n12
    · exact none_ne H
    rw [loopN] at H; unfold ref01_Bytes_s2 at H
    refine E.seq (E.seq (E.region (EL.run tabOk 2 rfl (EL.nil (EX.seq (E.cond rfl H (fun hb H => ?_) (fun hb H => ?_)))))))
    · skip
      refine E.skip (EX.seq (E.seq (E.block (E.seq (E.region (EL.run tabOk 1 rfl ?_))))))
      obtain ⟨i13, hq14, H⟩ := bind_some H
      refine EL.rem hq14 rfl rfl rfl rfl rfl (EL.run tabOk 2 rfl (EL.pubRow (xs := ([(⟨IntKind.u8.wrap i13⟩ : IK .u8)] : List (IK .u8))) 0 rfl (show Els G10 ([(⟨IntKind.u8.wrap i13⟩ : IK .u8)] : List (IK .u8)) [(.int .u8 (IntKind.u8.wrap i13))] from (.cons rfl All2.nil)) rfl rfl (fun k15 A16 c17 G20 hle18 h19 => ?_)))
      refine EL.bytesStr h19 tabOk rfl rfl rfl rfl rfl rfl rfl (EL.run tabOk 1 rfl ?_)
      obtain ⟨s21, hq22, H⟩ := bind_some H
      refine EL.strAdd hq22 rfl rfl rfl rfl rfl (EL.run tabOk 1 rfl (EL.nil (EX.seq (E.region (EL.run tabOk 1 rfl ?_)))))
      obtain ⟨i23, hq24, H⟩ := bind_some H
      exact EL.quo hq24 rfl rfl rfl rfl rfl (EL.run tabOk 1 rfl (EL.nil (EX.block (EX.seq (E.region (EL.run tabOk 3 rfl (EL.nil (EX.fewer (hK11 n12 _ _ _ (Nat.lt_succ_self _) ⟨i23, s21, wr (i7 + 1), rfl, rfl, (GLe.trans hle8 hle18), H⟩) ⟨⟨_, rfl, rfl⟩, ⟨_, rfl, rfl⟩, ⟨_, rfl, rfl⟩, trivial⟩ trivial rfl rfl))))))))
    · skip
      exact E.exit (EX.out (EX.out (EX.hit (EX.fewer (hj2 _ _ _ ⟨s6, rfl, rfl, hle8, H⟩) ⟨⟨_, rfl, rfl⟩, trivial⟩ trivial rfl rfl))))
theorem ref07_turned_enters : Enters Try.prog 62 := ⟨_, Try.func62, rfl, rfl⟩
set_option maxHeartbeats 4000000 in
theorem ref07_turned_ok {k : Nat} {p0 : Int} {p1 : Int} {r : Int} (H : ref07_turned k p0 p1 = some r) {G : Ghost} {w : World} (hG : Holds G w)  : Ret Try.prog 62 [.int .i64 p0, .int .i64 p1] w G (fun G v => R G r v) := by
  unfold ref07_turned at H
  refine start Try.func62 rfl Try.ntmps62 rfl hG (E.seq (E.region (EL.run tabOk 1 rfl (EL.nil (EX.seq (E.seq (E.region (EL.run tabOk 1 rfl (EL.nil (EX.seq (E.seq (E.region (EL.run tabOk 1 rfl (EL.nil (EX.seq (E.seq (E.seq (E.region (EL.run tabOk 1 rfl (EL.nil (EX.seq (E.join (fun env L Γ => ∃ (i1 : Int), env = [(5, some (.v (.int .i64 i1)))] ∧ L = [] ∧ GLe G Γ ∧ ref07_turned_j1 k i1 = some r) ?_ (fun hj2 => ?_)))))))))))))))))))))))
  · skip
    rintro _ _ G4 ⟨i1, rfl, rfl, hle3, H⟩
    unfold ref07_turned_j1 at H
    exact EX.seq (E.seq (E.region (EL.run tabOk 2 rfl (EL.nil (EX.seq (E.ret (EX.retE H tabOk rfl rfl)))))))
  · skip
    refine E.block (E.fewer (E.loop (fun n env L Γ => ∃ (i5 : Int) (i6 : Int) (i7 : Int) (i8 : Int) (i9 : Int), env = [(0, some (.v (.int .i64 i5))), (1, some (.v (.int .i64 i6))), (5, some (.v (.int .i64 i7))), (6, some (.v (.int .i64 i8))), (7, some (.v (.int .i64 i9)))] ∧ L = [] ∧ GLe G Γ ∧ loopN (fun _ _ _ _ _ => none) (ref07_turned_s3 k) n i5 i6 i7 i8 i9 = some r) k ⟨p0, p1, 0, 1, 0, rfl, rfl, GLe.refl _, H⟩ ?_) ⟨⟨_, rfl, rfl⟩, ⟨_, rfl, rfl⟩, ⟨_, rfl, rfl⟩, ⟨_, rfl, rfl⟩, ⟨_, rfl, rfl⟩, trivial⟩ trivial rfl rfl)
    rintro n14 _ _ G12 ⟨i5, i6, i7, i8, i9, rfl, rfl, hle10, H⟩ K hK13
    obtain _ | n14 := n14
    · exact none_ne H
    rw [loopN] at H; unfold ref07_turned_s3 at H
    refine E.seq (E.seq (E.region (EL.run tabOk 2 rfl (EL.nil (EX.seq (E.cond rfl H (fun hb H => ?_) (fun hb H => ?_)))))))
    · skip
      refine E.skip (EX.seq (E.seq (E.block (E.seq (E.seq (E.region (EL.run tabOk 1 rfl ?_)))))))
      obtain ⟨i15, hq16, H⟩ := bind_some H
      refine EL.rem hq16 rfl rfl rfl rfl rfl (EL.run tabOk 1 rfl ?_)
      obtain ⟨i17, hq18, H⟩ := bind_some H
      refine EL.rem hq18 rfl rfl rfl rfl rfl (EL.run tabOk 1 rfl (EL.nil (EX.seq (E.join (fun env L Γ => ∃ (i19 : Int), env = [(0, some (.v (.int .i64 i5))), (1, some (.v (.int .i64 i6))), (5, some (.v (.int .i64 i19))), (6, some (.v (.int .i64 i8))), (7, some (.v (.int .i64 i9)))] ∧ L = [] ∧ GLe G12 Γ ∧ ref07_turned_j2 k i5 i6 i8 i9 (loopN (fun _ _ _ _ _ => none) (ref07_turned_s3 k) n14) i19 = some r) ?_ (fun hj20 => ?_)))))
      · skip
        rintro _ _ G22 ⟨i19, rfl, rfl, hle21, H⟩
        unfold ref07_turned_j2 at H
        refine EX.seq (E.seq (E.region (EL.run tabOk 1 rfl ?_)))
        obtain ⟨i23, hq24, H⟩ := bind_some H
        refine EL.quo hq24 rfl rfl rfl rfl rfl (EL.run tabOk 1 rfl (EL.nil (EX.seq (E.seq (E.region (EL.run tabOk 1 rfl ?_))))))
        obtain ⟨i25, hq26, H⟩ := bind_some H
        exact EL.quo hq26 rfl rfl rfl rfl rfl (EL.run tabOk 1 rfl (EL.nil (EX.seq (E.region (EL.run tabOk 3 rfl (EL.nil (EX.block (EX.seq (E.region (EL.run tabOk 3 rfl (EL.nil (EX.fewer (hK13 n14 _ _ _ (Nat.lt_succ_self _) ⟨i23, i25, i19, wr (2 * i8), wr (i9 + 1), rfl, rfl, (GLe.trans hle10 hle21), H⟩) ⟨⟨_, rfl, rfl⟩, ⟨_, rfl, rfl⟩, ⟨_, rfl, rfl⟩, ⟨_, rfl, rfl⟩, ⟨_, rfl, rfl⟩, trivial⟩ trivial rfl rfl))))))))))))
      · skip
        refine E.cond rfl H (fun hb H => ?_) (fun hb H => ?_)
        · skip
          exact E.region (EL.run tabOk 4 rfl (EL.nil (EX.fewer (hj20 _ _ _ ⟨wr (i7 + i8), rfl, rfl, (GLe.refl _), H⟩) ⟨⟨_, rfl, rfl⟩, ⟨_, rfl, rfl⟩, ⟨_, rfl, rfl⟩, ⟨_, rfl, rfl⟩, ⟨_, rfl, rfl⟩, trivial⟩ trivial rfl rfl)))
        · skip
          exact E.skip (EX.fewer (hj20 _ _ _ ⟨i7, rfl, rfl, (GLe.refl _), H⟩) ⟨⟨_, rfl, rfl⟩, ⟨_, rfl, rfl⟩, ⟨_, rfl, rfl⟩, ⟨_, rfl, rfl⟩, ⟨_, rfl, rfl⟩, trivial⟩ trivial rfl rfl)
    · skip
      exact E.exit (EX.out (EX.out (EX.hit (EX.fewer (hj2 _ _ _ ⟨i7, rfl, rfl, hle10, H⟩) ⟨⟨_, rfl, rfl⟩, trivial⟩ trivial rfl rfl))))
theorem ref07_Sum_enters : Enters Try.prog 57 := ⟨_, Try.func57, rfl, rfl⟩
set_option maxHeartbeats 4000000 in
theorem ref07_Sum_ok {k : Nat} {p0 : Int} {r : Int} (H : ref07_Sum k p0 = some r) {G : Ghost} {w : World} (hG : Holds G w)  : Ret Try.prog 57 [.int .i64 p0] w G (fun G v => R G r v) := by
  unfold ref07_Sum at H
  refine start Try.func57 rfl Try.ntmps57 rfl hG (E.seq (E.region (EL.run tabOk 1 rfl (EL.nil (EX.seq (E.seq (E.region (EL.run tabOk 1 rfl (EL.nil (EX.seq (E.seq (E.region (EL.run tabOk 1 rfl ?_)))))))))))))
  obtain ⟨x1, hx2, H⟩ := bind_some H
  refine EL.call rfl rfl rfl rfl ref01_Bytes_enters (fun w hw => ref01_Bytes_ok hx2 hw ) (fun v5 G4 hle3 hv6 => ?_)
  obtain rfl : _ = _ := hv6
  refine EL.run tabOk 1 rfl (EL.nil (EX.seq (E.seq (E.seq (E.region (EL.run tabOk 1 rfl (EL.nil (EX.seq (E.join (fun env L Γ => ∃ (i7 : Int), env = [(3, some (.v (.int .i64 i7)))] ∧ L = [] ∧ GLe G4 Γ ∧ ref07_Sum_j1 k i7 = some r) ?_ (fun hj8 => ?_))))))))))
  · skip
    rintro _ _ G10 ⟨i7, rfl, rfl, hle9, H⟩
    unfold ref07_Sum_j1 at H
    exact EX.seq (E.seq (E.region (EL.run tabOk 2 rfl (EL.nil (EX.seq (E.ret (EX.retE H tabOk rfl rfl)))))))
  · skip
    refine E.block (E.fewer (E.loop (fun n env L Γ => ∃ (i11 : Int) (i12 : Int), env = [(3, some (.v (.int .i64 i11))), (4, some (.v (.string x1))), (5, some (.v (.int .i64 i12)))] ∧ L = [] ∧ GLe G4 Γ ∧ loopN (fun _ _ => none) (ref07_Sum_s2 k x1) n i11 i12 = some r) k ⟨2166136261, 0, rfl, rfl, GLe.refl _, H⟩ ?_) ⟨⟨_, rfl, rfl⟩, ⟨_, rfl, rfl⟩, ⟨_, rfl, rfl⟩, trivial⟩ trivial rfl rfl)
    rintro n17 _ _ G15 ⟨i11, i12, rfl, rfl, hle13, H⟩ K hK16
    obtain _ | n17 := n17
    · exact none_ne H
    rw [loopN] at H; unfold ref07_Sum_s2 at H
    refine E.seq (E.seq (E.region (EL.run tabOk 2 rfl (EL.nil (EX.seq (E.cond rfl H (fun hb H => ?_) (fun hb H => ?_)))))))
    · skip
      refine E.skip (EX.seq (E.seq (E.block (E.region (EL.run tabOk 3 rfl ?_)))))
      obtain ⟨i18, hc19, H⟩ := bind_some H
      refine EL.sindex hc19 tabOk rfl rfl rfl rfl rfl rfl (EL.run tabOk 1 rfl ?_)
      obtain ⟨x20, hx21, H⟩ := bind_some H
      refine EL.call rfl rfl rfl rfl ref07_turned_enters (fun w hw => ref07_turned_ok hx21 hw ) (fun v24 G23 hle22 hv25 => ?_)
      obtain rfl : _ = _ := hv25
      refine EL.run tabOk 1 rfl ?_
      obtain ⟨i26, hq27, H⟩ := bind_some H
      exact EL.rem hq27 rfl rfl rfl rfl rfl (EL.run tabOk 1 rfl (EL.nil (EX.block (EX.seq (E.region (EL.run tabOk 3 rfl (EL.nil (EX.fewer (hK16 n17 _ _ _ (Nat.lt_succ_self _) ⟨i26, wr (i12 + 1), rfl, rfl, (GLe.trans hle13 hle22), H⟩) ⟨⟨_, rfl, rfl⟩, ⟨_, rfl, rfl⟩, ⟨_, rfl, rfl⟩, trivial⟩ trivial rfl rfl))))))))
    · skip
      exact E.exit (EX.out (EX.out (EX.hit (EX.fewer (hj8 _ _ _ ⟨i11, rfl, rfl, hle13, H⟩) ⟨⟨_, rfl, rfl⟩, trivial⟩ trivial rfl rfl))))
theorem ref07_Bucket_enters : Enters Try.prog 48 := ⟨_, Try.func48, rfl, rfl⟩
set_option maxHeartbeats 4000000 in
theorem ref07_Bucket_ok {k : Nat} {p0 : Int} {p1 : Int} {r : Int} (H : ref07_Bucket k p0 p1 = some r) {G : Ghost} {w : World} (hG : Holds G w)  : Ret Try.prog 48 [.int .i64 p0, .int .i64 p1] w G (fun G v => R G r v) := by
  unfold ref07_Bucket at H
  refine start Try.func48 rfl Try.ntmps48 rfl hG (E.seq (E.region (EL.run tabOk 1 rfl (EL.nil (EX.seq (E.seq (E.region (EL.run tabOk 1 rfl ?_))))))))
  obtain ⟨x1, hx2, H⟩ := bind_some H
  refine EL.call rfl rfl rfl rfl ref07_Sum_enters (fun w hw => ref07_Sum_ok hx2 hw ) (fun v5 G4 hle3 hv6 => ?_)
  obtain rfl : _ = _ := hv6
  refine EL.run tabOk 1 rfl ?_
  obtain ⟨i7, hq8, H⟩ := bind_some H
  exact EL.rem hq8 rfl rfl rfl rfl rfl (EL.run tabOk 1 rfl (EL.nil (EX.seq (E.ret (EX.retE H tabOk rfl rfl)))))
theorem ref08_entry_enters : Enters Try.prog 28 := ⟨_, Try.func28, rfl, rfl⟩
set_option maxHeartbeats 4000000 in
theorem ref08_entry_ok {k : Nat} {p0 : Entry} {p1 : Int} {p2 : Int} {r : Bool} (H : ref08_entry k p0 p1 p2 = some r) {G : Ghost} {w : World} (hG : Holds G w)  : Ret Try.prog 28 [.agg #[.int .i64 p0.Mac, .int .i64 p0.Port, .int .i64 p0.Seen, .bool p0.Static], .int .i64 p1, .int .i64 p2] w G (fun G v => R G r v) := by
  unfold ref08_entry at H
  refine start Try.func28 rfl Try.ntmps28 rfl hG (E.seq (E.region (EL.run tabOk 2 rfl (EL.nil (EX.seq (E.seq (E.region (EL.run tabOk 2 rfl ?_))))))))
  obtain ⟨x1, hx2, H⟩ := bind_some H
  refine EL.call rfl rfl rfl rfl ref08_Mac_enters (fun w hw => ref08_Mac_ok hx2 hw ) (fun v5 G4 hle3 hv6 => ?_)
  obtain rfl : _ = _ := hv6
  refine EL.run tabOk 1 rfl (EL.split (s := 10) rfl H (fun hb H => ?_) (fun hb H => ?_))
  · skip
    refine EL.run tabOk 2 rfl ?_
    obtain ⟨x7, hx8, H⟩ := bind_some H
    refine EL.call rfl rfl rfl rfl ref08_Port_enters (fun w hw => ref08_Port_ok hx8 hw ) (fun v11 G10 hle9 hv12 => ?_)
    obtain rfl : _ = _ := hv12
    refine EL.run tabOk 2 rfl (EL.split (s := 15) rfl H (fun hb H => ?_) (fun hb H => ?_))
    · skip
      refine EL.run tabOk 2 rfl ?_
      obtain ⟨x13, hx14, H⟩ := bind_some H
      refine EL.call rfl rfl rfl rfl ref08_Time_enters (fun w hw => ref08_Time_ok hx14 hw ) (fun v17 G16 hle15 hv18 => ?_)
      obtain rfl : _ = _ := hv18
      refine EL.run tabOk 2 rfl (EL.split (s := 20) rfl H (fun hb H => ?_) (fun hb H => ?_))
      · skip
        refine EL.run tabOk 4 rfl (EL.split (s := 24) rfl H (fun hb H => ?_) (fun hb H => ?_))
        · skip
          refine EL.run tabOk 9 rfl ?_
          obtain ⟨x19, hx20, H⟩ := bind_some H
          refine EL.call rfl rfl rfl rfl ref07_Bucket_enters (fun w hw => ref07_Bucket_ok hx20 hw ) (fun v23 G22 hle21 hv24 => ?_)
          obtain rfl : _ = _ := hv24
          exact EL.run tabOk 4 rfl (EL.nil (EX.seq (E.ret (EX.retE H tabOk rfl rfl))))
        · skip
          refine EL.run tabOk 6 rfl (EL.split (s := 30) rfl H (fun hb H => ?_) (fun hb H => ?_))
          · skip
            refine EL.run tabOk 3 rfl ?_
            obtain ⟨x25, hx26, H⟩ := bind_some H
            refine EL.call rfl rfl rfl rfl ref07_Bucket_enters (fun w hw => ref07_Bucket_ok hx26 hw ) (fun v29 G28 hle27 hv30 => ?_)
            obtain rfl : _ = _ := hv30
            exact EL.run tabOk 4 rfl (EL.nil (EX.seq (E.ret (EX.retE H tabOk rfl rfl))))
          · skip
            exact EL.run tabOk 8 rfl (EL.nil (EX.seq (E.ret (EX.retE H tabOk rfl rfl))))
      · skip
        exact EL.run tabOk 18 rfl (EL.nil (EX.seq (E.ret (EX.retE H tabOk rfl rfl))))
    · skip
      exact EL.run tabOk 23 rfl (EL.nil (EX.seq (E.ret (EX.retE H tabOk rfl rfl))))
  · skip
    exact EL.run tabOk 28 rfl (EL.nil (EX.seq (E.ret (EX.retE H tabOk rfl rfl))))
theorem ref08_Place_enters : Enters Try.prog 29 := ⟨_, Try.func29, rfl, rfl⟩
set_option maxHeartbeats 4000000 in
theorem ref08_Place_ok {k : Nat} {p0 : (List Entry)} {p1 : Int} {r : Int} (H : ref08_Place k p0 p1 = some r) {G : Ghost} {w : World} (hG : Holds G w) {v0 : Value} (h0 : R G p0 v0) : Ret Try.prog 29 [v0, .int .i64 p1] w G (fun G v => R G r v) := by
  obtain ⟨A1, c2, rfl, h3⟩ := Sl.open h0
  unfold ref08_Place at H
  refine start Try.func29 rfl Try.ntmps29 rfl hG (E.seq (E.region (EL.run tabOk 1 rfl (EL.nil (EX.seq (E.seq (E.seq (E.region (EL.run tabOk 3 rfl (EL.nil (EX.seq (E.join (fun env L Γ =>  env = [] ∧ L = [] ∧ GLe G Γ ∧ ref08_Place_j1 k = some r) ?_ (fun hj4 => ?_)))))))))))))
  · skip
    rintro _ _ G6 ⟨rfl, rfl, hle5, H⟩
    unfold ref08_Place_j1 at H
    exact EX.seq (E.seq (E.region (EL.run tabOk 1 rfl (EL.nil (EX.seq (E.ret (EX.retE H tabOk rfl rfl)))))))
  · skip
    refine E.block (E.fewer (E.loop (fun n env L Γ => ∃ (i7 : Int), env = [(1, some (.v (.int .i64 p1))), (7, some (.v (.slice A1 p0.length c2))), (8, some (.v (.int .i64 (p0.length : Int)))), (9, some (.v (.int .i64 i7)))] ∧ L = [] ∧ GLe G Γ ∧ loopN (fun _ => none) (ref08_Place_s2 k p0 p1) n i7 = some r) k ⟨0, rfl, rfl, GLe.refl _, H⟩ ?_) ⟨⟨_, rfl, rfl⟩, ⟨_, rfl, rfl⟩, ⟨_, rfl, rfl⟩, ⟨_, rfl, rfl⟩, trivial⟩ trivial rfl rfl)
    rintro n12 _ _ G10 ⟨i7, rfl, rfl, hle8, H⟩ K hK11
    obtain _ | n12 := n12
    · exact none_ne H
    rw [loopN] at H; unfold ref08_Place_s2 at H
    have h3 := Rep.mono hle8 h3
    refine E.seq (E.region (EL.run tabOk 1 rfl (EL.nil (EX.seq (E.seq (E.cond rfl H (fun hb H => ?_) (fun hb H => ?_)))))))
    · skip
      refine E.skip (EX.seq (E.seq (E.block (E.seq (E.region (EL.run tabOk 1 rfl ?_))))))
      obtain ⟨y13, hy14, H⟩ := bind_some H
      refine EL.index hy14 h3 tabOk rfl rfl rfl rfl rfl rfl rfl rfl (fun b15 o16 u17 hu18 hc19 => ?_)
      obtain rfl : _ = _ := hu18
      refine EL.load hc19 tabOk rfl rfl rfl rfl rfl rfl (EL.run tabOk 3 rfl (EL.nil (EX.seq (E.seq (E.region (EL.run tabOk 4 rfl (EL.nil (EX.seq (E.cond rfl H (fun hb H => ?_) (fun hb H => ?_))))))))))
      · skip
        exact E.seq (E.region (EL.run tabOk 2 rfl (EL.nil (EX.seq (E.ret (EX.retB (EX.retT (EX.retT (EX.retB (EX.retT (EX.retE H tabOk rfl rfl)))))))))))
      · skip
        exact E.skip (EX.block (EX.seq (E.region (EL.run tabOk 2 rfl (EL.nil (EX.fewer (hK11 n12 _ _ _ (Nat.lt_succ_self _) ⟨wr (i7 + 1), rfl, rfl, hle8, H⟩) ⟨⟨_, rfl, rfl⟩, ⟨_, rfl, rfl⟩, ⟨_, rfl, rfl⟩, ⟨_, rfl, rfl⟩, trivial⟩ trivial rfl rfl))))))
    · skip
      exact E.exit (EX.out (EX.out (EX.hit (EX.fewer (hj4 _ _ _ ⟨rfl, rfl, hle8, H⟩) trivial trivial rfl rfl))))
end Go.Proofs.Ytafjcdpkanigaaa
