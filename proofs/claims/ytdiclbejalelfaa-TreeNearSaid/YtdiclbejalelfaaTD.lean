/- PRINTED by a program of the claim's own: the types of the seat, and Go's functions as Lean functions, each with the proof that a call of it comes to that. -/
import Derived.Test.YtdiclbejalelfaaFwT
set_option linter.unusedVariables false
set_option linter.unusedSimpArgs false
set_option maxRecDepth 100000
namespace Go.Proofs.Ytdiclbejalelfaa
open Go.RowKit
open Rep (R)
structure Host where
  Mac : Int
  Seg : Int
instance : Rep Host where
  R _ e v := v = .agg #[.int .i64 e.Mac, .int .i64 e.Seg]
  sz := 2
  mono _ h := h
  size h := by rw [h]; rfl
  one h := by
    rw [h]; intro c hc
    simp only [Value.cells, List.mem_toArray, List.mem_cons, List.not_mem_nil, or_false] at hc
    rcases hc with rfl | rfl <;> rfl
structure Link where
  Seg : Int
  Cost : Int
  Up : Bool
instance : Rep Link where
  R _ e v := v = .agg #[.int .i64 e.Seg, .int .i64 e.Cost, .bool e.Up]
  sz := 3
  mono _ h := h
  size h := by rw [h]; rfl
  one h := by
    rw [h]; intro c hc
    simp only [Value.cells, List.mem_toArray, List.mem_cons, List.not_mem_nil, or_false] at hc
    rcases hc with rfl | rfl | rfl <;> rfl
structure Plan where
  ID : Int
  Ports : (List Link)
instance : Rep Plan where
  R G e v := ∃ v0, v = .agg #[.int .i64 e.ID, v0] ∧ R G e.Ports v0
  sz := 2
  mono hle h := by obtain ⟨v0, rfl, h0⟩ := h; exact ⟨_, rfl, Rep.mono hle h0⟩
  size h := by obtain ⟨v0, rfl, _⟩ := h; rfl
  one h := by
    obtain ⟨v0, rfl, h0⟩ := h
    obtain ⟨A0, c0, rfl, _⟩ := Sl.open h0
    intro c hc
    simp only [Value.cells, List.mem_toArray, List.mem_cons, List.not_mem_nil, or_false] at hc
    rcases hc with rfl | rfl <;> rfl
structure Lan where
  Segs : Int
  Plans : (List Plan)
  Hosts : (List Host)
instance : Rep Lan where
  R G e v := ∃ v0 v1, v = .agg #[.int .i64 e.Segs, v0, v1] ∧ R G e.Plans v0 ∧ R G e.Hosts v1
  sz := 3
  mono hle h := by obtain ⟨v0, v1, rfl, h0, h1⟩ := h; exact ⟨_, _, rfl, Rep.mono hle h0, Rep.mono hle h1⟩
  size h := by obtain ⟨v0, v1, rfl, _⟩ := h; rfl
  one h := by
    obtain ⟨v0, v1, rfl, h0, h1⟩ := h
    obtain ⟨A0, c0, rfl, _⟩ := Sl.open h0
    obtain ⟨A1, c1, rfl, _⟩ := Sl.open h1
    intro c hc
    simp only [Value.cells, List.mem_toArray, List.mem_cons, List.not_mem_nil, or_false] at hc
    rcases hc with rfl | rfl | rfl <;> rfl
structure arr2_i64 where
  x0 : Int
  x1 : Int
instance : Rep arr2_i64 where
  R _ e v := v = .agg #[.int .i64 e.x0, .int .i64 e.x1]
  sz := 2
  mono _ h := h
  size h := by rw [h]; rfl
  one h := by
    rw [h]; intro c hc
    simp only [Value.cells, List.mem_toArray, List.mem_cons, List.not_mem_nil, or_false] at hc
    rcases hc with rfl | rfl <;> rfl
structure tree_way where
  best : arr2_i64
  at_ : Int
instance : Rep tree_way where
  R _ e v := v = .agg #[.int .i64 e.best.x0, .int .i64 e.best.x1, .int .i64 e.at_]
  sz := 3
  mono _ h := h
  size h := by rw [h]; rfl
  one h := by
    rw [h]; intro c hc
    simp only [Value.cells, List.mem_toArray, List.mem_cons, List.not_mem_nil, or_false] at hc
    rcases hc with rfl | rfl | rfl <;> rfl
structure If20 where
  v : tree_way
instance : Rep If20 where
  R _ e v := v = .iface 88 (.agg #[.int .i64 e.v.best.x0, .int .i64 e.v.best.x1, .int .i64 e.v.at_])
  sz := 1
  mono _ h := h
  size h := by rw [h]; rfl
  one h := by
    rw [h]; intro c hc
    obtain rfl : c = _ := by simpa [Value.cells] using hc
    rfl
structure Vec where
  Root : Int
  Cost : Int
  Bridge : Int
  Port : Int
instance : Rep Vec where
  R _ e v := v = .agg #[.int .i64 e.Root, .int .i64 e.Cost, .int .i64 e.Bridge, .int .i64 e.Port]
  sz := 4
  mono _ h := h
  size h := by rw [h]; rfl
  one h := by
    rw [h]; intro c hc
    simp only [Value.cells, List.mem_toArray, List.mem_cons, List.not_mem_nil, or_false] at hc
    rcases hc with rfl | rfl | rfl | rfl <;> rfl
structure vec_one where
  Vec : Vec
instance : Rep vec_one where
  R _ e v := v = .agg #[.int .i64 e.Vec.Root, .int .i64 e.Vec.Cost, .int .i64 e.Vec.Bridge, .int .i64 e.Vec.Port]
  sz := 4
  mono _ h := h
  size h := by rw [h]; rfl
  one h := by
    rw [h]; intro c hc
    simp only [Value.cells, List.mem_toArray, List.mem_cons, List.not_mem_nil, or_false] at hc
    rcases hc with rfl | rfl | rfl | rfl <;> rfl
structure If124 where
  v : vec_one
instance : Rep If124 where
  R _ e v := v = .iface 119 (.agg #[.int .i64 e.v.Vec.Root, .int .i64 e.v.Vec.Cost, .int .i64 e.v.Vec.Bridge, .int .i64 e.v.Vec.Port])
  sz := 1
  mono _ h := h
  size h := by rw [h]; rfl
  one h := by
    rw [h]; intro c hc
    obtain rfl : c = _ := by simpa [Value.cells] using hc
    rfl
def law16_few_j1 (k : Nat) (p0 : Lan) (l14 : (List Plan)) : Option Lan :=
  (slc p0.Hosts 0 (if 12 < (p0.Hosts.length : Int) then 12 else (p0.Hosts.length : Int))).bind fun l20 => some (⟨p0.Segs, l14, l20⟩ : Lan)
def law16_few_s2 (k : Nat) (p0 : Lan) (l9 : (List Plan)) (rec65 : (Int → (List Plan) → Option Lan)) (i60 : Int) (l61 : (List Plan)) : Option Lan :=
  bif decide (i60 < (l9.length : Int)) then ((idx l9 i60).bind fun y69 => (slc y69.Ports 0 (if 10 < (y69.Ports.length : Int) then 10 else (y69.Ports.length : Int))).bind fun l80 => (push l61 (⟨y69.ID, l80⟩ : Plan)).bind fun l85 => rec65 (wr (i60 + 1)) l85) else (law16_few_j1 k p0 l61)
def law16_few (k : Nat) (p0 : Lan) : Option Lan :=
  (slc p0.Plans 0 (if 8 < (p0.Plans.length : Int) then 8 else (p0.Plans.length : Int))).bind fun l9 => loopN (fun _ _ => none) (law16_few_s2 k p0 l9) k 0 ([])
def lan_in (k : Nat) (p0 : Int) (p1 : Int) (p2 : Int) : Option Bool :=
  some ((decide (p0 ≥ p1)) && (decide (p0 ≤ p2)))
def mac_Right (k : Nat) (p0 : Int) : Option Bool :=
  some ((decide (p0 ≥ 0)) && (decide (p0 ≤ 281474976710655)))
def mac_Class (k : Nat) (p0 : Int) : Option (Int × Int) :=
  (mac_Right k p0).bind fun x1 => bif !x1 then (some (0, 1)) else (bif (bandnot .i64 p0 15) == 1652522221568 then (some (2, 0)) else (some (band .i64 (p0.fdiv (2 ^ (min 40 64))) 1, 0)))
def lan_isPlan_1_j1 (k : Nat) (b1 : Bool) : Option Bool :=
  some b1
def lan_isPlan_1 (k : Nat) (p0 : Link) (p1 : Int) : Option Bool :=
  (lan_in k p0.Seg 0 (wr (p1 - 1))).bind fun x5 => bif !x5 then (lan_isPlan_1_j1 k true) else ((lan_in k p0.Cost 1 1000).bind fun x11 => lan_isPlan_1_j1 k (!x11))
def slices_IndexFunc_j1 (k : Nat) : Option Int :=
  some (-1)
def slices_IndexFunc_s2 (k : Nat) (p0 : (List Link)) (p1 : (Link → Option Bool)) (rec13 : (Int → Option Int)) (i11 : Int) : Option Int :=
  bif decide (i11 < (p0.length : Int)) then ((idx p0 i11).bind fun y17 => (p1 y17).bind fun x24 => bif x24 then (some i11) else (rec13 (wr (i11 + 1)))) else (slices_IndexFunc_j1 k)
def slices_IndexFunc (k : Nat) (p0 : (List Link)) (p1 : (Link → Option Bool)) : Option Int :=
  loopN (fun _ => none) (slices_IndexFunc_s2 k p0 p1) k 0
def slices_ContainsFunc (k : Nat) (p0 : (List Link)) (p1 : (Link → Option Bool)) : Option Bool :=
  (slices_IndexFunc k p0 p1).bind fun x8 => some (decide (x8 ≥ 0))
def lan_isPlan_j1 (k : Nat) (b12 : Bool) : Option Bool :=
  some b12
def lan_isPlan (k : Nat) (p0 : Plan) (p1 : Int) : Option Bool :=
  (lan_in k p0.ID 0 65535).bind fun x16 => bif x16 then ((lan_in k (p0.Ports.length : Int) 1 8).bind fun x22 => bif x22 then ((slices_ContainsFunc k p0.Ports (fun (x10 : Link) => lan_isPlan_1 k x10 p1)).bind fun x28 => lan_isPlan_j1 k (!x28)) else (lan_isPlan_j1 k false)) else (lan_isPlan_j1 k false)
def lan_Right_j1 (k : Nat) (m17 : (List (Int × Int))) : Option Bool :=
  some true
def lan_Right_j2 (k : Nat) (i21 : Int) (m22 : (List (Int × Int))) (rec24 : (Int → (List (Int × Int)) → Option Bool)) (y28 : Host) (b45 : Bool) : Option Bool :=
  bif b45 then (some false) else (rec24 (wr (i21 + 1)) (mset m22 y28.Mac (wr (((mget m22 y28.Mac).getD 0) + 1))))
def lan_Right_s3 (k : Nat) (p0 : Lan) (rec24 : (Int → (List (Int × Int)) → Option Bool)) (i21 : Int) (m22 : (List (Int × Int))) : Option Bool :=
  bif decide (i21 < (p0.Hosts.length : Int)) then ((idx p0.Hosts i21).bind fun y28 => (mac_Class k y28.Mac).bind fun x35 => bif ((decide (((mget (mset m22 y28.Mac (wr (((mget m22 y28.Mac).getD 0) + 1))) y28.Mac).getD 0) > 1)) || (x35.2 != 0)) || (x35.1 != 0) then (lan_Right_j2 k i21 m22 rec24 y28 true) else ((lan_in k y28.Seg 0 (wr (p0.Segs - 1))).bind fun x49 => lan_Right_j2 k i21 m22 rec24 y28 (!x49))) else (lan_Right_j1 k m22)
def lan_Right_j4 (k : Nat) (p0 : Lan) (m13 : (List (Int × Int))) : Option Bool :=
  loopN (fun _ _ => none) (lan_Right_s3 k p0) k 0 ([])
def lan_Right_j5 (k : Nat) (i55 : Int) (m56 : (List (Int × Int))) (rec58 : (Int → (List (Int × Int)) → Option Bool)) (y62 : Plan) (b73 : Bool) : Option Bool :=
  bif b73 then (some false) else (rec58 (wr (i55 + 1)) (mset m56 y62.ID (wr (((mget m56 y62.ID).getD 0) + 1))))
def lan_Right_s6 (k : Nat) (p0 : Lan) (rec58 : (Int → (List (Int × Int)) → Option Bool)) (i55 : Int) (m56 : (List (Int × Int))) : Option Bool :=
  bif decide (i55 < (p0.Plans.length : Int)) then ((idx p0.Plans i55).bind fun y62 => bif decide (((mget (mset m56 y62.ID (wr (((mget m56 y62.ID).getD 0) + 1))) y62.ID).getD 0) > 1) then (lan_Right_j5 k i55 m56 rec58 y62 true) else ((lan_isPlan k y62 p0.Segs).bind fun x77 => lan_Right_j5 k i55 m56 rec58 y62 (!x77))) else (lan_Right_j4 k p0 m56)
def lan_Right_j7 (k : Nat) (p0 : Lan) (b9 : Bool) : Option Bool :=
  bif b9 then (some false) else (loopN (fun _ _ => none) (lan_Right_s6 k p0) k 0 ([]))
def lan_Right (k : Nat) (p0 : Lan) : Option Bool :=
  (lan_in k p0.Segs 1 8).bind fun x83 => bif !x83 then (lan_Right_j7 k p0 true) else (bif decide ((p0.Plans.length : Int) > 6) then (lan_Right_j7 k p0 true) else (lan_Right_j7 k p0 (decide ((p0.Hosts.length : Int) > 8))))
def tree_best_less_j1 (k : Nat) (b1 : Bool) : Option Bool :=
  some b1
def tree_best_less (k : Nat) (p0 : arr2_i64) (p1 : arr2_i64) : Option Bool :=
  bif decide (p0.x0 < p1.x0) then (tree_best_less_j1 k true) else (bif p0.x0 == p1.x0 then (tree_best_less_j1 k (decide (p0.x1 < p1.x1))) else (tree_best_less_j1 k false))
def lan_may (k : Nat) (p0 : Lan) (p1 : Int) : Option Int :=
  (lan_Right k p0).bind fun x9 => bif !x9 then (some 1) else ((lan_in k p1 0 (wr (p0.Segs - 1))).bind fun x15 => bif !x15 then (some 3) else (some 0))
def slices_Clone (k : Nat) (p0 : List Host) : Option (List Host) :=
  cat [] p0
def lan_On_1 (k : Nat) (p0 : Host) (p1 : Int) : Option Bool :=
  some (p0.Seg != p1)
def slices_IndexFunc_41_j1 (k : Nat) : Option Int :=
  some (-1)
def slices_IndexFunc_41_s2 (k : Nat) (p0 : (List Host)) (p1 : (Host → Option Bool)) (rec13 : (Int → Option Int)) (i11 : Int) : Option Int :=
  bif decide (i11 < (p0.length : Int)) then ((idx p0 i11).bind fun y17 => (p1 y17).bind fun x24 => bif x24 then (some i11) else (rec13 (wr (i11 + 1)))) else (slices_IndexFunc_41_j1 k)
def slices_IndexFunc_41 (k : Nat) (p0 : (List Host)) (p1 : (Host → Option Bool)) : Option Int :=
  loopN (fun _ => none) (slices_IndexFunc_41_s2 k p0 p1) k 0
def lan_On_j1 (k : Nat) (l15 : (List arr2_i64)) (l39 : (List Host)) : Option ((List Host) × (List arr2_i64) × Int) :=
  some (l39, l15, 0)
def lan_On_j2 (k : Nat) (l15 : (List arr2_i64)) (i58 : Int) (l59 : (List Host)) : Option ((List Host) × (List arr2_i64) × Int) :=
  (clr l59 i58 (⟨0, 0⟩ : Host)).bind fun l65 => (slc l65 0 i58).bind fun l69 => lan_On_j1 k l15 l69
def lan_On_j3 (k : Nat) (i75 : Int) (rec80 : (Int → Int → (List Host) → Option ((List Host) × (List arr2_i64) × Int))) (i99 : Int) (l100 : (List Host)) : Option ((List Host) × (List arr2_i64) × Int) :=
  rec80 i99 (wr (i75 + 1)) l100
def lan_On_s4 (k : Nat) (p1 : Int) (l15 : (List arr2_i64)) (rec80 : (Int → Int → (List Host) → Option ((List Host) × (List arr2_i64) × Int))) (i74 : Int) (i75 : Int) (l76 : (List Host)) : Option ((List Host) × (List arr2_i64) × Int) :=
  bif decide (i75 < ((l76.length : Nat) : Int)) then ((idx l76 i75).bind fun y84 => ((fun (x34 : Host) => lan_On_1 k x34 p1) y84).bind fun x93 => bif !x93 then ((idx l76 i74).bind fun y106 => (upd l76 i74 y84).bind fun l115 => lan_On_j3 k i75 rec80 (wr (i74 + 1)) l115) else (lan_On_j3 k i75 rec80 i74 l76)) else (lan_On_j2 k l15 i74 l76)
def lan_On_j5 (k : Nat) (p0 : Lan) (p1 : Int) (l15 : (List arr2_i64)) : Option ((List Host) × (List arr2_i64) × Int) :=
  (slices_Clone k p0.Hosts).bind fun x21 => (slices_IndexFunc_41 k x21 (fun (x34 : Host) => lan_On_1 k x34 p1)).bind fun x56 => bif x56 == (-1) then (lan_On_j1 k l15 x21) else (loopN (fun _ _ _ => none) (lan_On_s4 k p1 l15) k x56 (wr (x56 + 1)) x21)
def lan_On_j6 (k : Nat) (i119 : Int) (rec124 : (Int → (List arr2_i64) → Option ((List Host) × (List arr2_i64) × Int))) (l139 : (List arr2_i64)) : Option ((List Host) × (List arr2_i64) × Int) :=
  rec124 (wr (i119 + 1)) l139
def lan_On_j7 (k : Nat) (i145 : Int) (rec150 : (Int → (List arr2_i64) → Option ((List Host) × (List arr2_i64) × Int))) (l165 : (List arr2_i64)) : Option ((List Host) × (List arr2_i64) × Int) :=
  rec150 (wr (i145 + 1)) l165
def lan_On_j8 (k : Nat) (i119 : Int) (i145 : Int) (l146 : (List arr2_i64)) (rec150 : (Int → (List arr2_i64) → Option ((List Host) × (List arr2_i64) × Int))) (b161 : Bool) : Option ((List Host) × (List arr2_i64) × Int) :=
  bif b161 then ((push l146 (⟨i119, i145⟩ : arr2_i64)).bind fun l171 => lan_On_j7 k i145 rec150 l171) else (lan_On_j7 k i145 rec150 l146)
def lan_On_s9 (k : Nat) (p1 : Int) (i119 : Int) (rec124 : (Int → (List arr2_i64) → Option ((List Host) × (List arr2_i64) × Int))) (y128 : Plan) (rec150 : (Int → (List arr2_i64) → Option ((List Host) × (List arr2_i64) × Int))) (i145 : Int) (l146 : (List arr2_i64)) : Option ((List Host) × (List arr2_i64) × Int) :=
  bif decide (i145 < (y128.Ports.length : Int)) then ((idx y128.Ports i145).bind fun y154 => bif y154.Up then (lan_On_j8 k i119 i145 l146 rec150 (y154.Seg == p1)) else (lan_On_j8 k i119 i145 l146 rec150 false)) else (lan_On_j6 k i119 rec124 l146)
def lan_On_s10 (k : Nat) (p0 : Lan) (p1 : Int) (rec124 : (Int → (List arr2_i64) → Option ((List Host) × (List arr2_i64) × Int))) (i119 : Int) (l120 : (List arr2_i64)) : Option ((List Host) × (List arr2_i64) × Int) :=
  bif decide (i119 < (p0.Plans.length : Int)) then ((idx p0.Plans i119).bind fun y128 => loopN (fun _ _ => none) (lan_On_s9 k p1 i119 rec124 y128) k 0 l120) else (lan_On_j5 k p0 p1 l120)
def lan_On (k : Nat) (p0 : Lan) (p1 : Int) : Option ((List Host) × (List arr2_i64) × Int) :=
  (lan_may k p0 p1).bind fun x9 => bif x9 != 0 then (some ([], [], x9)) else (loopN (fun _ _ => none) (lan_On_s10 k p0 p1) k 0 ([]))
def tree_bests_j1 (k : Nat) (l19 : (List tree_way)) (l22 : (List arr2_i64)) (m25 : (List (Int × Bool))) : Option (List arr2_i64) :=
  some l22
def tree_bests_j2 (k : Nat) (rec43 : ((List tree_way) → (List arr2_i64) → (List (Int × Bool)) → Option (List arr2_i64))) (l56 : (List tree_way)) (l59 : (List arr2_i64)) (m62 : (List (Int × Bool))) : Option (List arr2_i64) :=
  rec43 l56 l59 m62
def tree_bests_j3 (k : Nat) (m41 : (List (Int × Bool))) (rec43 : ((List tree_way) → (List arr2_i64) → (List (Int × Bool)) → Option (List arr2_i64))) (e72 : tree_way) (l84 : (List arr2_i64)) (l122 : (List tree_way)) : Option (List arr2_i64) :=
  tree_bests_j2 k rec43 l122 l84 (mset m41 e72.at_ true)
def tree_bests_j4 (k : Nat) (i128 : Int) (rec133 : (Int → (List tree_way) → Option (List arr2_i64))) (l162 : (List tree_way)) : Option (List arr2_i64) :=
  rec133 (wr (i128 + 1)) l162
def tree_bests_j5 (k : Nat) (i168 : Int) (rec173 : (Int → (List tree_way) → Option (List arr2_i64))) (l188 : (List tree_way)) : Option (List arr2_i64) :=
  rec173 (wr (i168 + 1)) l188
def tree_bests_j6 (k : Nat) (i168 : Int) (rec173 : (Int → (List tree_way) → Option (List arr2_i64))) (l255 : (List tree_way)) : Option (List arr2_i64) :=
  tree_bests_j5 k i168 rec173 l255
def tree_bests_j7 (k : Nat) (i168 : Int) (rec173 : (Int → (List tree_way) → Option (List arr2_i64))) (l280 : (List tree_way)) : Option (List arr2_i64) :=
  tree_bests_j6 k i168 rec173 l280
def tree_bests_j8 (k : Nat) (i168 : Int) (rec173 : (Int → (List tree_way) → Option (List arr2_i64))) (l285 : (List tree_way)) : Option (List arr2_i64) :=
  tree_bests_j7 k i168 rec173 l285
def tree_bests_j9 (k : Nat) (rec296 : (Int → (List tree_way) → Option (List arr2_i64))) (i300 : Int) (l312 : (List tree_way)) : Option (List arr2_i64) :=
  rec296 i300 l312
def tree_bests_j10 (k : Nat) (i168 : Int) (rec173 : (Int → (List tree_way) → Option (List arr2_i64))) (i291 : Int) (rec296 : (Int → (List tree_way) → Option (List arr2_i64))) (i300 : Int) (b302 : Bool) (l303 : (List tree_way)) : Option (List arr2_i64) :=
  bif b302 then (tree_bests_j8 k i168 rec173 l303) else ((idx l303 i291).bind fun y317 => (idx l303 i300).bind fun y326 => (idx l303 i300).bind fun y335 => (upd l303 i300 y317).bind fun l344 => (idx l344 i291).bind fun y347 => (upd l344 i291 y326).bind fun l356 => tree_bests_j9 k rec296 i300 l356)
def tree_bests_j11 (k : Nat) (i168 : Int) (rec173 : (Int → (List tree_way) → Option (List arr2_i64))) (i291 : Int) (rec296 : (Int → (List tree_way) → Option (List arr2_i64))) (i300 : Int) (l396 : (List tree_way)) (b399 : Bool) : Option (List arr2_i64) :=
  tree_bests_j10 k i168 rec173 i291 rec296 i300 (!b399) l396
def tree_bests_s12 (k : Nat) (i168 : Int) (rec173 : (Int → (List tree_way) → Option (List arr2_i64))) (rec296 : (Int → (List tree_way) → Option (List arr2_i64))) (i291 : Int) (l292 : (List tree_way)) : Option (List arr2_i64) :=
  (iquo (wr (i291 - 1)) 2).bind fun i300 => bif i300 == i291 then (tree_bests_j10 k i168 rec173 i291 rec296 i300 true l292) else ((idx l292 i291).bind fun y402 => (idx l292 i300).bind fun y411 => (tree_best_less k (⟨y402.best.x0, y402.best.x1⟩ : arr2_i64) (⟨y411.best.x0, y411.best.x1⟩ : arr2_i64)).bind fun x420 => tree_bests_j11 k i168 rec173 i291 rec296 i300 l292 x420)
def tree_bests_j13 (k : Nat) (i168 : Int) (rec173 : (Int → (List tree_way) → Option (List arr2_i64))) (l271 : (List tree_way)) (i274 : Int) : Option (List arr2_i64) :=
  loopN (fun _ _ => none) (tree_bests_s12 k i168 rec173) k (wr (i274 - 1)) l271
def tree_bests_j14 (k : Nat) (i168 : Int) (rec173 : (Int → (List tree_way) → Option (List arr2_i64))) (l263 : (List tree_way)) : Option (List arr2_i64) :=
  tree_bests_j13 k i168 rec173 l263 ((l263.length : Nat) : Int)
def tree_bests_j15 (k : Nat) (p0 : Lan) (e72 : tree_way) (i168 : Int) (l169 : (List tree_way)) (rec173 : (Int → (List tree_way) → Option (List arr2_i64))) (y177 : arr2_i64) (b184 : Bool) : Option (List arr2_i64) :=
  bif b184 then ((idx p0.Plans y177.x0).bind fun y194 => (idx y194.Ports y177.x1).bind fun y211 => (push l169 (⟨(⟨e72.best.x0, wr (e72.best.x1 + y211.Cost)⟩ : arr2_i64), y177.x0⟩ : tree_way)).bind fun l452 => tree_bests_j14 k i168 rec173 l452) else (tree_bests_j5 k i168 rec173 l169)
def tree_bests_s16 (k : Nat) (p0 : Lan) (m41 : (List (Int × Bool))) (e72 : tree_way) (i128 : Int) (rec133 : (Int → (List tree_way) → Option (List arr2_i64))) (y137 : Link) (x144 : ((List Host) × (List arr2_i64) × Int)) (rec173 : (Int → (List tree_way) → Option (List arr2_i64))) (i168 : Int) (l169 : (List tree_way)) : Option (List arr2_i64) :=
  bif decide (i168 < (x144.2.1.length : Int)) then ((idx x144.2.1 i168).bind fun y177 => bif y137.Up then (tree_bests_j15 k p0 e72 i168 l169 rec173 y177 (!((mget (mset m41 e72.at_ true) y177.x0).getD false))) else (tree_bests_j15 k p0 e72 i168 l169 rec173 y177 false)) else (tree_bests_j4 k i128 rec133 l169)
def tree_bests_s17 (k : Nat) (p0 : Lan) (m41 : (List (Int × Bool))) (rec43 : ((List tree_way) → (List arr2_i64) → (List (Int × Bool)) → Option (List arr2_i64))) (e72 : tree_way) (l84 : (List arr2_i64)) (y111 : Plan) (rec133 : (Int → (List tree_way) → Option (List arr2_i64))) (i128 : Int) (l129 : (List tree_way)) : Option (List arr2_i64) :=
  bif decide (i128 < (y111.Ports.length : Int)) then ((idx y111.Ports i128).bind fun y137 => (lan_On k p0 y137.Seg).bind fun x144 => loopN (fun _ _ => none) (tree_bests_s16 k p0 m41 e72 i128 rec133 y137 x144) k 0 l129) else (tree_bests_j3 k m41 rec43 e72 l84 l129)
def tree_bests_j18 (k : Nat) (p0 : Lan) (l38 : (List arr2_i64)) (m41 : (List (Int × Bool))) (rec43 : ((List tree_way) → (List arr2_i64) → (List (Int × Bool)) → Option (List arr2_i64))) (l69 : (List tree_way)) (e72 : tree_way) : Option (List arr2_i64) :=
  bif (mget m41 e72.at_).getD false then (tree_bests_j2 k rec43 l69 l38 m41) else ((idx l38 e72.at_).bind fun y75 => (upd l38 e72.at_ (⟨e72.best.x0, e72.best.x1⟩ : arr2_i64)).bind fun l84 => (idx p0.Plans e72.at_).bind fun y111 => loopN (fun _ _ => none) (tree_bests_s17 k p0 m41 rec43 e72 l84 y111) k 0 l69)
def tree_bests_j19 (k : Nat) (p0 : Lan) (l38 : (List arr2_i64)) (m41 : (List (Int × Bool))) (rec43 : ((List tree_way) → (List arr2_i64) → (List (Int × Bool)) → Option (List arr2_i64))) (l508 : (List tree_way)) (e511 : tree_way) : Option (List arr2_i64) :=
  tree_bests_j18 k p0 l38 m41 rec43 l508 e511
def tree_bests_j20 (k : Nat) (p0 : Lan) (l38 : (List arr2_i64)) (m41 : (List (Int × Bool))) (rec43 : ((List tree_way) → (List arr2_i64) → (List (Int × Bool)) → Option (List arr2_i64))) (l499 : (List tree_way)) (b502 : Bool) : Option (List arr2_i64) :=
  (idx l499 (wr (((l499.length : Nat) : Int) - 1))).bind fun y514 => (slc l499 0 (wr (((l499.length : Nat) : Int) - 1))).bind fun l523 => tree_bests_j19 k p0 l38 m41 rec43 l523 y514
def tree_bests_j21 (k : Nat) (p0 : Lan) (l38 : (List arr2_i64)) (m41 : (List (Int × Bool))) (rec43 : ((List tree_way) → (List arr2_i64) → (List (Int × Bool)) → Option (List arr2_i64))) (i528 : Int) (l529 : (List tree_way)) : Option (List arr2_i64) :=
  tree_bests_j20 k p0 l38 m41 rec43 l529 (decide (i528 > 0))
def tree_bests_j22 (k : Nat) (rec540 : (Int → (List tree_way) → Option (List arr2_i64))) (i551 : Int) (l567 : (List tree_way)) : Option (List arr2_i64) :=
  rec540 i551 l567
def tree_bests_j23 (k : Nat) (p0 : Lan) (l38 : (List arr2_i64)) (m41 : (List (Int × Bool))) (rec43 : ((List tree_way) → (List arr2_i64) → (List (Int × Bool)) → Option (List arr2_i64))) (i535 : Int) (rec540 : (Int → (List tree_way) → Option (List arr2_i64))) (i551 : Int) (l558 : (List tree_way)) (b561 : Bool) : Option (List arr2_i64) :=
  bif !b561 then (tree_bests_j21 k p0 l38 m41 rec43 i535 l558) else ((idx l558 i551).bind fun y572 => (idx l558 i535).bind fun y581 => (idx l558 i535).bind fun y590 => (upd l558 i535 y572).bind fun l599 => (idx l599 i551).bind fun y602 => (upd l599 i551 y581).bind fun l611 => tree_bests_j22 k rec540 i551 l611)
def tree_bests_j24 (k : Nat) (p0 : Lan) (l38 : (List arr2_i64)) (m41 : (List (Int × Bool))) (rec43 : ((List tree_way) → (List arr2_i64) → (List (Int × Bool)) → Option (List arr2_i64))) (i535 : Int) (rec540 : (Int → (List tree_way) → Option (List arr2_i64))) (l545 : (List tree_way)) (i551 : Int) : Option (List arr2_i64) :=
  (idx l545 i551).bind fun y648 => (idx l545 i535).bind fun y657 => (tree_best_less k (⟨y648.best.x0, y648.best.x1⟩ : arr2_i64) (⟨y657.best.x0, y657.best.x1⟩ : arr2_i64)).bind fun x666 => tree_bests_j23 k p0 l38 m41 rec43 i535 rec540 i551 l545 x666
def tree_bests_j25 (k : Nat) (p0 : Lan) (l38 : (List arr2_i64)) (m41 : (List (Int × Bool))) (rec43 : ((List tree_way) → (List arr2_i64) → (List (Int × Bool)) → Option (List arr2_i64))) (i535 : Int) (rec540 : (Int → (List tree_way) → Option (List arr2_i64))) (b544 : Bool) (l545 : (List tree_way)) : Option (List arr2_i64) :=
  bif b544 then (tree_bests_j24 k p0 l38 m41 rec43 i535 rec540 l545 (wr ((wr ((wr (2 * i535)) + 1)) + 1))) else (tree_bests_j24 k p0 l38 m41 rec43 i535 rec540 l545 (wr ((wr (2 * i535)) + 1)))
def tree_bests_j26 (k : Nat) (p0 : Lan) (l38 : (List arr2_i64)) (m41 : (List (Int × Bool))) (rec43 : ((List tree_way) → (List arr2_i64) → (List (Int × Bool)) → Option (List arr2_i64))) (i535 : Int) (rec540 : (Int → (List tree_way) → Option (List arr2_i64))) (l701 : (List tree_way)) (b704 : Bool) : Option (List arr2_i64) :=
  tree_bests_j25 k p0 l38 m41 rec43 i535 rec540 b704 l701
def tree_bests_s27 (k : Nat) (p0 : Lan) (l38 : (List arr2_i64)) (m41 : (List (Int × Bool))) (rec43 : ((List tree_way) → (List arr2_i64) → (List (Int × Bool)) → Option (List arr2_i64))) (i485 : Int) (rec540 : (Int → (List tree_way) → Option (List arr2_i64))) (i535 : Int) (l536 : (List tree_way)) : Option (List arr2_i64) :=
  bif (decide ((wr ((wr (2 * i535)) + 1)) ≥ (wr (i485 - 1)))) || (decide ((wr ((wr (2 * i535)) + 1)) < 0)) then (tree_bests_j21 k p0 l38 m41 rec43 i535 l536) else (bif decide ((wr ((wr ((wr (2 * i535)) + 1)) + 1)) < (wr (i485 - 1))) then ((idx l536 (wr ((wr ((wr (2 * i535)) + 1)) + 1))).bind fun y707 => (idx l536 (wr ((wr (2 * i535)) + 1))).bind fun y716 => (tree_best_less k (⟨y707.best.x0, y707.best.x1⟩ : arr2_i64) (⟨y716.best.x0, y716.best.x1⟩ : arr2_i64)).bind fun x725 => tree_bests_j26 k p0 l38 m41 rec43 i535 rec540 l536 x725) else (tree_bests_j25 k p0 l38 m41 rec43 i535 rec540 false l536))
def tree_bests_j28 (k : Nat) (p0 : Lan) (l38 : (List arr2_i64)) (m41 : (List (Int × Bool))) (rec43 : ((List tree_way) → (List arr2_i64) → (List (Int × Bool)) → Option (List arr2_i64))) (i485 : Int) (l491 : (List tree_way)) : Option (List arr2_i64) :=
  loopN (fun _ _ => none) (tree_bests_s27 k p0 l38 m41 rec43 i485) k 0 l491
def tree_bests_j29 (k : Nat) (p0 : Lan) (l38 : (List arr2_i64)) (m41 : (List (Int × Bool))) (rec43 : ((List tree_way) → (List arr2_i64) → (List (Int × Bool)) → Option (List arr2_i64))) (l482 : (List tree_way)) (i485 : Int) : Option (List arr2_i64) :=
  (idx l482 (wr (i485 - 1))).bind fun y757 => (idx l482 0).bind fun y766 => (idx l482 0).bind fun y775 => (upd l482 0 y757).bind fun l784 => (idx l784 (wr (i485 - 1))).bind fun y787 => (upd l784 (wr (i485 - 1)) y766).bind fun l796 => tree_bests_j28 k p0 l38 m41 rec43 i485 l796
def tree_bests_j30 (k : Nat) (p0 : Lan) (l38 : (List arr2_i64)) (m41 : (List (Int × Bool))) (rec43 : ((List tree_way) → (List arr2_i64) → (List (Int × Bool)) → Option (List arr2_i64))) (l50 : (List tree_way)) (i53 : Int) : Option (List arr2_i64) :=
  bif decide (i53 > 0) then (tree_bests_j29 k p0 l38 m41 rec43 l50 ((l50.length : Nat) : Int)) else (tree_bests_j1 k l50 l38 m41)
def tree_bests_s31 (k : Nat) (p0 : Lan) (rec43 : ((List tree_way) → (List arr2_i64) → (List (Int × Bool)) → Option (List arr2_i64))) (l35 : (List tree_way)) (l38 : (List arr2_i64)) (m41 : (List (Int × Bool))) : Option (List arr2_i64) :=
  tree_bests_j30 k p0 l38 m41 rec43 l35 ((l35.length : Nat) : Int)
def tree_bests_j32 (k : Nat) (p0 : Lan) (l9 : (List tree_way)) : Option (List arr2_i64) :=
  (mk (p0.Plans.length : Int) (⟨0, 0⟩ : arr2_i64)).bind fun l15 => loopN (fun _ _ _ => none) (tree_bests_s31 k p0) k l9 l15 ([])
def tree_bests_j33 (k : Nat) (i833 : Int) (rec838 : (Int → (List tree_way) → Option (List arr2_i64))) (l856 : (List tree_way)) : Option (List arr2_i64) :=
  rec838 (wr (i833 + 1)) l856
def tree_bests_j34 (k : Nat) (i833 : Int) (rec838 : (Int → (List tree_way) → Option (List arr2_i64))) (l881 : (List tree_way)) : Option (List arr2_i64) :=
  tree_bests_j33 k i833 rec838 l881
def tree_bests_j35 (k : Nat) (i833 : Int) (rec838 : (Int → (List tree_way) → Option (List arr2_i64))) (l886 : (List tree_way)) : Option (List arr2_i64) :=
  tree_bests_j34 k i833 rec838 l886
def tree_bests_j36 (k : Nat) (rec897 : (Int → (List tree_way) → Option (List arr2_i64))) (i901 : Int) (l913 : (List tree_way)) : Option (List arr2_i64) :=
  rec897 i901 l913
def tree_bests_j37 (k : Nat) (i833 : Int) (rec838 : (Int → (List tree_way) → Option (List arr2_i64))) (i892 : Int) (rec897 : (Int → (List tree_way) → Option (List arr2_i64))) (i901 : Int) (b903 : Bool) (l904 : (List tree_way)) : Option (List arr2_i64) :=
  bif b903 then (tree_bests_j35 k i833 rec838 l904) else ((idx l904 i892).bind fun y918 => (idx l904 i901).bind fun y927 => (idx l904 i901).bind fun y936 => (upd l904 i901 y918).bind fun l945 => (idx l945 i892).bind fun y948 => (upd l945 i892 y927).bind fun l957 => tree_bests_j36 k rec897 i901 l957)
def tree_bests_j38 (k : Nat) (i833 : Int) (rec838 : (Int → (List tree_way) → Option (List arr2_i64))) (i892 : Int) (rec897 : (Int → (List tree_way) → Option (List arr2_i64))) (i901 : Int) (l997 : (List tree_way)) (b1000 : Bool) : Option (List arr2_i64) :=
  tree_bests_j37 k i833 rec838 i892 rec897 i901 (!b1000) l997
def tree_bests_s39 (k : Nat) (i833 : Int) (rec838 : (Int → (List tree_way) → Option (List arr2_i64))) (rec897 : (Int → (List tree_way) → Option (List arr2_i64))) (i892 : Int) (l893 : (List tree_way)) : Option (List arr2_i64) :=
  (iquo (wr (i892 - 1)) 2).bind fun i901 => bif i901 == i892 then (tree_bests_j37 k i833 rec838 i892 rec897 i901 true l893) else ((idx l893 i892).bind fun y1003 => (idx l893 i901).bind fun y1012 => (tree_best_less k (⟨y1003.best.x0, y1003.best.x1⟩ : arr2_i64) (⟨y1012.best.x0, y1012.best.x1⟩ : arr2_i64)).bind fun x1021 => tree_bests_j38 k i833 rec838 i892 rec897 i901 l893 x1021)
def tree_bests_j40 (k : Nat) (i833 : Int) (rec838 : (Int → (List tree_way) → Option (List arr2_i64))) (l872 : (List tree_way)) (i875 : Int) : Option (List arr2_i64) :=
  loopN (fun _ _ => none) (tree_bests_s39 k i833 rec838) k (wr (i875 - 1)) l872
def tree_bests_j41 (k : Nat) (i833 : Int) (rec838 : (Int → (List tree_way) → Option (List arr2_i64))) (l864 : (List tree_way)) : Option (List arr2_i64) :=
  tree_bests_j40 k i833 rec838 l864 ((l864.length : Nat) : Int)
def tree_bests_s42 (k : Nat) (p0 : Lan) (rec838 : (Int → (List tree_way) → Option (List arr2_i64))) (i833 : Int) (l834 : (List tree_way)) : Option (List arr2_i64) :=
  bif decide (i833 < (p0.Plans.length : Int)) then ((idx p0.Plans i833).bind fun y842 => (push l834 (⟨(⟨y842.ID, 0⟩ : arr2_i64), i833⟩ : tree_way)).bind fun l1053 => tree_bests_j41 k i833 rec838 l1053) else (tree_bests_j32 k p0 l834)
def tree_bests (k : Nat) (p0 : Lan) : Option (List arr2_i64) :=
  loopN (fun _ _ => none) (tree_bests_s42 k p0) k 0 ([] : List tree_way)
def tree_Best_j1 (k : Nat) (p0 : Lan) (p1 : Int) (b15 : Bool) : Option (Int × Int × Int) :=
  bif b15 then (some (0, 0, 3)) else ((tree_bests k p0).bind fun x19 => (idx x19 p1).bind fun y28 => some (y28.x0, y28.x1, 0))
def tree_Best (k : Nat) (p0 : Lan) (p1 : Int) : Option (Int × Int × Int) :=
  (lan_Right k p0).bind fun x9 => bif !x9 then (some (0, 0, 1)) else (bif decide (p1 < 0) then (tree_Best_j1 k p0 p1 true) else (tree_Best_j1 k p0 p1 (decide (p1 ≥ (p0.Plans.length : Int)))))
def vec_in (k : Nat) (p0 : Int) (p1 : Int) : Option Bool :=
  some ((decide (p0 ≥ 0)) && (decide (p0 ≤ p1)))
def vec_Right_j1 (k : Nat) (b1 : Bool) : Option Bool :=
  some b1
def vec_Right (k : Nat) (p0 : Vec) : Option Bool :=
  (vec_in k p0.Root 65535).bind fun x5 => bif x5 then ((vec_in k p0.Bridge 65535).bind fun x11 => bif x11 then ((vec_in k p0.Cost 2147483647).bind fun x17 => bif x17 then ((vec_in k p0.Port 7).bind fun x23 => vec_Right_j1 k x23) else (vec_Right_j1 k false)) else (vec_Right_j1 k false)) else (vec_Right_j1 k false)
def vec_allRight_1 (k : Nat) (p0 : Vec) : Option Bool :=
  (vec_Right k p0).bind fun x1 => some (!x1)
def slices_IndexFunc_63_j1 (k : Nat) : Option Int :=
  some (-1)
def slices_IndexFunc_63_s2 (k : Nat) (p0 : (List Vec)) (p1 : (Vec → Option Bool)) (rec13 : (Int → Option Int)) (i11 : Int) : Option Int :=
  bif decide (i11 < (p0.length : Int)) then ((idx p0 i11).bind fun y17 => (p1 y17).bind fun x24 => bif x24 then (some i11) else (rec13 (wr (i11 + 1)))) else (slices_IndexFunc_63_j1 k)
def slices_IndexFunc_63 (k : Nat) (p0 : (List Vec)) (p1 : (Vec → Option Bool)) : Option Int :=
  loopN (fun _ => none) (slices_IndexFunc_63_s2 k p0 p1) k 0
def slices_ContainsFunc_61 (k : Nat) (p0 : (List Vec)) (p1 : (Vec → Option Bool)) : Option Bool :=
  (slices_IndexFunc_63 k p0 p1).bind fun x8 => some (decide (x8 ≥ 0))
def vec_allRight (k : Nat) (p0 : (List Vec)) : Option Bool :=
  (slices_ContainsFunc_61 k p0 (fun (x4 : Vec) => vec_allRight_1 k x4)).bind fun x6 => some (!x6)
def cmp_Or_j1 (k : Nat) : Option Int :=
  some 0
def cmp_Or_s2 (k : Nat) (p0 : (List Int)) (rec9 : (Int → Option Int)) (i7 : Int) : Option Int :=
  bif decide (i7 < (p0.length : Int)) then ((idx p0 i7).bind fun y13 => bif y13 != 0 then (some y13) else (rec9 (wr (i7 + 1)))) else (cmp_Or_j1 k)
def cmp_Or (k : Nat) (p0 : (List Int)) : Option Int :=
  loopN (fun _ => none) (cmp_Or_s2 k p0) k 0
def vec_one_rank (k : Nat) (p0 : vec_one) (p1 : vec_one) : Option Int :=
  bif xorB false (((p0.Vec.Root == p1.Vec.Root) && ((p0.Vec.Cost == p1.Vec.Cost) && ((p0.Vec.Bridge == p1.Vec.Bridge) && ((p0.Vec.Port == p1.Vec.Port) && true)))) && true) then (some 0) else ((cmp_Or k ([wr (p0.Vec.Root - p1.Vec.Root), wr (p0.Vec.Cost - p1.Vec.Cost), wr (p0.Vec.Bridge - p1.Vec.Bridge), wr (p0.Vec.Port - p1.Vec.Port)] : List Int)).bind fun x1 => some x1)
def vec_ahead (k : Nat) (p0 : If124) (p1 : vec_one) : Option Bool :=
  (vec_one_rank k p0.v p1).bind fun x1 => some (decide (x1 < 0))
def vec_Best_j1 (k : Nat) (i10 : Int) : Option (Int × Int) :=
  some (i10, 0)
def vec_Best_j2 (k : Nat) (i15 : Int) (rec17 : (Int → Int → Option (Int × Int))) (i67 : Int) : Option (Int × Int) :=
  rec17 i67 (wr (i15 + 1))
def vec_Best_s3 (k : Nat) (p0 : (List Vec)) (rec17 : (Int → Int → Option (Int × Int))) (i14 : Int) (i15 : Int) : Option (Int × Int) :=
  bif decide (i15 < (p0.length : Int)) then ((idx p0 i15).bind fun y21 => (idx p0 i14).bind fun y28 => (vec_ahead k (⟨(⟨(⟨y21.Root, y21.Cost, y21.Bridge, y21.Port⟩ : Vec)⟩ : vec_one)⟩ : If124) (⟨(⟨y28.Root, y28.Cost, y28.Bridge, y28.Port⟩ : Vec)⟩ : vec_one)).bind fun x41 => bif x41 then (vec_Best_j2 k i15 rec17 i15) else (vec_Best_j2 k i15 rec17 i14)) else (vec_Best_j1 k i14)
def vec_Best (k : Nat) (p0 : (List Vec)) : Option (Int × Int) :=
  (vec_allRight k p0).bind fun x4 => bif !x4 then (some (0, 1)) else (bif (p0.length : Int) == 0 then (some (0, 4)) else (loopN (fun _ _ => none) (vec_Best_s3 k p0) k 0 0))
def tree_told (k : Nat) (p0 : Lan) (p1 : (List arr2_i64)) (p2 : arr2_i64) : Option Vec :=
  (idx p1 p2.x0).bind fun y12 => (idx p1 p2.x0).bind fun y25 => (idx p0.Plans p2.x0).bind fun y38 => some (⟨y12.x0, y25.x1, y38.ID, p2.x1⟩ : Vec)
def tree_own_j1 (k : Nat) (x12 : ((List Host) × (List arr2_i64) × Int)) (l30 : (List Vec)) : Option (arr2_i64 × Bool) :=
  (vec_Best k l30).bind fun x42 => bif x42.2 != 0 then (some ((⟨0, 0⟩ : arr2_i64), false)) else ((idx x12.2.1 x42.1).bind fun y52 => some (y52, true))
def tree_own_s2 (k : Nat) (p0 : Lan) (p1 : (List arr2_i64)) (x12 : ((List Host) × (List arr2_i64) × Int)) (rec64 : (Int → (List Vec) → Option (arr2_i64 × Bool))) (i59 : Int) (l60 : (List Vec)) : Option (arr2_i64 × Bool) :=
  bif decide (i59 < (x12.2.1.length : Int)) then ((idx x12.2.1 i59).bind fun y68 => (tree_told k p0 p1 y68).bind fun x75 => (push l60 x75).bind fun l81 => rec64 (wr (i59 + 1)) l81) else (tree_own_j1 k x12 l60)
def tree_own (k : Nat) (p0 : Lan) (p1 : (List arr2_i64)) (p2 : Int) : Option (arr2_i64 × Bool) :=
  (lan_On k p0 p2).bind fun x12 => loopN (fun _ _ => none) (tree_own_s2 k p0 p1 x12) k 0 ([])
def vec_Far_j1 (k : Nat) (p0 : Vec) (p1 : Int) (b1 : Bool) : Option (Vec × Int) :=
  bif b1 then (some ((⟨0, 0, 0, 0⟩ : Vec), 1)) else (some ((⟨p0.Root, (if 2147483647 < (wr (p0.Cost + p1)) then 2147483647 else (wr (p0.Cost + p1))), p0.Bridge, p0.Port⟩ : Vec), 0))
def vec_Far (k : Nat) (p0 : Vec) (p1 : Int) : Option (Vec × Int) :=
  (vec_Right k p0).bind fun x5 => bif !x5 then (vec_Far_j1 k p0 p1 true) else ((vec_in k p1 2147483647).bind fun x11 => vec_Far_j1 k p0 p1 (!x11))
def tree_root_j1 (k : Nat) (l79 : (List Int)) (l82 : (List Vec)) : Option Int :=
  (vec_Best k l82).bind fun x94 => bif x94.2 != 0 then (some (-1)) else ((idx l79 x94.1).bind fun y104 => some y104)
def tree_root_j2 (k : Nat) (i113 : Int) (rec121 : (Int → (List Int) → (List Vec) → Option Int)) (l125 : (List Int)) (l128 : (List Vec)) : Option Int :=
  rec121 (wr (i113 + 1)) l125 l128
def tree_root_j3 (k : Nat) (i113 : Int) (rec121 : (Int → (List Int) → (List Vec) → Option Int)) (l234 : (List Int)) (l237 : (List Vec)) : Option Int :=
  tree_root_j2 k i113 rec121 l234 l237
def tree_root_j4 (k : Nat) (p0 : Lan) (p1 : (List arr2_i64)) (p2 : Int) (i113 : Int) (l114 : (List Int)) (l117 : (List Vec)) (rec121 : (Int → (List Int) → (List Vec) → Option Int)) (y134 : Link) (x141 : (arr2_i64 × Bool)) (b151 : Bool) : Option Int :=
  bif b151 then (tree_root_j2 k i113 rec121 l114 l117) else ((tree_told k p0 p1 x141.1).bind fun x155 => (vec_Far k x155 y134.Cost).bind fun x157 => (idx p1 p2).bind fun y199 => bif xorB false ((x157.1.Root == y199.x0) && ((x157.1.Cost == y199.x1) && true)) then ((push l114 i113).bind fun l243 => (push l117 x157.1).bind fun l247 => tree_root_j3 k i113 rec121 l243 l247) else (tree_root_j3 k i113 rec121 l114 l117))
def tree_root_s5 (k : Nat) (p0 : Lan) (p1 : (List arr2_i64)) (p2 : Int) (y68 : Plan) (rec121 : (Int → (List Int) → (List Vec) → Option Int)) (i113 : Int) (l114 : (List Int)) (l117 : (List Vec)) : Option Int :=
  bif decide (i113 < (y68.Ports.length : Int)) then ((idx y68.Ports i113).bind fun y134 => (tree_own k p0 p1 y134.Seg).bind fun x141 => bif (!y134.Up) || (!x141.2) then (tree_root_j4 k p0 p1 p2 i113 l114 l117 rec121 y134 x141 true) else (tree_root_j4 k p0 p1 p2 i113 l114 l117 rec121 y134 x141 (x141.1.x0 == p2))) else (tree_root_j1 k l114 l117)
def tree_root (k : Nat) (p0 : Lan) (p1 : (List arr2_i64)) (p2 : Int) : Option Int :=
  (idx p1 p2).bind fun y12 => (idx p0.Plans p2).bind fun y25 => bif y12.x0 == y25.ID then (some (-1)) else ((idx p0.Plans p2).bind fun y68 => loopN (fun _ _ _ => none) (tree_root_s5 k p0 p1 p2 y68) k 0 ([]) ([]))
def tree_Roles_j1 (k : Nat) (l24 : (List (List Int))) : Option ((List (List Int)) × Int) :=
  some (l24, 0)
def tree_Roles_j2 (k : Nat) (i36 : Int) (l37 : (List (List Int))) (rec41 : (Int → (List (List Int)) → Option ((List (List Int)) × Int))) (l62 : (List Int)) : Option ((List (List Int)) × Int) :=
  (push l37 l62).bind fun l74 => rec41 (wr (i36 + 1)) l74
def tree_Roles_j3 (k : Nat) (i80 : Int) (l81 : (List Int)) (rec85 : (Int → (List Int) → Option ((List (List Int)) × Int))) (i106 : Int) : Option ((List (List Int)) × Int) :=
  (push l81 i106).bind fun l110 => rec85 (wr (i80 + 1)) l110
def tree_Roles_j4 (k : Nat) (i80 : Int) (l81 : (List Int)) (rec85 : (Int → (List Int) → Option ((List (List Int)) × Int))) (i116 : Int) : Option ((List (List Int)) × Int) :=
  tree_Roles_j3 k i80 l81 rec85 i116
def tree_Roles_j5 (k : Nat) (i80 : Int) (l81 : (List Int)) (rec85 : (Int → (List Int) → Option ((List (List Int)) × Int))) (i120 : Int) : Option ((List (List Int)) × Int) :=
  tree_Roles_j4 k i80 l81 rec85 i120
def tree_Roles_s6 (k : Nat) (p0 : Lan) (x15 : (List arr2_i64)) (i36 : Int) (l37 : (List (List Int))) (rec41 : (Int → (List (List Int)) → Option ((List (List Int)) × Int))) (y45 : Plan) (x56 : Int) (rec85 : (Int → (List Int) → Option ((List (List Int)) × Int))) (i80 : Int) (l81 : (List Int)) : Option ((List (List Int)) × Int) :=
  bif decide (i80 < (y45.Ports.length : Int)) then ((idx y45.Ports i80).bind fun y89 => (tree_own k p0 x15 y89.Seg).bind fun x96 => bif !y89.Up then (tree_Roles_j3 k i80 l81 rec85 3) else (bif xorB false ((x96.1.x0 == i36) && ((x96.1.x1 == i80) && true)) then (tree_Roles_j4 k i80 l81 rec85 1) else (bif i80 == x56 then (tree_Roles_j5 k i80 l81 rec85 0) else (tree_Roles_j5 k i80 l81 rec85 2)))) else (tree_Roles_j2 k i36 l37 rec41 l81)
def tree_Roles_s7 (k : Nat) (p0 : Lan) (x15 : (List arr2_i64)) (rec41 : (Int → (List (List Int)) → Option ((List (List Int)) × Int))) (i36 : Int) (l37 : (List (List Int))) : Option ((List (List Int)) × Int) :=
  bif decide (i36 < (p0.Plans.length : Int)) then ((idx p0.Plans i36).bind fun y45 => (tree_root k p0 x15 i36).bind fun x56 => loopN (fun _ _ => none) (tree_Roles_s6 k p0 x15 i36 l37 rec41 y45 x56) k 0 ([])) else (tree_Roles_j1 k l37)
def tree_Roles (k : Nat) (p0 : Lan) : Option ((List (List Int)) × Int) :=
  (lan_Right k p0).bind fun x9 => bif !x9 then (some ([], 1)) else ((tree_bests k p0).bind fun x15 => loopN (fun _ _ => none) (tree_Roles_s7 k p0 x15) k 0 ([]))
def ref16_Same_j1 (k : Nat) : Option Bool :=
  some true
def ref16_Same_j2 (k : Nat) (i10 : Int) (rec12 : (Int → Option Bool)) : Option Bool :=
  rec12 (wr (i10 + 1))
def ref16_Same_s3 (k : Nat) (p0 : (List (List Int))) (p1 : (List (List Int))) (i10 : Int) (rec12 : (Int → Option Bool)) (y72 : (List Int)) (rec87 : (Int → Option Bool)) (i85 : Int) : Option Bool :=
  bif decide (i85 < (y72.length : Int)) then ((idx p0 i10).bind fun y91 => (idx y91 i85).bind fun y107 => (idx p1 i10).bind fun y120 => (idx y120 i85).bind fun y136 => bif y107 != y136 then (some false) else (rec87 (wr (i85 + 1)))) else (ref16_Same_j2 k i10 rec12)
def ref16_Same_s4 (k : Nat) (p0 : (List (List Int))) (p1 : (List (List Int))) (rec12 : (Int → Option Bool)) (i10 : Int) : Option Bool :=
  bif decide (i10 < (p0.length : Int)) then ((idx p0 i10).bind fun y16 => (idx p1 i10).bind fun y32 => bif (y16.length : Int) != (y32.length : Int) then (some false) else ((idx p0 i10).bind fun y72 => loopN (fun _ => none) (ref16_Same_s3 k p0 p1 i10 rec12 y72) k 0)) else (ref16_Same_j1 k)
def ref16_Same (k : Nat) (p0 : (List (List Int))) (p1 : (List (List Int))) : Option Bool :=
  bif (p0.length : Int) != (p1.length : Int) then (some false) else (loopN (fun _ => none) (ref16_Same_s4 k p0 p1) k 0)
def law16_alive_j1 (k : Nat) (b26 : Bool) : Option Bool :=
  some b26
def law16_alive (k : Nat)  : Option Bool :=
  (tree_Roles k (⟨2, ([(⟨1, ([(⟨0, 1, true⟩ : Link), (⟨1, 1, true⟩ : Link)] : List Link)⟩ : Plan), (⟨2, ([(⟨0, 1, true⟩ : Link), (⟨1, 1, true⟩ : Link)] : List Link)⟩ : Plan)] : List Plan), []⟩ : Lan)).bind fun x13 => bif x13.2 == 0 then ((ref16_Same k x13.1 ([([1, 1] : List Int), ([0, 2] : List Int)] : List (List Int))).bind fun x42 => law16_alive_j1 k x42) else (law16_alive_j1 k false)
def law16_TreeNear_j1 (k : Nat) (b155 : Bool) : Option Bool :=
  some b155
def law16_TreeNear_j2 (k : Nat) (x9 : Lan) (i43 : Int) (x107 : (Int × Int × Int)) : Option Bool :=
  bif decide (x107.2.1 ≥ 0) then ((idx x9.Plans i43).bind fun y159 => law16_TreeNear_j1 k ((x107.2.1 == 0) == (x107.1 == y159.ID))) else (law16_TreeNear_j1 k false)
def law16_TreeNear_j3 (k : Nat) (i170 : Int) (rec172 : (Int → Option Bool)) : Option Bool :=
  rec172 (wr (i170 + 1))
def law16_TreeNear_j4 (k : Nat) (i197 : Int) (rec199 : (Int → Option Bool)) (b210 : Bool) : Option Bool :=
  bif b210 then (some false) else (rec199 (wr (i197 + 1)))
def law16_TreeNear_s5 (k : Nat) (i43 : Int) (i47 : Int) (x107 : (Int × Int × Int)) (x119 : (Int × Int × Int)) (i170 : Int) (rec172 : (Int → Option Bool)) (y176 : Link) (y183 : Plan) (rec199 : (Int → Option Bool)) (i197 : Int) : Option Bool :=
  bif decide (i197 < (y183.Ports.length : Int)) then ((idx y183.Ports i197).bind fun y203 => bif i43 != i47 then (bif y176.Up then (bif y203.Up then (bif y176.Seg == y203.Seg then (bif x107.1 != x119.1 then (law16_TreeNear_j4 k i197 rec199 true) else (bif decide (x107.2.1 > (wr (x119.2.1 + y176.Cost))) then (law16_TreeNear_j4 k i197 rec199 true) else (law16_TreeNear_j4 k i197 rec199 (decide (x119.2.1 > (wr (x107.2.1 + y203.Cost))))))) else (law16_TreeNear_j4 k i197 rec199 false)) else (law16_TreeNear_j4 k i197 rec199 false)) else (law16_TreeNear_j4 k i197 rec199 false)) else (law16_TreeNear_j4 k i197 rec199 false)) else (law16_TreeNear_j3 k i170 rec172)
def law16_TreeNear_s6 (k : Nat) (x9 : Lan) (i43 : Int) (i47 : Int) (x107 : (Int × Int × Int)) (x119 : (Int × Int × Int)) (y141 : Plan) (rec172 : (Int → Option Bool)) (i170 : Int) : Option Bool :=
  bif decide (i170 < (y141.Ports.length : Int)) then ((idx y141.Ports i170).bind fun y176 => (idx x9.Plans i47).bind fun y183 => loopN (fun _ => none) (law16_TreeNear_s5 k i43 i47 x107 x119 i170 rec172 y176 y183) k 0) else (law16_TreeNear_j2 k x9 i43 x107)
def law16_TreeNear_j7 (k : Nat) (x9 : Lan) (i43 : Int) (i47 : Int) (x107 : (Int × Int × Int)) (x119 : (Int × Int × Int)) (b137 : Bool) : Option Bool :=
  bif b137 then (some false) else ((idx x9.Plans i43).bind fun y141 => loopN (fun _ => none) (law16_TreeNear_s6 k x9 i43 i47 x107 x119 y141) k 0)
def law16_TreeNear (k : Nat) (p0 : Lan) (p1 : Int) (p2 : Int) : Option Bool :=
  (law16_few k p0).bind fun x9 => bif (x9.Plans.length : Int) == 0 then ((tree_Best k x9 0).bind fun x23 => (law16_alive k).bind fun x35 => some (x35 && (x23.2.2 != 0))) else ((irem p1 (x9.Plans.length : Int)).bind fun i41 => (irem (wr (i41 + (x9.Plans.length : Int))) (x9.Plans.length : Int)).bind fun i43 => (irem p2 (x9.Plans.length : Int)).bind fun i45 => (irem (wr (i45 + (x9.Plans.length : Int))) (x9.Plans.length : Int)).bind fun i47 => (tree_Best k x9 i43).bind fun x107 => (tree_Best k x9 i47).bind fun x119 => bif x107.2.2 != 0 then ((law16_alive k).bind fun x131 => some (x131 && (x107.2.2 == x119.2.2))) else (bif x119.2.2 != 0 then (law16_TreeNear_j7 k x9 i43 i47 x107 x119 true) else ((law16_alive k).bind fun x214 => law16_TreeNear_j7 k x9 i43 i47 x107 x119 (!x214))))
end Go.Proofs.Ytdiclbejalelfaa
