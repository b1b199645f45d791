/- PRINTED by a program of the claim's own: the types of the seat, and Go's functions as Lean functions, each with the proof that a call of it comes to that. -/
import Derived.Test.YtafjcdpkanigaaaFwQ
set_option linter.unusedVariables false
set_option linter.unusedSimpArgs false
set_option maxRecDepth 100000
namespace Go.Proofs.Ytafjcdpkanigaaa
open Go.RowKit
open Rep (R)
structure Entry where
  Mac : Int
  Port : Int
  Seen : Int
  Static : Bool
instance : Rep Entry where
  R _ e v := v = .agg #[.int .i64 e.Mac, .int .i64 e.Port, .int .i64 e.Seen, .bool e.Static]
  sz := 4
  mono _ h := h
  size h := by rw [h]; rfl
  one h := by
    rw [h]; intro c hc
    simp only [Value.cells, List.mem_toArray, List.mem_cons, List.not_mem_nil, or_false] at hc
    rcases hc with rfl | rfl | rfl | rfl <;> rfl
structure Table where
  Buckets : (List (List Entry))
  Slots : Int
  Age : Int
instance : Rep Table where
  R G e v := ∃ v0, v = .agg #[v0, .int .i64 e.Slots, .int .i64 e.Age] ∧ R G e.Buckets v0
  sz := 3
  mono hle h := by obtain ⟨v0, rfl, h0⟩ := h; exact ⟨_, rfl, Rep.mono hle h0⟩
  size h := by obtain ⟨v0, rfl, _⟩ := h; rfl
  one h := by
    obtain ⟨v0, rfl, h0⟩ := h
    obtain ⟨A0, c0, rfl, _⟩ := Sl.open h0
    intro c hc
    simp only [Value.cells, List.mem_toArray, List.mem_cons, List.not_mem_nil, or_false] at hc
    rcases hc with rfl | rfl | rfl <;> rfl
def law08_few_j1 (k : Nat) (p0 : Table) (l10 : (List (List Entry))) : Option Table :=
  some (⟨l10, p0.Slots, p0.Age⟩ : Table)
def law08_few_s2 (k : Nat) (p0 : Table) (l5 : (List (List Entry))) (rec27 : (Int → (List (List Entry)) → Option Table)) (i22 : Int) (l23 : (List (List Entry))) : Option Table :=
  bif decide (i22 < (l5.length : Int)) then ((idx l5 i22).bind fun y31 => (slc y31 0 (if 8 < (y31.length : Int) then 8 else (y31.length : Int))).bind fun l41 => (push l23 l41).bind fun l46 => rec27 (wr (i22 + 1)) l46) else (law08_few_j1 k p0 l23)
def law08_few (k : Nat) (p0 : Table) : Option Table :=
  (slc p0.Buckets 0 (if 20 < (p0.Buckets.length : Int) then 20 else (p0.Buckets.length : Int))).bind fun l5 => loopN (fun _ _ => none) (law08_few_s2 k p0 l5) k 0 ([])
def hash_isNumber (k : Nat) (p0 : Int) : Option Bool :=
  some (((decide (p0 ≥ 1)) && (decide (p0 ≤ 16))) && ((band .i64 p0 (wr (p0 - 1))) == 0))
def mac_Right (k : Nat) (p0 : Int) : Option Bool :=
  some ((decide (p0 ≥ 0)) && (decide (p0 ≤ 281474976710655)))
def mac_Bytes_j1 (k : Nat) (l9 : (List (IK .u8))) : Option (ByteArray × Int) :=
  some (strOf l9, 0)
def mac_Bytes_s2 (k : Nat) (p0 : Int) (rec27 : (Int → (List (IK .u8)) → Option (ByteArray × Int))) (i22 : Int) (l23 : (List (IK .u8))) : Option (ByteArray × Int) :=
  bif decide (i22 < 6) then ((ishr p0 (wr (8 * (wr (5 - i22))))).bind fun i31 => (idx l23 i22).bind fun y33 => (upd l23 i22 (⟨IntKind.u8.wrap i31⟩ : IK .u8)).bind fun l42 => rec27 (wr (i22 + 1)) l42) else (mac_Bytes_j1 k l23)
def mac_Bytes (k : Nat) (p0 : Int) : Option (ByteArray × Int) :=
  (mac_Right k p0).bind fun x1 => bif !x1 then (some (⟨#[]⟩, 1)) else (loopN (fun _ _ => none) (mac_Bytes_s2 k p0) k 0 (List.replicate 6 (⟨0⟩ : IK .u8)))
def hash_Sum_j1 (k : Nat) (i11 : (IK .u32)) : Option (Int × Int) :=
  some (wr i11.n, 0)
def hash_Sum_s2 (k : Nat) (x1 : (ByteArray × Int)) (rec18 : ((IK .u32) → Int → Option (Int × Int))) (i15 : (IK .u32)) (i16 : Int) : Option (Int × Int) :=
  bif decide (i16 < (x1.1.size : Int)) then ((sidx x1.1 i16).bind fun i22 => rec18 (⟨IntKind.u32.wrap ((bxor .u32 i15.n (IntKind.u32.wrap i22)) * 16777619)⟩ : IK .u32) (wr (i16 + 1))) else (hash_Sum_j1 k i15)
def hash_Sum (k : Nat) (p0 : Int) : Option (Int × Int) :=
  (mac_Bytes k p0).bind fun x1 => bif x1.2 != 0 then (some (0, x1.2)) else (loopN (fun _ _ => none) (hash_Sum_s2 k x1) k (⟨2166136261⟩ : IK .u32) 0)
def hash_Bucket (k : Nat) (p0 : Int) (p1 : Int) : Option (Int × Int) :=
  (hash_isNumber k p1).bind fun x1 => bif !x1 then (some (0, 2)) else ((hash_Sum k p0).bind fun x7 => some (band .i64 x7.1 (wr (p1 - 1)), x7.2))
def fdb_in (k : Nat) (p0 : Int) (p1 : Int) (p2 : Int) : Option Bool :=
  some ((decide (p0 ≥ p1)) && (decide (p0 ≤ p2)))
def fdb_sizes (k : Nat) (p0 : Int) (p1 : Int) (p2 : Int) : Option Bool :=
  (hash_Bucket k 0 p0).bind fun x1 => bif x1.2 == 0 then ((fdb_in k p1 1 4).bind fun x11 => bif x11 then ((fdb_in k p2 1 1048576).bind fun x17 => some x17) else (some false)) else (some false)
def fdb_New (k : Nat) (p0 : Int) (p1 : Int) (p2 : Int) : Option (Table × Int) :=
  (fdb_sizes k p0 p1 p2).bind fun x1 => bif !x1 then (some ((⟨[], 0, 0⟩ : Table), 2)) else ((mk p0 ([] : (List Entry))).bind fun l7 => some ((⟨l7, p1, p2⟩ : Table), 0))
def mac_Class (k : Nat) (p0 : Int) : Option (Int × Int) :=
  (mac_Right k p0).bind fun x1 => bif !x1 then (some (0, 1)) else (bif (bandnot .i64 p0 15) == 1652522221568 then (some (2, 0)) else (some (band .i64 (p0.fdiv (2 ^ (min 40 64))) 1, 0)))
def fdb_isMac (k : Nat) (p0 : Int) : Option Bool :=
  (mac_Class k p0).bind fun x1 => some ((x1.2 == 0) && (x1.1 == 0))
def fdb_isPort (k : Nat) (p0 : Int) : Option Bool :=
  (fdb_in k p0 0 7).bind fun x1 => some x1
def fdb_isTime (k : Nat) (p0 : Int) : Option Bool :=
  (fdb_in k p0 0 1099511627776).bind fun x1 => some x1
def fdb_Right_j1 (k : Nat) : Option Bool :=
  some true
def fdb_Right_j2 (k : Nat) (p0 : Table) (i14 : Int) (rec16 : (Int → Option Bool)) (y20 : (List Entry)) (m30 : (List (Int × Int))) : Option Bool :=
  bif decide ((y20.length : Int) > p0.Slots) then (some false) else (rec16 (wr (i14 + 1)))
def fdb_Right_s3 (k : Nat) (p0 : Table) (i14 : Int) (rec16 : (Int → Option Bool)) (y20 : (List Entry)) (rec37 : (Int → (List (Int × Int)) → Option Bool)) (i34 : Int) (m35 : (List (Int × Int))) : Option Bool :=
  bif decide (i34 < (y20.length : Int)) then ((idx y20 i34).bind fun y41 => (fdb_isMac k y41.Mac).bind fun x48 => bif !x48 then (some false) else ((fdb_isPort k y41.Port).bind fun x54 => bif !x54 then (some false) else ((fdb_isTime k y41.Seen).bind fun x60 => bif !x60 then (some false) else (bif y41.Static then (bif xorB true ((y41.Mac == y41.Mac) && ((y41.Port == y41.Port) && ((y41.Seen == 0) && ((y41.Static == true) && true)))) then (some false) else ((hash_Bucket k y41.Mac (p0.Buckets.length : Int)).bind fun x66 => bif x66.1 != i14 then (some false) else (bif decide (((mget (mset m35 y41.Mac (wr (((mget m35 y41.Mac).getD 0) + 1))) y41.Mac).getD 0) > 1) then (some false) else (rec37 (wr (i34 + 1)) (mset m35 y41.Mac (wr (((mget m35 y41.Mac).getD 0) + 1))))))) else ((hash_Bucket k y41.Mac (p0.Buckets.length : Int)).bind fun x76 => bif x76.1 != i14 then (some false) else (bif decide (((mget (mset m35 y41.Mac (wr (((mget m35 y41.Mac).getD 0) + 1))) y41.Mac).getD 0) > 1) then (some false) else (rec37 (wr (i34 + 1)) (mset m35 y41.Mac (wr (((mget m35 y41.Mac).getD 0) + 1)))))))))) else (fdb_Right_j2 k p0 i14 rec16 y20 m35)
def fdb_Right_s4 (k : Nat) (p0 : Table) (rec16 : (Int → Option Bool)) (i14 : Int) : Option Bool :=
  bif decide (i14 < (p0.Buckets.length : Int)) then ((idx p0.Buckets i14).bind fun y20 => loopN (fun _ _ => none) (fdb_Right_s3 k p0 i14 rec16 y20) k 0 ([])) else (fdb_Right_j1 k)
def fdb_Right (k : Nat) (p0 : Table) : Option Bool :=
  (fdb_sizes k (p0.Buckets.length : Int) p0.Slots p0.Age).bind fun x5 => bif !x5 then (some false) else (loopN (fun _ => none) (fdb_Right_s4 k p0) k 0)
def fdb_place_1 (k : Nat) (p0 : Entry) (p1 : Int) : Option Bool :=
  some (p0.Mac == p1)
def slices_IndexFunc_j1 (k : Nat) : Option Int :=
  some (-1)
def slices_IndexFunc_s2 (k : Nat) (p0 : (List Entry)) (p1 : (Entry → Option Bool)) (rec13 : (Int → Option Int)) (i11 : Int) : Option Int :=
  bif decide (i11 < (p0.length : Int)) then ((idx p0 i11).bind fun y17 => (p1 y17).bind fun x24 => bif x24 then (some i11) else (rec13 (wr (i11 + 1)))) else (slices_IndexFunc_j1 k)
def slices_IndexFunc (k : Nat) (p0 : (List Entry)) (p1 : (Entry → Option Bool)) : Option Int :=
  loopN (fun _ => none) (slices_IndexFunc_s2 k p0 p1) k 0
def fdb_place (k : Nat) (p0 : Table) (p1 : Int) : Option (Int × Int) :=
  (hash_Bucket k p1 (p0.Buckets.length : Int)).bind fun x5 => (idx p0.Buckets x5.1).bind fun y15 => (slices_IndexFunc k y15 (fun (x30 : Entry) => fdb_place_1 k x30 p1)).bind fun x32 => some (x5.1, x32)
def fdb_pinned (k : Nat) (p0 : Table) (p1 : Int) : Option Bool :=
  (fdb_place k p0 p1).bind fun x5 => bif decide (x5.2 ≥ 0) then ((idx p0.Buckets x5.1).bind fun y15 => (idx y15 x5.2).bind fun y25 => some y25.Static) else (some false)
def slices_Clone (k : Nat) (p0 : List Entry) : Option (List Entry) :=
  cat [] p0
def lru_Right_j1 (k : Nat) (p0 : (List Int)) (m4 : (List (Int × Int))) : Option Bool :=
  some (decide ((p0.length : Int) ≤ 64))
def lru_Right_s2 (k : Nat) (p0 : (List Int)) (rec11 : (Int → (List (Int × Int)) → Option Bool)) (i8 : Int) (m9 : (List (Int × Int))) : Option Bool :=
  bif decide (i8 < (p0.length : Int)) then ((idx p0 i8).bind fun y15 => bif decide (y15 < 0) then (some false) else (bif decide (((mget (mset m9 y15 (wr (((mget m9 y15).getD 0) + 1))) y15).getD 0) > 1) then (some false) else (rec11 (wr (i8 + 1)) (mset m9 y15 (wr (((mget m9 y15).getD 0) + 1)))))) else (lru_Right_j1 k p0 m9)
def lru_Right (k : Nat) (p0 : (List Int)) : Option Bool :=
  loopN (fun _ _ => none) (lru_Right_s2 k p0) k 0 ([])
def slices_Clone_59 (k : Nat) (p0 : List Int) : Option (List Int) :=
  cat [] p0
def lru_order_without_1 (k : Nat) (p0 : Int) (p1 : Int) : Option Bool :=
  some (p0 == p1)
def slices_IndexFunc_63_j1 (k : Nat) : Option Int :=
  some (-1)
def slices_IndexFunc_63_s2 (k : Nat) (p0 : (List Int)) (p1 : (Int → Option Bool)) (rec13 : (Int → Option Int)) (i11 : Int) : Option Int :=
  bif decide (i11 < (p0.length : Int)) then ((idx p0 i11).bind fun y17 => (p1 y17).bind fun x24 => bif x24 then (some i11) else (rec13 (wr (i11 + 1)))) else (slices_IndexFunc_63_j1 k)
def slices_IndexFunc_63 (k : Nat) (p0 : (List Int)) (p1 : (Int → Option Bool)) : Option Int :=
  loopN (fun _ => none) (slices_IndexFunc_63_s2 k p0 p1) k 0
def lru_order_without_j1 (k : Nat) (l22 : (List Int)) : Option (List Int) :=
  some l22
def lru_order_without_j2 (k : Nat) (i35 : Int) (l36 : (List Int)) : Option (List Int) :=
  (clr l36 i35 0).bind fun l42 => (slc l42 0 i35).bind fun l46 => lru_order_without_j1 k l46
def lru_order_without_j3 (k : Nat) (i52 : Int) (rec57 : (Int → Int → (List Int) → Option (List Int))) (i76 : Int) (l77 : (List Int)) : Option (List Int) :=
  rec57 i76 (wr (i52 + 1)) l77
def lru_order_without_s4 (k : Nat) (p1 : Int) (rec57 : (Int → Int → (List Int) → Option (List Int))) (i51 : Int) (i52 : Int) (l53 : (List Int)) : Option (List Int) :=
  bif decide (i52 < ((l53.length : Nat) : Int)) then ((idx l53 i52).bind fun y61 => ((fun (x17 : Int) => lru_order_without_1 k x17 p1) y61).bind fun x70 => bif !x70 then ((idx l53 i51).bind fun y83 => (upd l53 i51 y61).bind fun l92 => lru_order_without_j3 k i52 rec57 (wr (i51 + 1)) l92) else (lru_order_without_j3 k i52 rec57 i51 l53)) else (lru_order_without_j2 k i51 l53)
def lru_order_without (k : Nat) (p0 : (List Int)) (p1 : Int) : Option (List Int) :=
  (slices_Clone_59 k p0).bind fun x4 => (slices_IndexFunc_63 k x4 (fun (x17 : Int) => lru_order_without_1 k x17 p1)).bind fun x33 => bif x33 == (-1) then (lru_order_without_j1 k x4) else (loopN (fun _ _ _ => none) (lru_order_without_s4 k p1) k x33 (wr (x33 + 1)) x4)
def lru_order_use (k : Nat) (p0 : (List Int)) (p1 : Int) : Option (List Int) :=
  (lru_order_without k p0 p1).bind fun x4 => (cat ([p1] : List Int) x4).bind fun l13 => some l13
def lru_Use (k : Nat) (p0 : (List Int)) (p1 : Int) : Option ((List Int) × Int) :=
  (lru_Right k p0).bind fun x4 => bif (!x4) || (decide (p1 < 0)) then (some ([], 1)) else ((lru_order_use k p0 p1).bind fun x10 => bif decide ((x10.length : Int) > 64) then (some ([], 5)) else (some (x10, 0)))
def fdb_own (k : Nat) (p0 : Table) : Option Table :=
  (mk (p0.Buckets.length : Int) ([] : (List Entry))).bind fun l5 => some (⟨(cpy l5 p0.Buckets), p0.Slots, p0.Age⟩ : Table)
def slices_Clone_41 (k : Nat) (p0 : List Int) : Option (List Int) :=
  cat [] p0
def lru_Drop (k : Nat) (p0 : (List Int)) (p1 : Int) : Option ((List Int) × Int) :=
  (lru_Right k p0).bind fun x4 => bif (!x4) || (decide (p1 < 0)) then (some ([], 1)) else ((lru_order_without k p0 p1).bind fun x10 => bif (x10.length : Int) == (p0.length : Int) then (some ([], 4)) else (some (x10, 0)))
def fdb_put_j1 (k : Nat) (p0 : Table) (x5 : (Int × Int)) (l91 : (List Entry)) : Option (Table × Bool) :=
  (fdb_own k p0).bind fun x97 => (idx x97.Buckets x5.1).bind fun y108 => (upd x97.Buckets x5.1 l91).bind fun l126 => some ((⟨l126, x97.Slots, x97.Age⟩ : Table), true)
def fdb_put_s2 (k : Nat) (p0 : Table) (x5 : (Int × Int)) (l55 : (List Entry)) (l78 : (List Int)) (rec141 : (Int → (List Entry) → Option (Table × Bool))) (i136 : Int) (l137 : (List Entry)) : Option (Table × Bool) :=
  bif decide (i136 < (l78.length : Int)) then ((idx l78 i136).bind fun y145 => (idx l55 y145).bind fun y152 => (push l137 y152).bind fun l161 => rec141 (wr (i136 + 1)) l161) else (fdb_put_j1 k p0 x5 l137)
def fdb_put_j3 (k : Nat) (p0 : Table) (x5 : (Int × Int)) (l55 : (List Entry)) (l78 : (List Int)) (l82 : (List (List Entry))) (i86 : Int) (i87 : Int) : Option (Table × Bool) :=
  loopN (fun _ _ => none) (fdb_put_s2 k p0 x5 l55 l78) k 0 ([])
def fdb_put_j4 (k : Nat) (p0 : Table) (x5 : (Int × Int)) (l55 : (List Entry)) (x65 : ((List Int) × Int)) (l180 : (List Int)) : Option (Table × Bool) :=
  bif (l180.length : Int) == 0 then (some (p0, false)) else ((idx l180 (wr ((l180.length : Int) - 1))).bind fun y187 => (lru_Drop k x65.1 y187).bind fun x194 => fdb_put_j3 k p0 x5 l55 x194.1 ([]) 0 0)
def fdb_put_s5 (k : Nat) (p0 : Table) (x5 : (Int × Int)) (l55 : (List Entry)) (x65 : ((List Int) × Int)) (rec212 : ((List Int) → Option (Table × Bool))) (l207 : (List Int)) : Option (Table × Bool) :=
  bif decide ((l207.length : Int) > 0) then ((idx l207 (wr ((l207.length : Int) - 1))).bind fun y222 => (idx l55 y222).bind fun y229 => bif y229.Static then ((slc l207 0 (wr ((l207.length : Int) - 1))).bind fun l238 => rec212 l238) else (fdb_put_j4 k p0 x5 l55 x65 l207)) else (fdb_put_j4 k p0 x5 l55 x65 l207)
def fdb_put_j6 (k : Nat) (p0 : Table) (p1 : Entry) (x5 : (Int × Int)) (l33 : (List Int)) (i39 : Int) (l40 : (List Entry)) : Option (Table × Bool) :=
  (idx l40 i39).bind fun y46 => (upd l40 i39 p1).bind fun l55 => (lru_Use k l33 i39).bind fun x65 => bif decide ((x65.1.length : Int) > p0.Slots) then ((slc x65.1 1 (x65.1.length : Int)).bind fun l167 => (slices_Clone_41 k l167).bind fun x172 => loopN (fun _ => none) (fdb_put_s5 k p0 x5 l55 x65) k x172) else (fdb_put_j3 k p0 x5 l55 x65.1 ([]) 0 0)
def fdb_put_j7 (k : Nat) (p0 : Table) (p1 : Entry) (x5 : (Int × Int)) (x25 : (List Entry)) (l33 : (List Int)) : Option (Table × Bool) :=
  bif decide (x5.2 < 0) then ((push x25 p1).bind fun l243 => fdb_put_j6 k p0 p1 x5 l33 ((x25.length : Nat) : Int) l243) else (fdb_put_j6 k p0 p1 x5 l33 x5.2 x25)
def fdb_put_s8 (k : Nat) (p0 : Table) (p1 : Entry) (x5 : (Int × Int)) (x25 : (List Entry)) (rec254 : (Int → (List Int) → Option (Table × Bool))) (i249 : Int) (l250 : (List Int)) : Option (Table × Bool) :=
  bif decide (i249 < ((x25.length : Nat) : Int)) then ((push l250 i249).bind fun l258 => rec254 (wr (i249 + 1)) l258) else (fdb_put_j7 k p0 p1 x5 x25 l250)
def fdb_put (k : Nat) (p0 : Table) (p1 : Entry) : Option (Table × Bool) :=
  (fdb_place k p0 p1.Mac).bind fun x5 => (idx p0.Buckets x5.1).bind fun y15 => (slices_Clone k y15).bind fun x25 => loopN (fun _ _ => none) (fdb_put_s8 k p0 p1 x5 x25) k 0 ([])
def fdb_Learn_j1 (k : Nat) (l35 : (List (List Entry))) (i39 : Int) (i40 : Int) : Option (Table × Int) :=
  some ((⟨l35, i39, i40⟩ : Table), 0)
def fdb_Learn (k : Nat) (p0 : Table) (p1 : Int) (p2 : Int) (p3 : Int) : Option (Table × Int) :=
  (fdb_Right k p0).bind fun x5 => bif !x5 then (some ((⟨[], 0, 0⟩ : Table), 1)) else ((fdb_isMac k p1).bind fun x11 => bif !x11 then (some ((⟨[], 0, 0⟩ : Table), 1)) else ((fdb_isPort k p2).bind fun x17 => bif !x17 then (some ((⟨[], 0, 0⟩ : Table), 1)) else ((fdb_isTime k p3).bind fun x23 => bif !x23 then (some ((⟨[], 0, 0⟩ : Table), 1)) else ((fdb_pinned k p0 p1).bind fun x29 => bif !x29 then ((fdb_put k p0 (⟨p1, p2, p3, false⟩ : Entry)).bind fun x44 => fdb_Learn_j1 k x44.1.Buckets x44.1.Slots x44.1.Age) else (fdb_Learn_j1 k p0.Buckets p0.Slots p0.Age)))))
def fdb_Find (k : Nat) (p0 : Table) (p1 : Int) (p2 : Int) : Option (Int × Int) :=
  (fdb_Right k p0).bind fun x5 => bif !x5 then (some (0, 1)) else ((fdb_isMac k p1).bind fun x11 => bif !x11 then (some (0, 1)) else ((fdb_isTime k p2).bind fun x17 => bif !x17 then (some (0, 1)) else ((fdb_place k p0 p1).bind fun x23 => bif decide (x23.2 < 0) then (some ((-1), 0)) else ((idx p0.Buckets x23.1).bind fun y33 => (idx y33 x23.2).bind fun y43 => bif y43.Static then (some (y43.Port, 0)) else (bif decide ((wr (p2 - y43.Seen)) ≤ p0.Age) then (some (y43.Port, 0)) else (some ((-1), 0)))))))
def ref07_Number (k : Nat) (p0 : Int) : Option Bool :=
  some (((((p0 == 1) || (p0 == 2)) || (p0 == 4)) || (p0 == 8)) || (p0 == 16))
def ref08_Sizes (k : Nat) (p0 : Int) (p1 : Int) (p2 : Int) : Option Bool :=
  (ref07_Number k p0).bind fun x1 => some ((((x1 && (decide (p1 ≥ 1))) && (decide (p1 ≤ 4))) && (decide (p2 ≥ 1))) && (decide (p2 ≤ 1048576)))
def ref01_Right (k : Nat) (p0 : Int) : Option Bool :=
  some ((decide (p0 ≥ 0)) && (decide (p0 < 281474976710656)))
def ref01_Class (k : Nat) (p0 : Int) : Option Int :=
  (iquo p0 16).bind fun i1 => bif i1 == 103282638848 then (some 2) else ((iquo p0 1099511627776).bind fun i3 => (irem i3 2).bind fun i5 => bif i5 == 1 then (some 1) else (some 0))
def ref08_Mac (k : Nat) (p0 : Int) : Option Bool :=
  (ref01_Right k p0).bind fun x1 => bif x1 then ((ref01_Class k p0).bind fun x7 => some (x7 == 0)) else (some false)
def ref08_Port (k : Nat) (p0 : Int) : Option Bool :=
  some ((decide (p0 ≥ 0)) && (decide (p0 ≤ 7)))
def ref08_Time (k : Nat) (p0 : Int) : Option Bool :=
  some ((decide (p0 ≥ 0)) && (decide (p0 ≤ 1099511627776)))
def ref01_Bytes_j1 (k : Nat) (s1 : ByteArray) : Option ByteArray :=
  some s1
def ref01_Bytes_s2 (k : Nat) (rec9 : (Int → ByteArray → Int → Option ByteArray)) (i5 : Int) (s6 : ByteArray) (i7 : Int) : Option ByteArray :=
  bif decide (i7 < 6) then ((irem i5 256).bind fun i13 => (strAdd (strOf ([(⟨IntKind.u8.wrap i13⟩ : IK .u8)] : List (IK .u8))) s6).bind fun s21 => (iquo i5 256).bind fun i23 => rec9 i23 s21 (wr (i7 + 1))) else (ref01_Bytes_j1 k s6)
def ref01_Bytes (k : Nat) (p0 : Int) : Option ByteArray :=
  loopN (fun _ _ _ => none) (ref01_Bytes_s2 k) k p0 (⟨#[]⟩) 0
def ref07_turned_j1 (k : Nat) (i1 : Int) : Option Int :=
  some i1
def ref07_turned_j2 (k : Nat) (i5 : Int) (i6 : Int) (i8 : Int) (i9 : Int) (rec11 : (Int → Int → Int → Int → Int → Option Int)) (i19 : Int) : Option Int :=
  (iquo i5 2).bind fun i23 => (iquo i6 2).bind fun i25 => rec11 i23 i25 i19 (wr (2 * i8)) (wr (i9 + 1))
def ref07_turned_s3 (k : Nat) (rec11 : (Int → Int → Int → Int → Int → Option Int)) (i5 : Int) (i6 : Int) (i7 : Int) (i8 : Int) (i9 : Int) : Option Int :=
  bif decide (i9 < 32) then ((irem i5 2).bind fun i15 => (irem i6 2).bind fun i17 => bif i15 != i17 then (ref07_turned_j2 k i5 i6 i8 i9 rec11 (wr (i7 + i8))) else (ref07_turned_j2 k i5 i6 i8 i9 rec11 i7)) else (ref07_turned_j1 k i7)
def ref07_turned (k : Nat) (p0 : Int) (p1 : Int) : Option Int :=
  loopN (fun _ _ _ _ _ => none) (ref07_turned_s3 k) k p0 p1 0 1 0
def ref07_Sum_j1 (k : Nat) (i7 : Int) : Option Int :=
  some i7
def ref07_Sum_s2 (k : Nat) (x1 : ByteArray) (rec14 : (Int → Int → Option Int)) (i11 : Int) (i12 : Int) : Option Int :=
  bif decide (i12 < 6) then ((sidx x1 i12).bind fun i18 => (ref07_turned k i11 (wr i18)).bind fun x20 => (irem (wr (x20 * 16777619)) 4294967296).bind fun i26 => rec14 i26 (wr (i12 + 1))) else (ref07_Sum_j1 k i11)
def ref07_Sum (k : Nat) (p0 : Int) : Option Int :=
  (ref01_Bytes k p0).bind fun x1 => loopN (fun _ _ => none) (ref07_Sum_s2 k x1) k 2166136261 0
def ref07_Bucket (k : Nat) (p0 : Int) (p1 : Int) : Option Int :=
  (ref07_Sum k p0).bind fun x1 => (irem x1 p1).bind fun i7 => some i7
def ref08_entry (k : Nat) (p0 : Entry) (p1 : Int) (p2 : Int) : Option Bool :=
  (ref08_Mac k p0.Mac).bind fun x1 => bif x1 then ((ref08_Port k p0.Port).bind fun x7 => bif x7 then ((ref08_Time k p0.Seen).bind fun x13 => bif x13 then (bif !p0.Static then ((ref07_Bucket k p0.Mac p2).bind fun x19 => some (x19 == p1)) else (bif p0.Seen == 0 then ((ref07_Bucket k p0.Mac p2).bind fun x25 => some (x25 == p1)) else (some false))) else (some false)) else (some false)) else (some false)
def ref08_Place_j1 (k : Nat) : Option Int :=
  some (-1)
def ref08_Place_s2 (k : Nat) (p0 : (List Entry)) (p1 : Int) (rec9 : (Int → Option Int)) (i7 : Int) : Option Int :=
  bif decide (i7 < (p0.length : Int)) then ((idx p0 i7).bind fun y13 => bif y13.Mac == p1 then (some i7) else (rec9 (wr (i7 + 1)))) else (ref08_Place_j1 k)
def ref08_Place (k : Nat) (p0 : (List Entry)) (p1 : Int) : Option Int :=
  loopN (fun _ => none) (ref08_Place_s2 k p0 p1) k 0
def ref08_Right_j1 (k : Nat) : Option Bool :=
  some true
def ref08_Right_j2 (k : Nat) (i14 : Int) (rec16 : (Int → Option Bool)) : Option Bool :=
  rec16 (wr (i14 + 1))
def ref08_Right_s3 (k : Nat) (p0 : Table) (i14 : Int) (rec16 : (Int → Option Bool)) (y20 : (List Entry)) (rec35 : (Int → Option Bool)) (i33 : Int) : Option Bool :=
  bif decide (i33 < (y20.length : Int)) then ((idx y20 i33).bind fun y39 => (ref08_entry k y39 i14 (p0.Buckets.length : Int)).bind fun x46 => bif !x46 then (some false) else ((slc y20 0 i33).bind fun l87 => (ref08_Place k l87 y39.Mac).bind fun x92 => bif decide (x92 ≥ 0) then (some false) else (rec35 (wr (i33 + 1))))) else (ref08_Right_j2 k i14 rec16)
def ref08_Right_s4 (k : Nat) (p0 : Table) (rec16 : (Int → Option Bool)) (i14 : Int) : Option Bool :=
  bif decide (i14 < (p0.Buckets.length : Int)) then ((idx p0.Buckets i14).bind fun y20 => bif decide ((y20.length : Int) > p0.Slots) then (some false) else (loopN (fun _ => none) (ref08_Right_s3 k p0 i14 rec16 y20) k 0)) else (ref08_Right_j1 k)
def ref08_Right (k : Nat) (p0 : Table) : Option Bool :=
  (ref08_Sizes k (p0.Buckets.length : Int) p0.Slots p0.Age).bind fun x5 => bif !x5 then (some false) else (loopN (fun _ => none) (ref08_Right_s4 k p0) k 0)
def law08_alive_j1 (k : Nat) (x1 : (Table × Int)) (l15 : (List (List Entry))) (i19 : Int) (i20 : Int) : Option Bool :=
  (fdb_Find k (⟨l15, i19, i20⟩ : Table) 2 5).bind fun x24 => (fdb_Find k (⟨l15, i19, i20⟩ : Table) 4 5).bind fun x34 => some (((((x1.2 == 0) && (x24.2 == 0)) && (x34.2 == 0)) && (x24.1 == 1)) && (x34.1 == (-1)))
def law08_alive_s2 (k : Nat) (x1 : (Table × Int)) (rec52 : (Int → (List (List Entry)) → Int → Int → Option Bool)) (i44 : Int) (l45 : (List (List Entry))) (i49 : Int) (i50 : Int) : Option Bool :=
  bif decide (i44 < ((4 : Nat) : Int)) then ((idx ([2, 4, 2, 6] : List Int) i44).bind fun y56 => (fdb_Learn k (⟨l45, i49, i50⟩ : Table) y56 1 0).bind fun x65 => bif x65.2 != 0 then (some false) else (rec52 (wr (i44 + 1)) x65.1.Buckets x65.1.Slots x65.1.Age)) else (law08_alive_j1 k x1 l45 i49 i50)
def law08_alive (k : Nat)  : Option Bool :=
  (fdb_New k 1 2 9).bind fun x1 => loopN (fun _ _ _ _ => none) (law08_alive_s2 k x1) k 0 x1.1.Buckets x1.1.Slots x1.1.Age
def ref08_rows_j1 (k : Nat) : Option Bool :=
  some true
def ref08_rows_s2 (k : Nat) (p0 : (List Entry)) (p1 : (List Entry)) (rec12 : (Int → Option Bool)) (i10 : Int) : Option Bool :=
  bif decide (i10 < (p0.length : Int)) then ((idx p0 i10).bind fun y16 => (idx p1 i10).bind fun y29 => bif xorB true ((y16.Mac == y29.Mac) && ((y16.Port == y29.Port) && ((y16.Seen == y29.Seen) && ((y16.Static == y29.Static) && true)))) then (some false) else (rec12 (wr (i10 + 1)))) else (ref08_rows_j1 k)
def ref08_rows (k : Nat) (p0 : (List Entry)) (p1 : (List Entry)) : Option Bool :=
  bif (p0.length : Int) != (p1.length : Int) then (some false) else (loopN (fun _ => none) (ref08_rows_s2 k p0 p1) k 0)
def ref08_Same_j1 (k : Nat) : Option Bool :=
  some true
def ref08_Same_s2 (k : Nat) (p0 : Table) (p1 : Table) (rec14 : (Int → Option Bool)) (i12 : Int) : Option Bool :=
  bif decide (i12 < (p0.Buckets.length : Int)) then ((idx p0.Buckets i12).bind fun y18 => (idx p1.Buckets i12).bind fun y34 => (ref08_rows k y18 y34).bind fun x50 => bif !x50 then (some false) else (rec14 (wr (i12 + 1)))) else (ref08_Same_j1 k)
def ref08_Same (k : Nat) (p0 : Table) (p1 : Table) : Option Bool :=
  bif p0.Slots != p1.Slots then (some false) else (bif p0.Age != p1.Age then (some false) else (bif (p0.Buckets.length : Int) != (p1.Buckets.length : Int) then (some false) else (loopN (fun _ => none) (ref08_Same_s2 k p0 p1) k 0)))
def ref08_bucket (k : Nat) (p0 : Table) (p1 : Int) : Option (List Entry) :=
  (ref07_Bucket k p1 (p0.Buckets.length : Int)).bind fun x5 => (idx p0.Buckets x5).bind fun y7 => some y7
def ref08_Old (k : Nat) (p0 : Table) (p1 : Entry) (p2 : Int) : Option Bool :=
  bif !p1.Static then (some (decide ((wr (p2 - p1.Seen)) > p0.Age))) else (some false)
def ref08_Find (k : Nat) (p0 : Table) (p1 : Int) (p2 : Int) : Option Int :=
  (ref08_bucket k p0 p1).bind fun x5 => (ref08_Place k x5 p1).bind fun x14 => bif decide (x14 < 0) then (some (-1)) else ((idx x5 x14).bind fun y45 => (ref08_Old k p0 y45 p2).bind fun x58 => bif x58 then (some (-1)) else ((idx x5 x14).bind fun y88 => some y88.Port))
def ref08_without_j1 (k : Nat) (l4 : (List Entry)) : Option (List Entry) :=
  some l4
def ref08_without_j2 (k : Nat) (i16 : Int) (rec21 : (Int → (List Entry) → Option (List Entry))) (l32 : (List Entry)) : Option (List Entry) :=
  rec21 (wr (i16 + 1)) l32
def ref08_without_s3 (k : Nat) (p0 : (List Entry)) (p1 : Int) (rec21 : (Int → (List Entry) → Option (List Entry))) (i16 : Int) (l17 : (List Entry)) : Option (List Entry) :=
  bif decide (i16 < (p0.length : Int)) then ((idx p0 i16).bind fun y25 => bif y25.Mac != p1 then ((push l17 y25).bind fun l38 => ref08_without_j2 k i16 rec21 l38) else (ref08_without_j2 k i16 rec21 l17)) else (ref08_without_j1 k l17)
def ref08_without (k : Nat) (p0 : (List Entry)) (p1 : Int) : Option (List Entry) :=
  loopN (fun _ _ => none) (ref08_without_s3 k p0 p1) k 0 ([] : List Entry)
def ref08_with_j1 (k : Nat) (p0 : Table) (l8 : (List (List Entry))) : Option Table :=
  some (⟨l8, p0.Slots, p0.Age⟩ : Table)
def ref08_with_j2 (k : Nat) (i20 : Int) (l21 : (List (List Entry))) (rec25 : (Int → (List (List Entry)) → Option Table)) (l45 : (List Entry)) : Option Table :=
  (push l21 l45).bind fun l52 => rec25 (wr (i20 + 1)) l52
def ref08_with_s3 (k : Nat) (p0 : Table) (p1 : Int) (p2 : (List Entry)) (rec25 : (Int → (List (List Entry)) → Option Table)) (i20 : Int) (l21 : (List (List Entry))) : Option Table :=
  bif decide (i20 < (p0.Buckets.length : Int)) then ((idx p0.Buckets i20).bind fun y29 => (ref07_Bucket k p1 (p0.Buckets.length : Int)).bind fun x39 => bif i20 == x39 then (ref08_with_j2 k i20 l21 rec25 p2) else (ref08_with_j2 k i20 l21 rec25 y29)) else (ref08_with_j1 k p0 l21)
def ref08_with (k : Nat) (p0 : Table) (p1 : Int) (p2 : (List Entry)) : Option Table :=
  loopN (fun _ _ => none) (ref08_with_s3 k p0 p1 p2) k 0 ([] : List (List Entry))
def ref08_last_j1 (k : Nat) (i4 : Int) : Option Int :=
  some i4
def ref08_last_j2 (k : Nat) (i9 : Int) (rec11 : (Int → Int → Option Int)) (i22 : Int) : Option Int :=
  rec11 i22 (wr (i9 + 1))
def ref08_last_s3 (k : Nat) (p0 : (List Entry)) (rec11 : (Int → Int → Option Int)) (i8 : Int) (i9 : Int) : Option Int :=
  bif decide (i9 < (p0.length : Int)) then ((idx p0 i9).bind fun y15 => bif !y15.Static then (ref08_last_j2 k i9 rec11 i9) else (ref08_last_j2 k i9 rec11 i8)) else (ref08_last_j1 k i8)
def ref08_last (k : Nat) (p0 : (List Entry)) : Option Int :=
  loopN (fun _ _ => none) (ref08_last_s3 k p0) k (-1) 0
def ref08_put_j1 (k : Nat) (p0 : Table) (p1 : Entry) (l47 : (List Entry)) (l51 : (List (List Entry))) (i55 : Int) (i56 : Int) : Option (Table × Bool) :=
  (cat ([p1] : List Entry) l47).bind fun l60 => (ref08_with k p0 p1.Mac l60).bind fun x65 => some (x65, true)
def ref08_put (k : Nat) (p0 : Table) (p1 : Entry) : Option (Table × Bool) :=
  (ref08_bucket k p0 p1.Mac).bind fun x5 => (ref08_without k x5 p1.Mac).bind fun x10 => bif (x10.length : Int) == p0.Slots then ((ref08_last k x10).bind fun x108 => bif decide (x108 < 0) then (some (p0, false)) else ((idx x10 x108).bind fun y114 => (ref08_without k x10 y114.Mac).bind fun x121 => ref08_put_j1 k p0 p1 x121 ([]) 0 0)) else (ref08_put_j1 k p0 p1 x10 ([]) 0 0)
def ref08_Learn (k : Nat) (p0 : Table) (p1 : Int) (p2 : Int) (p3 : Int) : Option Table :=
  (ref08_bucket k p0 p1).bind fun x5 => (ref08_Place k x5 p1).bind fun x14 => bif decide (x14 ≥ 0) then ((idx x5 x14).bind fun y20 => bif y20.Static then (some p0) else ((ref08_put k p0 (⟨p1, p2, p3, false⟩ : Entry)).bind fun x27 => some x27.1)) else ((ref08_put k p0 (⟨p1, p2, p3, false⟩ : Entry)).bind fun x41 => some x41.1)
def ref08_New_j1 (k : Nat) (i1 : Int) (i2 : Int) (l3 : (List (List Entry))) : Option Table :=
  some (⟨l3, i1, i2⟩ : Table)
def ref08_New_s2 (k : Nat) (p0 : Int) (rec22 : (Int → Int → Int → (List (List Entry)) → Option Table)) (i15 : Int) (i16 : Int) (i17 : Int) (l18 : (List (List Entry))) : Option Table :=
  bif decide (i15 < p0) then ((push l18 []).bind fun l26 => rec22 (wr (i15 + 1)) i16 i17 l26) else (ref08_New_j1 k i16 i17 l18)
def ref08_New (k : Nat) (p0 : Int) (p1 : Int) (p2 : Int) : Option Table :=
  loopN (fun _ _ _ _ => none) (ref08_New_s2 k p0) k 0 p1 p2 ([])
def law08_FdbLearns_j1 (k : Nat) (p4 : Int) (p5 : Int) (p6 : Int) (x5 : Table) (x29 : (Table × Int)) (x43 : (Int × Int)) : Option Bool :=
  (ref08_Right k x5).bind fun x129 => bif !x129 then (bif (x29.2 == 1) && (x43.2 == 1) then ((ref08_Same k x29.1 (⟨[], 0, 0⟩ : Table)).bind fun x135 => some (x135 && (x43.1 == 0))) else (some false)) else ((ref08_Mac k p4).bind fun x141 => bif !x141 then (bif (x29.2 == 1) && (x43.2 == 1) then ((ref08_Same k x29.1 (⟨[], 0, 0⟩ : Table)).bind fun x147 => some (x147 && (x43.1 == 0))) else (some false)) else ((ref08_Time k p6).bind fun x153 => bif !x153 then (bif (x29.2 == 1) && (x43.2 == 1) then ((ref08_Same k x29.1 (⟨[], 0, 0⟩ : Table)).bind fun x159 => some (x159 && (x43.1 == 0))) else (some false)) else (bif x43.2 != 0 then (some false) else ((ref08_Find k x5 p4 p6).bind fun x165 => bif x43.1 != x165 then (some false) else ((ref08_Port k p5).bind fun x171 => bif !x171 then (bif x29.2 == 1 then ((ref08_Same k x29.1 (⟨[], 0, 0⟩ : Table)).bind fun x177 => some x177) else (some false)) else (bif x29.2 == 0 then ((ref08_Learn k x5 p4 p5 p6).bind fun x184 => (ref08_Same k x29.1 x184).bind fun x189 => some x189) else (some false)))))))
def law08_FdbLearns (k : Nat) (p0 : Int) (p1 : Int) (p2 : Int) (p3 : Table) (p4 : Int) (p5 : Int) (p6 : Int) : Option Bool :=
  (law08_few k p3).bind fun x5 => (fdb_New k p0 p1 p2).bind fun x15 => (fdb_Learn k x5 p4 p5 p6).bind fun x29 => (fdb_Find k x5 p4 p6).bind fun x43 => (fdb_Right k x5).bind fun x53 => (ref08_Right k x5).bind fun x55 => bif x53 != x55 then (some false) else ((law08_alive k).bind fun x86 => bif !x86 then (some false) else ((ref08_Sizes k p0 p1 p2).bind fun x120 => bif !x120 then (bif x15.2 != 2 then (some false) else ((ref08_Same k x15.1 (⟨[], 0, 0⟩ : Table)).bind fun x255 => bif !x255 then (some false) else (law08_FdbLearns_j1 k p4 p5 p6 x5 x29 x43))) else (bif x15.2 != 0 then (some false) else ((ref08_New k p0 p1 p2).bind fun x286 => (ref08_Same k x15.1 x286).bind fun x291 => bif !x291 then (some false) else (law08_FdbLearns_j1 k p4 p5 p6 x5 x29 x43)))))
def law08_FdbCrowds_j1 (k : Nat) (x67 : (Int × Int)) (i77 : Int) : Option Bool :=
  (law08_alive k).bind fun x81 => some ((x81 && (x67.2 == 0)) && (x67.1 == i77))
def law08_FdbCrowds_j2 (k : Nat) (i6 : Int) (i10 : Int) (i14 : Int) (i18 : Int) (i22 : Int) (l57 : (List (List Entry))) (i61 : Int) (i62 : Int) (m63 : (List (Int × Int))) : Option Bool :=
  (fdb_Find k (⟨l57, i61, i62⟩ : Table) (wr (2 * i18)) i22).bind fun x67 => bif (decide (((mE (Value.int .i64) m63).length : Int) ≥ (wr (1 + i6)))) || (decide (i22 > (wr (1 + i10)))) then (law08_FdbCrowds_j1 k x67 (-1)) else (law08_FdbCrowds_j1 k x67 i14)
def law08_FdbCrowds_j3 (k : Nat) (i87 : Int) (rec96 : (Int → (List (List Entry)) → Int → Int → (List (Int × Int)) → Option Bool)) (l100 : (List (List Entry))) (i104 : Int) (i105 : Int) (m106 : (List (Int × Int))) : Option Bool :=
  rec96 (wr (i87 + 1)) l100 i104 i105 m106
def law08_FdbCrowds_s4 (k : Nat) (i6 : Int) (i10 : Int) (i14 : Int) (i18 : Int) (i22 : Int) (l52 : (List Int)) (rec96 : (Int → (List (List Entry)) → Int → Int → (List (Int × Int)) → Option Bool)) (i87 : Int) (l88 : (List (List Entry))) (i92 : Int) (i93 : Int) (m94 : (List (Int × Int))) : Option Bool :=
  bif decide (i87 < (l52.length : Int)) then ((idx l52 i87).bind fun y110 => (irem y110 12).bind fun i117 => (irem (wr (i117 + 12)) 12).bind fun i119 => bif (wr (2 * i119)) == (wr (2 * i18)) then (law08_FdbCrowds_j3 k i87 rec96 l88 i92 i93 m94) else ((fdb_Learn k (⟨l88, i92, i93⟩ : Table) (wr (2 * i119)) (wr (7 - i14)) 0).bind fun x121 => bif x121.2 != 0 then (some false) else (law08_FdbCrowds_j3 k i87 rec96 x121.1.Buckets x121.1.Slots x121.1.Age (mset m94 (wr (2 * i119)) (wr (((mget m94 (wr (2 * i119))).getD 0) + 1)))))) else (law08_FdbCrowds_j2 k i6 i10 i14 i18 i22 l88 i92 i93 m94)
def law08_FdbCrowds (k : Nat) (p0 : Int) (p1 : Int) (p2 : Int) (p3 : (List Int)) (p4 : Int) (p5 : Int) : Option Bool :=
  (irem p0 4).bind fun i4 => (irem (wr (i4 + 4)) 4).bind fun i6 => (irem p1 50).bind fun i8 => (irem (wr (i8 + 50)) 50).bind fun i10 => (irem p2 8).bind fun i12 => (irem (wr (i12 + 8)) 8).bind fun i14 => (irem p4 12).bind fun i16 => (irem (wr (i16 + 12)) 12).bind fun i18 => (irem p5 60).bind fun i20 => (irem (wr (i20 + 60)) 60).bind fun i22 => (fdb_New k 1 (wr (1 + i6)) (wr (1 + i10))).bind fun x24 => (fdb_Learn k x24.1 (wr (2 * i18)) i14 0).bind fun x38 => bif (x24.2 != 0) || (x38.2 != 0) then (some false) else ((slc p3 0 (if 20 < (p3.length : Int) then 20 else (p3.length : Int))).bind fun l52 => loopN (fun _ _ _ _ _ => none) (law08_FdbCrowds_s4 k i6 i10 i14 i18 i22 l52) k 0 x38.1.Buckets x38.1.Slots x38.1.Age ([]))
end Go.Proofs.Ytafjcdpkanigaaa
