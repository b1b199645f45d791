/- What the operations that only compute, and those on the call's own variables, come to: by a function that is run while Lean checks; and that it is right. No condition. -/
import Derived.Test.YtdiclbejalelfaaFwA
set_option linter.unusedVariables false
set_option linter.unusedSimpArgs false
namespace Go.Proofs.Ytdiclbejalelfaa
open Go.RowKit

inductive TK where
  | int (k : IntKind)
  | bool
  | str
  | struct (fs : List (Nat × Nat × TypeId))
  | slice (e : TypeId)
  | arr (n : Nat) (e : TypeId)
  | map (k e : TypeId)
  | iface
  | ptr
  | other

structure TI where
  size : Nat
  bytes : Nat
  zero : List Value
  kind : TK

def TK.of (P : Program) : TypeDesc → TK
  | .int k => .int k
  | .bool => .bool
  | .string => .str
  | .struct fs => match fs.any (fun f => f.name == "_" || (P.info? f.type).isNone) with
    | true => .other
    | false => .struct (fs.toList.map fun f => (f.offset, P.cellsOf f.type, f.type))
  | .slice e => .slice e
  | .array n e => .arr n e
  | .map k e => .map k e
  | .interface _ => .iface
  | .pointer _ => .ptr
  | _ => .other

def TI.of (P : Program) (t : TypeId) : Option TI :=
  match P.info? t, P.underlying t with
  | some i, some u => match i.zero with
    | some z => some ⟨i.size, i.bytes, z.cells.toList, TK.of P u⟩
    | none => none
  | _, _ => none

abbrev Tab := List (Option TI)
def ti : Tab → Nat → Option TI
  | [], _ => none
  | x :: _, 0 => x
  | _ :: l, t + 1 => ti l t
def TOk (P : Program) (T : Tab) : Prop := ∀ t x, ti T t = some x → TI.of P t = some x

def tabOf (P : Program) : List Nat → Tab
  | [] => []
  | t :: l => TI.of P t :: tabOf P l
theorem ti_tabOf (P : Program) (n : Nat) : ∀ m t, ti (tabOf P (List.range' m n)) t = if t < n then TI.of P (m + t) else none := by
  induction n with
  | zero => intro m t; cases t <;> simp [tabOf, ti]
  | succ n ih =>
    intro m t
    rw [List.range'_succ]
    cases t with
    | zero => simp [tabOf, ti]
    | succ t => simp only [tabOf, ti, ih]; rw [show m + 1 + t = m + (t + 1) by omega]; simp
theorem TOk.of_eq {P : Program} {T : Tab} {n : Nat} (h : tabOf P (List.range' 0 n) = T) : TOk P T := by
  intro t x hx
  rw [← h, ti_tabOf] at hx
  split at hx
  · simpa using hx
  · simp at hx

def TK.isAgg : TK → Bool
  | .struct _ | .arr _ _ => true
  | _ => false

/-! ### guarded slots -/
abbrev Gs := List (Nat × Bool)
abbrev GL := List (Nat × SV × Gs)
/-- Guarded slots; and slots that are copies of others. -/
structure GV where
  g : GL
  al : List (Nat × Nat)
def gnil : GV := ⟨[], []⟩

def gin (g : Nat × Bool) : Gs → Bool
  | [] => false
  | c :: l => match Nat.beq g.1 c.1, g.2, c.2 with
    | true, true, true => true
    | true, false, false => true
    | _, _, _ => gin g l
def gsub : Gs → Gs → Bool
  | [], _ => true
  | g :: l, cur => match gin g cur with
    | true => gsub l cur
    | false => false
def gfind : GL → Nat → Option (SV × Gs)
  | [], _ => none
  | (d, s, gs) :: l, t => match Nat.beq d t with
    | true => some (s, gs)
    | false => gfind l t
def look (env : Env) (gv : GV) (cur : Gs) (t : Nat) : Option SV := match find env t with
  | some s => some s
  | none => match gfind gv.g t with
    | some (s, gs) => match gsub gs cur with
      | true => some s
      | false => none
    | none => none
def lit : Value → SV
  | .bool true => .tt
  | .bool false => .ff
  | x => .v x
def ev (env : Env) (gv : GV) (cur : Gs) : Operand → Option SV
  | .tmp t => look env gv cur t
  | .const v => some (lit v)
  | .func f => some (.v (.func (.func f) #[] #[]))
  | .global g => some (.v (.pointer (some ⟨g, 0, none⟩)))

def SV.plain : SV → Option Value
  | .v x => some x
  | .tt => some (.bool true)
  | .ff => some (.bool false)
  | _ => none
theorem SV.plain_val {s : SV} {x : Value} (h : s.plain = some x) (hs : Nat → Hd) : s.val hs = x := by
  cases s <;> simp [SV.plain] at h <;> simp [SV.val, SV.cval, h]
theorem lit_val (v : Value) (hs : Nat → Hd) : (lit v).val hs = v := by
  unfold lit
  split <;> rfl
theorem lit_lt (v : Value) (m : Nat) : (lit v).lt m := by
  unfold lit
  split <;> trivial

def Gs.on (gs : Gs) (a : Act) : Prop := ∀ g, g ∈ gs → a.tmps[g.1]? = some (.bool g.2)
structure GOk (C : Ctx) (gv : GV) (L : List Ent) (hs : Nat → Hd) (a : Act) : Prop where
  on : ∀ t s gs, gfind gv.g t = some (s, gs) → (Gs.on gs a → a.tmps[t]? = some (s.val hs) ∧ s.lt L.length) ∧ (¬ Gs.on gs a → a.tmps[t]? = some undef)
  al : ∀ x, x ∈ gv.al → a.tmps[x.1]? = a.tmps[x.2]?

theorem gin_mem {g : Nat × Bool} {cur : Gs} (h : gin g cur = true) : g ∈ cur := by
  induction cur with
  | nil => simp [gin] at h
  | cons c l ih =>
    obtain ⟨g1, g2⟩ := g
    obtain ⟨c1, c2⟩ := c
    simp only [gin] at h
    split at h
    · rename_i h3
      obtain rfl := Nat.eq_of_beq_eq_true h3; exact List.mem_cons_self
    · rename_i h3
      obtain rfl := Nat.eq_of_beq_eq_true h3; exact List.mem_cons_self
    · exact List.mem_cons_of_mem _ (ih h)
theorem gsub_on {gs cur : Gs} (h : gsub gs cur = true) {a : Act} (hc : Gs.on cur a) : Gs.on gs a := by
  induction gs with
  | nil => intro g hg; simp at hg
  | cons g l ih =>
    simp only [gsub] at h
    split at h
    · rename_i h1
      intro x hx
      rcases List.mem_cons.1 hx with rfl | hx
      · exact hc _ (gin_mem h1)
      · exact ih h x hx
    · simp at h

theorem look_val {C : Ctx} {env : Env} {gv : GV} {cur : Gs} {L : List Ent} {G : Ghost} {hs : Nat → Hd} {a : Act} {w : World} (S : Sim C env L G hs a w) (g : GOk C gv L hs a) (hc : Gs.on cur a) {t : Nat} {s : SV} (h : look env gv cur t = some s) :
    a.tmps[t]? = some (s.val hs) ∧ s.lt L.length := by
  unfold look at h
  split at h
  · rename_i s' hs'
    obtain rfl : s' = s := by simpa using h
    exact S.slot t s' hs'
  · split at h
    · rename_i s' gs hg
      split at h
      · rename_i hsub
        obtain rfl : s' = s := by simpa using h
        exact (g.on t s' gs hg).1 (gsub_on hsub hc)
      · simp at h
    · simp at h

theorem ev_val {C : Ctx} {env : Env} {gv : GV} {cur : Gs} {L : List Ent} {G : Ghost} {hs : Nat → Hd} {a : Act} {w : World} (S : Sim C env L G hs a w) (g : GOk C gv L hs a) (hc : Gs.on cur a) {x : Operand} {s : SV} (h : ev env gv cur x = some s) :
    a.eval x = s.val hs ∧ s.lt L.length := by
  cases x with
  | tmp t =>
    obtain ⟨h1, h2⟩ := look_val S g hc (t := t) h
    exact ⟨by simp [Act.eval, h1], h2⟩
  | const v =>
    obtain rfl : lit v = s := by simpa [ev] using h
    exact ⟨(lit_val v hs).symm, lit_lt v _⟩
  | global q =>
    obtain rfl : SV.v (.pointer (some ⟨q, 0, none⟩)) = s := by simpa [ev] using h
    exact ⟨rfl, trivial⟩
  | func q =>
    obtain rfl : SV.v (.func (.func q) #[] #[]) = s := by simpa [ev] using h
    exact ⟨rfl, trivial⟩

/-! ### what an operation comes to that turns nothing -/
def binI (op : BinOp) (k : IntKind) (x y : Int) : Option Value :=
  match op with
  | .add => some (.int k (k.wrap (x + y)))
  | .sub => some (.int k (k.wrap (x - y)))
  | .mul => some (.int k (k.wrap (x * y)))
  | .eql => some (.bool (x == y))
  | .neq => some (.bool (x != y))
  | .lss => some (.bool (decide (x < y)))
  | .leq => some (.bool (decide (x ≤ y)))
  | .gtr => some (.bool (decide (x > y)))
  | .geq => some (.bool (decide (x ≥ y)))
  | .and => some (.int k (k.wrap ((BitVec.ofInt k.bits x &&& BitVec.ofInt k.bits y).toNat)))
  | .or => some (.int k (k.wrap ((BitVec.ofInt k.bits x ||| BitVec.ofInt k.bits y).toNat)))
  | .xor => some (.int k (k.wrap ((BitVec.ofInt k.bits x ^^^ BitVec.ofInt k.bits y).toNat)))
  | .andNot => some (.int k (k.wrap ((BitVec.ofInt k.bits x &&& ~~~(BitVec.ofInt k.bits y)).toNat)))
  | .quo => match Int.decEq y 0 with
    | .isTrue _ => none
    | .isFalse _ => some (.int k (k.wrap (x.tdiv y)))
  | .rem => match Int.decEq y 0 with
    | .isTrue _ => none
    | .isFalse _ => some (.int k (x.tmod y))
  | _ => none

def shI (op : BinOp) (k : IntKind) (x : Int) (y : Int) : Option Value :=
  match Int.decLt y 0 with
  | .isTrue _ => none
  | .isFalse _ => match op with
    | .shl => some (.int k (k.wrap (x * 2 ^ (min y.toNat k.bits))))
    | .shr => some (.int k (x.fdiv (2 ^ (min y.toNat k.bits))))
    | _ => none

def sameK : IntKind → IntKind → Bool
  | .i64, .i64 | .i8, .i8 | .i16, .i16 | .i32, .i32 | .u8, .u8 | .u16, .u16 | .u32, .u32 | .u64, .u64 => true
  | _, _ => false
theorem sameK_eq {j k : IntKind} (h : sameK j k = true) : j = k := by cases j <;> cases k <;> simp [sameK] at h <;> rfl

def binV (T : Tab) (op : BinOp) (t : TypeId) (x y : Value) : Option Value :=
  match x, y with
  | .int k a, .int k' b => match op with
    | .shl => shI .shl k a b
    | .shr => shI .shr k a b
    | op => match sameK k k' with
      | true => binI op k a b
      | false => none
  | .bool a, .bool b => match ti T t with
    | some ⟨_, _, _, .bool⟩ => match op with
      | .eql => some (.bool (a == b))
      | .neq => some (.bool (a != b))
      | _ => none
    | _ => none
  | .string a, .string b => match op with
    | .eql => some (.bool (a.toList == b.toList))
    | .neq => some (.bool (!(a.toList == b.toList)))
    | _ => none
  | .slice A _ _, .slice none _ _ => match ti T t with
    | some ⟨_, _, _, .slice _⟩ => match op with
      | .eql => some (.bool A.isNone)
      | .neq => some (.bool (!A.isNone))
      | _ => none
    | _ => none
  | _, _ => none

theorem ti_info {P : Program} {T : Tab} (hT : TOk P T) {t : Nat} {x : TI} (h : ti T t = some x) : ∃ i u z, P.info? t = some i ∧ P.underlying t = some u ∧ i.zero = some z ∧ i.size = x.size ∧ i.bytes = x.bytes ∧ z.cells.toList = x.zero ∧ TK.of P u = x.kind := by
  have := hT t x h
  unfold TI.of at this
  split at this
  · rename_i i u hi hu
    split at this
    · rename_i z hz
      obtain rfl := Option.some.inj this
      exact ⟨i, u, z, hi, hu, hz, rfl, rfl, rfl, rfl⟩
    · simp at this
  · simp at this

theorem und_bool {P : Program} {u : TypeDesc} (h : TK.of P u = .bool) : u = .bool := by
  cases u <;> simp [TK.of] at h <;> first | rfl | (split at h <;> simp at h)
theorem und_int {P : Program} {u : TypeDesc} {k : IntKind} (h : TK.of P u = .int k) : u = .int k := by
  cases u <;> simp [TK.of] at h <;> first | (rw [h]) | (split at h <;> simp at h)
theorem und_str {P : Program} {u : TypeDesc} (h : TK.of P u = .str) : u = .string := by
  cases u <;> simp [TK.of] at h <;> first | rfl | (split at h <;> simp at h)
theorem und_slice {P : Program} {u : TypeDesc} {e : TypeId} (h : TK.of P u = .slice e) : u = .slice e := by
  cases u <;> simp [TK.of] at h <;> first | (rw [h]) | (split at h <;> simp at h)
theorem und_arr {P : Program} {u : TypeDesc} {n : Nat} {e : TypeId} (h : TK.of P u = .arr n e) : u = .array n e := by
  cases u <;> simp [TK.of] at h <;> first | (rw [h.1, h.2]) | (split at h <;> simp at h)
theorem und_map {P : Program} {u : TypeDesc} {k e : TypeId} (h : TK.of P u = .map k e) : u = .map k e := by
  cases u <;> simp [TK.of] at h <;> first | (rw [h.1, h.2]) | (split at h <;> simp at h)
theorem und_struct {P : Program} {u : TypeDesc} {l : List (Nat × Nat × TypeId)} (h : TK.of P u = .struct l) : ∃ fs, u = .struct fs ∧ (l = fs.toList.map fun f => (f.offset, P.cellsOf f.type, f.type)) ∧ ∀ f ∈ fs.toList, f.name ≠ "_" ∧ (sizeOf f.type).run P = fun w => .ok (P.cellsOf f.type) w := by
  cases u with
  | struct fs =>
    simp only [TK.of] at h
    split at h
    · simp at h
    · rename_i ha
      refine ⟨fs, rfl, by injection h with h; exact h.symm, fun f hf => ?_⟩
      rw [← Array.any_toList, List.any_eq_false] at ha
      have := ha f hf
      simp only [Bool.or_eq_true, beq_iff_eq, Option.isNone_iff_eq_none, not_or] at this
      refine ⟨this.1, funext fun w => ?_⟩
      cases hi : P.info? f.type with
      | none => exact absurd hi this.2
      | some i => simp [sizeOf, typeInfo, Program.cellsOf, hi]
  | _ => simp [TK.of] at h

theorem run_und {P : Program} {T : Tab} (hT : TOk P T) {t : Nat} {x : TI} (h : ti T t = some x) (w : World) : ∃ u, TK.of P u = x.kind ∧ (underlying t).run P w = .ok u w := by
  obtain ⟨i, u, z, _, hu, _, _, _, _, hk⟩ := ti_info hT h
  exact ⟨u, hk, by simp [underlying, hu]⟩
theorem run_size {P : Program} {T : Tab} (hT : TOk P T) {t : Nat} {x : TI} (h : ti T t = some x) (w : World) : (sizeOf t).run P w = .ok x.size w := by
  obtain ⟨i, u, z, hi, _, _, hs, _⟩ := ti_info hT h
  simp [sizeOf, typeInfo, hi, hs]
theorem run_zero {P : Program} {T : Tab} (hT : TOk P T) {t : Nat} {x : TI} (h : ti T t = some x) (w : World) : ∃ z, z.cells.toList = x.zero ∧ (zeroValue t).run P w = .ok z w := by
  obtain ⟨i, u, z, hi, _, hz, _, _, hzc, _⟩ := ti_info hT h
  exact ⟨z, hzc, by simp [zeroValue, typeInfo, hi, hz]⟩
theorem run_agg {P : Program} {T : Tab} (hT : TOk P T) {t : Nat} {x : TI} (h : ti T t = some x) (ho : x.kind ≠ .other) (w : World) : (isAgg t).run P w = .ok x.kind.isAgg w := by
  obtain ⟨u, hk, hr⟩ := run_und hT h w
  unfold isAgg
  rw [Sem.run_bind, hr, Result.andThen_ok]
  cases u with
  | struct fs =>
    simp only [TK.of] at hk
    split at hk
    · exact absurd hk.symm ho
    · rw [← hk]; rfl
  | _ => simp only [TK.of] at hk; rw [← hk]; rfl

theorem binI_run {op : BinOp} {k : IntKind} {x y : Int} {v : Value} (h : binI op k x y = some v) (P : Program) (t : TypeId) (w : World) : (binOp op t (.int k x) (.int k y)).run P w = .ok v w := by
  cases op <;> simp only [binI] at h <;> first
    | (obtain rfl := Option.some.inj h; simp [binOp, Op.intArith, Op.intCmp, Op.intBits]; done)
    | (split at h
       · simp at h
       · rename_i hne _
         obtain rfl := Option.some.inj h
         simp [binOp, Op.intDiv, hne])
    | simp at h

theorem shI_run {op : BinOp} {k k' : IntKind} {x y : Int} {v : Value} (ho : op = .shl ∨ op = .shr) (h : shI op k x y = some v) (P : Program) (t : TypeId) (w : World) : (binOp op t (.int k x) (.int k' y)).run P w = .ok v w := by
  unfold shI at h
  split at h
  · simp at h
  · rename_i hne _
    rcases ho with rfl | rfl <;> (simp only at h; obtain rfl := Option.some.inj h; simp only [binOp, Op.shift, if_neg hne, Sem.run_pure])

theorem equal_bool {P : Program} {T : Tab} (hT : TOk P T) {t : TypeId} {s b : Nat} {z : List Value} (ht : ti T t = some ⟨s, b, z, .bool⟩) (x y : Bool) (w : World) : (Op.equal t (.bool x) (.bool y)).run P w = .ok (x == y) w := by
  obtain ⟨u, hk, hr⟩ := run_und hT ht w
  obtain rfl := und_bool hk
  obtain ⟨d, hd⟩ : ∃ d, Op.maxDepth = d + 1 := ⟨9999, rfl⟩
  unfold Op.equal
  rw [hd, Op.equalIn, Sem.run_bind, hr]
  rfl
theorem equal_nil {P : Program} {T : Tab} (hT : TOk P T) {t : TypeId} {s b e : Nat} {z : List Value} (ht : ti T t = some ⟨s, b, z, .slice e⟩) (A : Option Addr) (n c n' c' : Nat) (w : World) : (Op.equal t (.slice A n c) (.slice none n' c')).run P w = .ok A.isNone w := by
  obtain ⟨u, hk, hr⟩ := run_und hT ht w
  obtain rfl := und_slice hk
  obtain ⟨d, hd⟩ : ∃ d, Op.maxDepth = d + 1 := ⟨9999, rfl⟩
  unfold Op.equal
  rw [hd, Op.equalIn, Sem.run_bind, hr]
  cases A <;> rfl

theorem binV_run {P : Program} {T : Tab} (hT : TOk P T) {op : BinOp} {t : TypeId} {x y v : Value} (h : binV T op t x y = some v) (xo yo : Operand) (w : World) :
    (do eqGuard op t xo yo x y; binOp op t x y : Sem Value).run P w = .ok v w := by
  unfold binV at h
  split at h
  · rename_i k a k' b
    have hg : (eqGuard op t xo yo (.int k a) (.int k' b)).run P w = .ok () w := by unfold eqGuard; split <;> rfl
    rw [Sem.run_bind, hg, Result.andThen_ok]
    split at h
    · exact shI_run (.inl rfl) h P t w
    · exact shI_run (.inr rfl) h P t w
    · split at h
      · rename_i hk
        obtain rfl := sameK_eq hk
        exact binI_run h P t w
      · simp at h
  · rename_i a b
    have hg : (eqGuard op t xo yo (.bool a) (.bool b)).run P w = .ok () w := by unfold eqGuard; split <;> rfl
    rw [Sem.run_bind, hg, Result.andThen_ok]
    split at h
    · rename_i ht
      split at h
      · obtain rfl := Option.some.inj h
        show (do pure (.bool (← Op.equal t (.bool a) (.bool b))) : Sem Value).run P w = _
        rw [Sem.run_bind, equal_bool hT ht]; rfl
      · obtain rfl := Option.some.inj h
        show (do pure (.bool (!(← Op.equal t (.bool a) (.bool b)))) : Sem Value).run P w = _
        rw [Sem.run_bind, equal_bool hT ht]; rfl
      · simp at h
    · simp at h
  · rename_i a b
    have hg : (eqGuard op t xo yo (.string a) (.string b)).run P w = .ok () w := by unfold eqGuard; split <;> rfl
    rw [Sem.run_bind, hg, Result.andThen_ok]
    split at h
    · obtain rfl := Option.some.inj h
      simp [binOp, Op.stringOp]
    · obtain rfl := Option.some.inj h
      simp [binOp, Op.stringOp]
    · simp at h
  · rename_i A n c n' c'
    have hg : (eqGuard op t xo yo (.slice A n c) (.slice none n' c')).run P w = .ok () w := by unfold eqGuard; split <;> rfl
    rw [Sem.run_bind, hg, Result.andThen_ok]
    split at h
    · rename_i ht
      split at h
      · obtain rfl := Option.some.inj h
        show (do pure (.bool (← Op.equal t (.slice A n c) (.slice none n' c'))) : Sem Value).run P w = _
        rw [Sem.run_bind, equal_nil hT ht]; rfl
      · obtain rfl := Option.some.inj h
        show (do pure (.bool (!(← Op.equal t (.slice A n c) (.slice none n' c')))) : Sem Value).run P w = _
        rw [Sem.run_bind, equal_nil hT ht]; rfl
      · simp at h
    · simp at h
  · simp at h
end Go.Proofs.Ytdiclbejalelfaa
