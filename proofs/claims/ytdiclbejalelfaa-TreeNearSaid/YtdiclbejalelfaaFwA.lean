/- The symbolic state of a walk: slots, memory of the call's own, and what is known of frozen memory (the ghost); how it goes on as the world does. No condition. -/
import Derived.WalkKit
import Derived.Maps.AppendAt
import Derived.KernelRfl
import Derived.Laws.AppendOwn
import Derived.Below
set_option linter.unusedVariables false
set_option linter.unusedSimpArgs false
namespace Go.Proofs.Ytdiclbejalelfaa
open Go.RowKit

/-- What is known of frozen memory: some cells, and what they hold. -/
abbrev Ghost := Addr → Option Value
def GLe (G H : Ghost) : Prop := ∀ a v, G a = some v → H a = some v
theorem GLe.refl (G : Ghost) : GLe G G := fun _ _ h => h
theorem GLe.trans {G H I : Ghost} (h : GLe G H) (k : GLe H I) : GLe G I := fun a v e => k a v (h a v e)

/-- A symbolic value: a plain one; a pointer into a box of the call's own; the header of a row of its own; a map of its own; a bool that is known. -/
inductive SV where
  | v (x : Value)
  | p (r off : Nat)
  | row (r : Nat)
  | mp (r : Nat)
  | ip (t : TypeId) (r off : Nat)
  | tt
  | ff
  | agg (cs : List SV)
  | fn (f : Fn) (cs : List SV)

structure Hd where
  blk : Nat
  val : Value

/-- Of one cell. -/
def SV.cval (hs : Nat → Hd) : SV → Value
  | .v x => x
  | .p r o => .pointer (some ⟨(hs r).blk, o, none⟩)
  | .row r => (hs r).val
  | .mp r => .map (some (hs r).blk)
  | .ip t r o => .iface t (.pointer (some ⟨(hs r).blk, o, none⟩))
  | .tt => .bool true
  | .ff => .bool false
  | _ => undef
def cvals (hs : Nat → Hd) (cs : List SV) : List Value := cs.map (SV.cval hs)
def SV.val (hs : Nat → Hd) : SV → Value
  | .agg cs => .agg (cvals hs cs).toArray
  | .fn f cs => .func f #[] (cvals hs cs).toArray
  | s => s.cval hs

def SV.clt (m : Nat) : SV → Prop
  | .p r _ | .row r | .mp r | .ip _ r _ => r < m
  | _ => True
def SV.lt (m : Nat) : SV → Prop
  | .agg cs | .fn _ cs => ∀ c ∈ cs, c.clt m
  | s => s.clt m

theorem SV.clt_mono {s : SV} {m n : Nat} (h : s.clt m) (hmn : m ≤ n) : s.clt n := by
  cases s with
  | ip t r o => exact Nat.lt_of_lt_of_le h hmn
  | p r o => exact Nat.lt_of_lt_of_le h hmn
  | row r => exact Nat.lt_of_lt_of_le h hmn
  | mp r => exact Nat.lt_of_lt_of_le h hmn
  | _ => trivial
theorem SV.lt_mono {s : SV} {m n : Nat} (h : s.lt m) (hmn : m ≤ n) : s.lt n := by
  cases s with
  | ip t r o => exact Nat.lt_of_lt_of_le h hmn
  | agg cs => exact fun c hc => SV.clt_mono (h c hc) hmn
  | fn f cs => exact fun c hc => SV.clt_mono (h c hc) hmn
  | v x => trivial
  | tt => trivial
  | ff => trivial
  | p r o => exact Nat.lt_of_lt_of_le h hmn
  | row r => exact Nat.lt_of_lt_of_le h hmn
  | mp r => exact Nat.lt_of_lt_of_le h hmn
theorem SV.cval_lt {s : SV} {m : Nat} {hs hs' : Nat → Hd} (h : s.clt m) (he : ∀ r, r < m → hs' r = hs r) : s.cval hs' = s.cval hs := by
  cases s with
  | p r o => simp only [SV.cval, he r h]
  | row r => simp only [SV.cval, he r h]
  | mp r => simp only [SV.cval, he r h]
  | ip t r o => simp only [SV.cval, he r h]
  | _ => rfl
theorem cvals_lt {cs : List SV} {m : Nat} {hs hs' : Nat → Hd} (h : ∀ c ∈ cs, c.clt m) (he : ∀ r, r < m → hs' r = hs r) : cvals hs' cs = cvals hs cs :=
  List.map_congr_left (fun c hc => SV.cval_lt (h c hc) he)
theorem SV.val_lt {s : SV} {m : Nat} {hs hs' : Nat → Hd} (h : s.lt m) (he : ∀ r, r < m → hs' r = hs r) : s.val hs' = s.val hs := by
  cases s with
  | agg cs => simp only [SV.val, cvals_lt h he]
  | fn f cs => simp only [SV.val, cvals_lt h he]
  | v x => rfl
  | tt => rfl
  | ff => rfl
  | p r o => exact SV.cval_lt (s := .p r o) h he
  | row r => exact SV.cval_lt (s := .row r) h he
  | mp r => exact SV.cval_lt (s := .mp r) h he
  | ip t r o => exact SV.cval_lt (s := .ip t r o) h he

/-- What the call owns: a variable in memory; a row that it appends to; a map. -/
inductive Ent where
  | box (t : TypeId) (cs : List SV)
  | row (e : TypeId) (sz n : Nat) (es : List Value)
  | mp (kvs : List (Value × Value))
  | sav (ss : List SV) (vs : List Value)
  | gone

def flat (es : List Value) : List Value := es.flatMap (·.cells.toList)

def svals (hs : Nat → Hd) (ss : List SV) : List Value := ss.map (SV.val hs)
theorem svals_lt {ss : List SV} {m : Nat} {hs hs' : Nat → Hd} (h : ∀ s ∈ ss, s.lt m) (he : ∀ r, r < m → hs' r = hs r) : svals hs' ss = svals hs ss :=
  List.map_congr_left (fun c hc => SV.val_lt (h c hc) he)
def Ent.holds (w : World) (hs : Nat → Hd) (h : Hd) : Ent → Prop
  | .box t cs => w.heap[h.blk]? = some (.cells (cvals hs cs).toArray t (0, 0))
  | .row e sz n es => es.length = n ∧ (∀ u ∈ es, u.cells.size = sz) ∧ (∀ u ∈ es, ∀ c ∈ u.cells, c.oneCell' = true) ∧ w.ownsRow 0 e sz h.val n (flat es) ∧ ∀ k, h.val.ownBlock = some k → k = h.blk
  | .mp kvs => ∃ es clock, w.heap[h.blk]? = some (.map es clock) ∧ es.toList.map (fun e => (e.key, e.val)) = kvs
  | .sav ss vs => svals hs ss = vs
  | .gone => True

def Ent.at_ (h : Hd) : Ent → Option Nat
  | .box .. => some h.blk
  | .row .. => h.val.ownBlock
  | .mp _ => some h.blk
  | .sav _ _ => none
  | .gone => none
def Ent.lt (m : Nat) : Ent → Prop
  | .box _ cs => ∀ c ∈ cs, c.clt m
  | .sav ss _ => ∀ s ∈ ss, s.lt m
  | _ => True
theorem Ent.lt_mono {e : Ent} {m n : Nat} (h : e.lt m) (hmn : m ≤ n) : e.lt n := by
  cases e with
  | box t cs => exact fun c hc => SV.clt_mono (h c hc) hmn
  | sav ss vs => exact fun c hc => SV.lt_mono (h c hc) hmn
  | _ => trivial
theorem Ent.holds_lt {e : Ent} {m : Nat} {w : World} {hs hs' : Nat → Hd} {h : Hd} (hh : e.holds w hs h) (hl : e.lt m) (he : ∀ r, r < m → hs' r = hs r) : e.holds w hs' h := by
  cases e with
  | box t cs => simp only [Ent.holds, cvals_lt hl he]; exact hh
  | sav ss vs => simp only [Ent.holds, svals_lt hl he]; exact hh
  | _ => exact hh

abbrev Env := List (Nat × Option SV)
def find : Env → Nat → Option SV
  | [], _ => none
  | (d, s) :: l, t => match Nat.beq d t with
    | true => s
    | false => find l t

structure Ctx where
  n : Nat
  w0 : World
  G0 : Ghost
  lent : Nat → Bool

/-- What lay there is as it was, but for the blocks that were lent. -/
structure BelowX (lent : Nat → Bool) (w w' : World) : Prop where
  os : w'.os = w.os
  tape : w'.tape = w.tape
  output : w'.output = w.output
  size : w.heap.size ≤ w'.heap.size
  block : ∀ k, k < w.heap.size → lent k = false → w'.heap[k]? = w.heap[k]?
theorem BelowX.refl (lent : Nat → Bool) (w : World) : BelowX lent w w := ⟨rfl, rfl, rfl, Nat.le_refl _, fun _ _ _ => rfl⟩
theorem BelowX.then {lent : Nat → Bool} {a b c : World} (h : BelowX lent a b) (hos : c.os = b.os) (hta : c.tape = b.tape) (hou : c.output = b.output) (hsz : b.heap.size ≤ c.heap.size) (hb : ∀ k, k < a.heap.size → lent k = false → c.heap[k]? = b.heap[k]?) : BelowX lent a c :=
  ⟨hos.trans h.os, hta.trans h.tape, hou.trans h.output, Nat.le_trans h.size hsz, fun k hk hl => (hb k hk hl).trans (h.block k hk hl)⟩
theorem BelowX.grow {lent : Nat → Bool} {a b c : World} (h : BelowX lent a b) (k : Below b.heap.size b c) : BelowX lent a c :=
  h.then k.os k.tape k.output k.size (fun i hi _ => k.block i (Nat.lt_of_lt_of_le hi h.size))
theorem BelowX.below {a b : World} (h : BelowX (fun _ => false) a b) : Below a.heap.size a b := ⟨h.os, h.tape, h.output, h.size, fun k hk => h.block k hk rfl⟩

structure Sim (C : Ctx) (env : Env) (L : List Ent) (G : Ghost) (hs : Nat → Hd) (a : Act) (w : World) : Prop where
  defers : a.defers = []
  size : a.tmps.size = C.n
  slot : ∀ t s, find env t = some s → a.tmps[t]? = some (s.val hs) ∧ s.lt L.length
  le : GLe C.G0 G
  ok : ∀ x v, G x = some v → w.cell? x = some v
  new : ∀ x v, G x = some v → C.G0 x = some v ∨ C.w0.heap.size ≤ x.block ∨ C.lent x.block = true
  below : BelowX C.lent C.w0 w
  holds : ∀ (r : Nat) (e : Ent), L[r]? = some e → e.holds w hs (hs r) ∧ e.lt L.length
  own : ∀ (r : Nat) (e : Ent) (k : Nat), L[r]? = some e → e.at_ (hs r) = some k → (C.w0.heap.size ≤ k ∨ C.lent k = true) ∧ k < w.heap.size ∧ ∀ x : Addr, x.block = k → G x = none
  apart : ∀ (r r' : Nat) (e e' : Ent) (k : Nat), L[r]? = some e → L[r']? = some e' → e.at_ (hs r) = some k → e'.at_ (hs r') = some k → r = r'

/-- The world has turned in one block alone. -/
structure Only (g : Nat) (w w' : World) : Prop where
  os : w'.os = w.os
  tape : w'.tape = w.tape
  output : w'.output = w.output
  size : w.heap.size ≤ w'.heap.size
  block : ∀ k, k < w.heap.size → k ≠ g → w'.heap[k]? = w.heap[k]?

theorem Only.refl (g : Nat) (w : World) : Only g w w := ⟨rfl, rfl, rfl, Nat.le_refl _, fun _ _ _ => rfl⟩
theorem Only.trans {g : Nat} {a b c : World} (h : Only g a b) (k : Only g b c) : Only g a c :=
  ⟨k.os.trans h.os, k.tape.trans h.tape, k.output.trans h.output, Nat.le_trans h.size k.size,
    fun i hi hne => (k.block i (Nat.lt_of_lt_of_le hi h.size) hne).trans (h.block i hi hne)⟩
theorem Only.setCell (w : World) (a : Addr) (u : Value) : Only a.block w (w.setCell a u) :=
  ⟨rfl, rfl, rfl, by simp [World.setCell], fun k _ hne => Below.heap_setCell _ _ _ _ hne⟩
theorem Only.of_below {g : Nat} {w w' : World} (h : Below w.heap.size w w') : Only g w w' := ⟨h.os, h.tape, h.output, h.size, fun k hk _ => h.block k hk⟩
theorem Only.cell {g : Nat} {w w' : World} (h : Only g w w') {x : Addr} {v : Value} (hx : w.cell? x = some v) (hne : x.block ≠ g) : w'.cell? x = some v := by
  rw [World.cell?_of_block (h.block x.block (World.block_lt_of_cell? w x hx) hne)]
  exact hx
theorem Only.below {g B : Nat} {w0 w w' : World} (h : Below B w0 w) (k : Only g w w') (hg : B ≤ g) (hB : B ≤ w0.heap.size) : Below B w0 w' :=
  h.trans ⟨k.os, k.tape, k.output, k.size, fun i hi => k.block i (Nat.lt_of_lt_of_le hi (Nat.le_trans hB h.size)) (by omega)⟩

theorem holds_kept {w w' : World} {hs : Nat → Hd} {h : Hd} {e : Ent} (hh : e.holds w hs h) (hb : ∀ k, e.at_ h = some k → w'.heap[k]? = w.heap[k]?) : e.holds w' hs h := by
  cases e with
  | box t cs => simp only [Ent.holds] at hh ⊢; rw [hb _ rfl]; exact hh
  | row e sz n es =>
    obtain ⟨h1, h2, h3, ⟨h4, h5⟩, h6⟩ := hh
    refine ⟨h1, h2, h3, ⟨h4, ?_⟩, h6⟩
    rcases h5 with h5 | ⟨g, cap, cur, he, hb0, hc, hr⟩
    · exact .inl h5
    · refine .inr ⟨g, cap, cur, he, hb0, ?_, hr⟩
      rw [hb g (by simp [Ent.at_, he, Value.ownBlock])]
      exact hc
  | mp kvs =>
    obtain ⟨es, clock, h1, h2⟩ := hh
    refine ⟨es, clock, ?_, h2⟩
    rw [hb _ rfl]
    exact h1
  | sav ss vs => exact hh
  | gone => trivial

/-- What a resource says of others is said of them still. -/
def Ent.sees (hs' hs : Nat → Hd) : Ent → Prop
  | .box _ cs => cvals hs' cs = cvals hs cs
  | .sav ss _ => svals hs' ss = svals hs ss
  | _ => True
theorem Ent.sees_eq {hs' hs : Nat → Hd} (h : hs' = hs) (e : Ent) : e.sees hs' hs := by subst h; cases e <;> first | rfl | trivial

namespace Sim
variable {C : Ctx} {env : Env} {L : List Ent} {G G' : Ghost} {hs : Nat → Hd} {a : Act} {w w' : World}

theorem put (h : Sim C env L G hs a w) {d : Nat} (hd : d < C.n) {s : SV} (hs' : s.lt L.length) : Sim C ((d, some s) :: env) L G hs (a.put (some d) (s.val hs)) w := by
  refine ⟨h.defers, by simp [Act.put, h.size], fun t s' ht => ?_, h.le, h.ok, h.new, h.below, h.holds, h.own, h.apart⟩
  simp only [find] at ht
  cases hdt : Nat.beq d t with
  | true =>
    rw [hdt] at ht
    obtain rfl := Nat.eq_of_beq_eq_true hdt
    obtain rfl : s = s' := by simpa using ht
    exact ⟨by simp [Act.put, h.size, hd], hs'⟩
  | false =>
    rw [hdt] at ht
    have hne : d ≠ t := fun e => by subst e; simp at hdt
    refine ⟨?_, (h.slot t s' ht).2⟩
    have := (h.slot t s' ht).1
    simp only [Act.put, Array.getElem?_setIfInBounds, hne, if_false]
    exact this

theorem putNone (h : Sim C env L G hs a w) (d : Nat) (v : Value) : Sim C ((d, none) :: env) L G hs (a.put (some d) v) w := by
  refine ⟨h.defers, by simp [Act.put, h.size], fun t s' ht => ?_, h.le, h.ok, h.new, h.below, h.holds, h.own, h.apart⟩
  simp only [find] at ht
  cases hdt : Nat.beq d t with
  | true => rw [hdt] at ht; simp at ht
  | false =>
    rw [hdt] at ht
    have hne : d ≠ t := fun e => by subst e; simp at hdt
    refine ⟨?_, (h.slot t s' ht).2⟩
    have := (h.slot t s' ht).1
    simp only [Act.put, Array.getElem?_setIfInBounds, hne, if_false]
    exact this

theorem weaken (h : Sim C env L G hs a w) {env' : Env} (he : ∀ t s, find env' t = some s → find env t = some s) : Sim C env' L G hs a w :=
  ⟨h.defers, h.size, fun t s ht => h.slot t s (he t s ht), h.le, h.ok, h.new, h.below, h.holds, h.own, h.apart⟩

/-- The world has drawn, or made blocks: nothing of it has turned. -/
theorem grow (h : Sim C env L G hs a w) (hb : Below w.heap.size w w') : Sim C env L G hs a w' := by
  refine ⟨h.defers, h.size, h.slot, h.le, fun x v hx => ?_, h.new, h.below.grow hb, fun r e hr => ?_, fun r e k hr hk => ?_, h.apart⟩
  · have := h.ok x v hx
    rw [hb.cell (World.block_lt_of_cell? w x this)]
    exact this
  · exact ⟨holds_kept (h.holds r e hr).1 (fun k hk => hb.block k (h.own r e k hr hk).2.1), (h.holds r e hr).2⟩
  · obtain ⟨h1, h2, h3⟩ := h.own r e k hr hk
    exact ⟨h1, Nat.lt_of_lt_of_le h2 hb.size, h3⟩

/-- Behind a call: more is known. -/
theorem know (h : Sim C env L G hs a w) (hb : Below w.heap.size w w') (hG : GLe G G') (hok : ∀ x v, G' x = some v → w'.cell? x = some v)
    (hnew : ∀ x v, G' x = some v → G x = some v ∨ w.heap.size ≤ x.block) : Sim C env L G' hs a w' := by
  have h' := h.grow hb
  refine ⟨h.defers, h.size, h.slot, h.le.trans hG, hok, fun x v hx => ?_, h'.below, h'.holds, fun r e k hr hk => ?_, h.apart⟩
  · rcases hnew x v hx with h1 | h1
    · exact h.new x v h1
    · exact .inr (.inl (Nat.le_trans h.below.size h1))
  · obtain ⟨h1, h2, h3⟩ := h.own r e k hr hk
    refine ⟨h1, Nat.lt_of_lt_of_le h2 hb.size, fun x hx => ?_⟩
    cases hg : G' x with
    | none => rfl
    | some v =>
      rcases hnew x v hg with h4 | h4
      · rw [h3 x hx] at h4; simp at h4
      · omega

/-- A block more of the call's own. -/
theorem alloc (h : Sim C env L G hs a w) (o : Obj) (e : Ent) (hv : Value) (hel : e.lt L.length) (hh : e.holds (w.alloc o) hs ⟨w.heap.size, hv⟩) (hat : ∀ k, e.at_ ⟨w.heap.size, hv⟩ = some k → k = w.heap.size) :
    Sim C env (L ++ [e]) G (fun r => if r = L.length then ⟨w.heap.size, hv⟩ else hs r) a (w.alloc o) := by
  have hb : Below w.heap.size w (w.alloc o) := (Below.refl _ _).alloc (Nat.le_refl _) o
  have h' := h.grow hb
  have hold : ∀ r e', (L ++ [e])[r]? = some e' → (r < L.length ∧ L[r]? = some e') ∨ (r = L.length ∧ e' = e) := by
    intro r e' hr
    rcases Nat.lt_or_ge r L.length with hlt | hge
    · rw [List.getElem?_append_left hlt] at hr; exact .inl ⟨hlt, hr⟩
    · rw [List.getElem?_append_right hge] at hr
      have : r - L.length = 0 := by
        rcases Nat.eq_zero_or_pos (r - L.length) with h0 | h0
        · exact h0
        · rw [List.getElem?_eq_none (by simp; omega)] at hr; simp at hr
      rw [this] at hr
      exact .inr ⟨by omega, by simpa using hr.symm⟩
  have heq : ∀ r, r < L.length → (fun r => if r = L.length then (⟨w.heap.size, hv⟩ : Hd) else hs r) r = hs r := fun r hr => if_neg (Nat.ne_of_lt hr)
  refine ⟨h.defers, h.size, fun t s ht => ?_, h.le, h'.ok, h.new, h'.below, fun r e' hr => ?_, fun r e' k hr hk => ?_, fun r r' e1 e2 k h1 h2 h3 h4 => ?_⟩
  · obtain ⟨h1, h2⟩ := h.slot t s ht
    refine ⟨?_, ?_⟩
    · rw [h1, SV.val_lt h2 heq]
    · rw [List.length_append]; exact SV.lt_mono h2 (Nat.le_add_right _ _)
  · rcases hold r e' hr with ⟨hlt, hr'⟩ | ⟨rfl, rfl⟩
    · simp only [if_neg (Nat.ne_of_lt hlt)]
      exact ⟨Ent.holds_lt (h'.holds r e' hr').1 (h'.holds r e' hr').2 heq, Ent.lt_mono (h'.holds r e' hr').2 (by simp)⟩
    · simp only [if_pos]; exact ⟨Ent.holds_lt hh hel heq, Ent.lt_mono hel (by simp)⟩
  · rcases hold r e' hr with ⟨hlt, hr'⟩ | ⟨rfl, rfl⟩
    · simp only [if_neg (Nat.ne_of_lt hlt)] at hk; exact h'.own r e' k hr' hk
    · simp only [if_pos] at hk
      obtain rfl := hat k hk
      refine ⟨.inl h.below.size, by simp, fun x hx => ?_⟩
      cases hg : G x with
      | none => rfl
      | some v => have := World.block_lt_of_cell? w x (h.ok x v hg); omega
  · rcases hold r e1 h1 with ⟨hlt, hr⟩ | ⟨rfl, rfl⟩
    · simp only [if_neg (Nat.ne_of_lt hlt)] at h3
      have hk := (h.own r e1 k hr h3).2.1
      rcases hold r' e2 h2 with ⟨hlt', hr'⟩ | ⟨rfl, rfl⟩
      · simp only [if_neg (Nat.ne_of_lt hlt')] at h4
        exact h.apart r r' e1 e2 k hr hr' h3 h4
      · simp only [if_pos] at h4
        have := hat k h4; omega
    · simp only [if_pos] at h3
      have hk := hat k h3
      rcases hold r' e2 h2 with ⟨hlt', hr'⟩ | ⟨rfl, rfl⟩
      · simp only [if_neg (Nat.ne_of_lt hlt')] at h4
        have := (h.own r' e2 k hr' h4).2.1; omega
      · rfl

/-- A resource has turned, and its block alone (or a new one has taken its place). -/
theorem turn (h : Sim C env L G hs a w) {r : Nat} {e e' : Ent} {hv : Hd} (hr : L[r]? = some e)
    (ho : ∀ k, k < w.heap.size → e.at_ (hs r) ≠ some k → w'.heap[k]? = w.heap[k]?) (hos : w'.os = w.os) (hta : w'.tape = w.tape) (hou : w'.output = w.output) (hsz : w.heap.size ≤ w'.heap.size)
    (hh : e'.holds w' (fun q => if q = r then hv else hs q) hv) (hel : e'.lt L.length) (hat : ∀ k, e'.at_ hv = some k → e.at_ (hs r) = some k ∨ (w.heap.size ≤ k ∧ k < w'.heap.size))
    (hslot : ∀ t s, find env t = some s → s.val (fun q => if q = r then hv else hs q) = s.val hs)
    (hbox : ∀ (q : Nat) (f : Ent), q ≠ r → L[q]? = some f → f.sees (fun q => if q = r then hv else hs q) hs) :
    Sim C env (L.set r e') G (fun q => if q = r then hv else hs q) a w' := by
  have hlt : r < L.length := (List.getElem?_eq_some_iff.1 hr).1
  have hget : ∀ q f, (L.set r e')[q]? = some f → (q = r ∧ f = e') ∨ (q ≠ r ∧ L[q]? = some f) := by
    intro q f hq
    rcases Nat.decEq q r with hne | rfl
    · rw [List.getElem?_set_ne (Ne.symm hne)] at hq; exact .inr ⟨hne, hq⟩
    · rw [List.getElem?_set_self hlt] at hq; exact .inl ⟨rfl, by simpa using hq.symm⟩
  have hnb : ∀ x v, G x = some v → e.at_ (hs r) ≠ some x.block := fun x v hx he => by
    have := (h.own r e x.block hr he).2.2 x rfl
    rw [hx] at this; simp at this
  have hblk : ∀ k, e.at_ (hs r) = some k → C.w0.heap.size ≤ k ∨ C.lent k = true := fun k hk => (h.own r e k hr hk).1
  refine ⟨h.defers, h.size, fun t s ht => ?_, h.le, fun x v hx => ?_, h.new, ?_, fun q f hq => ?_, fun q f k hq hk => ?_, fun q q' f f' k h1 h2 h3 h4 => ?_⟩
  · rw [hslot t s ht, List.length_set]; exact h.slot t s ht
  · have hc := h.ok x v hx
    rw [World.cell?_of_block (ho x.block (World.block_lt_of_cell? w x hc) (hnb x v hx))]
    exact hc
  · refine h.below.then hos hta hou hsz (fun i hi hl => ho i (Nat.lt_of_lt_of_le hi h.below.size) (fun he => ?_))
    rcases hblk i he with h9 | h9
    · omega
    · rw [hl] at h9; simp at h9
  · rcases hget q f hq with ⟨rfl, rfl⟩ | ⟨hne, hq'⟩
    · simp only [if_pos]; exact ⟨hh, by rw [List.length_set]; exact hel⟩
    · simp only [if_neg hne]
      refine ⟨?_, by rw [List.length_set]; exact (h.holds q f hq').2⟩
      have hq0 : f.holds w (fun q => if q = r then hv else hs q) (hs q) := by
        have := (h.holds q f hq').1
        cases f with
        | box t cs => have hb := hbox q _ hne hq'; simp only [Ent.sees] at hb; simp only [Ent.holds, hb]; exact this
        | sav ss vs => have hb := hbox q _ hne hq'; simp only [Ent.sees] at hb; simp only [Ent.holds, hb]; exact this
        | _ => exact this
      refine holds_kept hq0 (fun k hk => ho k (h.own q f k hq' hk).2.1 (fun he => hne (h.apart q r f e k hq' hr hk he)))
  · rcases hget q f hq with ⟨rfl, rfl⟩ | ⟨hne, hq'⟩
    · simp only [if_pos] at hk
      rcases hat k hk with h5 | ⟨h5, h6⟩
      · obtain ⟨h6, h7, h8⟩ := h.own q e k hr h5
        exact ⟨h6, Nat.lt_of_lt_of_le h7 hsz, h8⟩
      · refine ⟨.inl (Nat.le_trans h.below.size h5), h6, fun x hx => ?_⟩
        cases hg : G x with
        | none => rfl
        | some v => have := World.block_lt_of_cell? w x (h.ok x v hg); omega
    · simp only [if_neg hne] at hk
      obtain ⟨h6, h7, h8⟩ := h.own q f k hq' hk
      exact ⟨h6, Nat.lt_of_lt_of_le h7 hsz, h8⟩
  · rcases hget q f h1 with ⟨rfl, rfl⟩ | ⟨hne, hq1⟩ <;> rcases hget q' f' h2 with ⟨rfl, rfl⟩ | ⟨hne', hq2⟩
    · rfl
    · simp only [if_pos] at h3
      simp only [if_neg hne'] at h4
      rcases hat k h3 with h5 | ⟨h5, _⟩
      · exact absurd (h.apart q q' e f' k hr hq2 h5 h4).symm hne'
      · have := (h.own q' f' k hq2 h4).2.1; omega
    · simp only [if_pos] at h4
      simp only [if_neg hne] at h3
      rcases hat k h4 with h5 | ⟨h5, _⟩
      · exact absurd (h.apart q q' f e k hq1 hr h3 h5) hne
      · have := (h.own q f k hq1 h3).2.1; omega
    · simp only [if_neg hne] at h3
      simp only [if_neg hne'] at h4
      exact h.apart q q' f f' k hq1 hq2 h3 h4

/-- A resource is handed over to what is known: its cells are frozen from now on. -/
theorem publish (h : Sim C env L G hs a w) {r : Nat} {e : Ent} (hr : L[r]? = some e) (hG : GLe G G') (hok : ∀ x v, G' x = some v → w.cell? x = some v)
    (hnew : ∀ x v, G' x = some v → G x = some v ∨ e.at_ (hs r) = some x.block) : Sim C env (L.set r .gone) G' hs a w := by
  have hlt : r < L.length := (List.getElem?_eq_some_iff.1 hr).1
  have hget : ∀ q f, (L.set r .gone)[q]? = some f → (q = r ∧ f = .gone) ∨ (q ≠ r ∧ L[q]? = some f) := by
    intro q f hq
    rcases Nat.decEq q r with hne | rfl
    · rw [List.getElem?_set_ne (Ne.symm hne)] at hq; exact .inr ⟨hne, hq⟩
    · rw [List.getElem?_set_self hlt] at hq; exact .inl ⟨rfl, by simpa using hq.symm⟩
  refine ⟨h.defers, h.size, fun t s ht => ?_, h.le.trans hG, hok, fun x v hx => ?_, h.below, fun q f hq => ?_, fun q f k hq hk => ?_, fun q q' f f' k h1 h2 h3 h4 => ?_⟩
  · rw [List.length_set]; exact h.slot t s ht
  · rcases hnew x v hx with h1 | h1
    · exact h.new x v h1
    · exact .inr (h.own r e _ hr h1).1
  · rcases hget q f hq with ⟨rfl, rfl⟩ | ⟨_, hq'⟩
    · exact ⟨trivial, trivial⟩
    · rw [List.length_set]; exact h.holds q f hq'
  · rcases hget q f hq with ⟨rfl, rfl⟩ | ⟨hne, hq'⟩
    · simp [Ent.at_] at hk
    · obtain ⟨h1, h2, h3⟩ := h.own q f k hq' hk
      refine ⟨h1, h2, fun x hx => ?_⟩
      cases hg : G' x with
      | none => rfl
      | some v =>
        rcases hnew x v hg with h4 | h4
        · rw [h3 x hx] at h4; simp at h4
        · exact absurd (h.apart q r f e k hq' hr hk (by rw [h4, hx])) hne
  · rcases hget q f h1 with ⟨rfl, rfl⟩ | ⟨hne, hq1⟩
    · simp [Ent.at_] at h3
    · rcases hget q' f' h2 with ⟨rfl, rfl⟩ | ⟨hne', hq2⟩
      · simp [Ent.at_] at h4
      · exact h.apart q q' f f' k hq1 hq2 h3 h4
end Sim
end Go.Proofs.Ytdiclbejalelfaa
