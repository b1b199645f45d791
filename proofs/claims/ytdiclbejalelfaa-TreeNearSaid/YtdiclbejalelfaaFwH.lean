/- Rows of the call's own: begun, appended to, written, handed over; variables handed over. No condition. -/
import Derived.Test.YtdiclbejalelfaaFwG
set_option linter.unusedVariables false
set_option linter.unusedSimpArgs false
namespace Go.Proofs.Ytdiclbejalelfaa
open Go.RowKit
open Rep (R)

/-! ### a resource is no longer spoken of by its number -/
def killC (r : Nat) (blk : Nat) (val : Value) : SV → SV
  | .p q o => match Nat.beq q r with
    | true => .v (.pointer (some ⟨blk, o, none⟩))
    | false => .p q o
  | .row q => match Nat.beq q r with
    | true => .v val
    | false => .row q
  | .mp q => match Nat.beq q r with
    | true => .v (.map (some blk))
    | false => .mp q
  | .ip t q o => match Nat.beq q r with
    | true => .v (.iface t (.pointer (some ⟨blk, o, none⟩)))
    | false => .ip t q o
  | s => s
def killL (r : Nat) (blk : Nat) (val : Value) : List SV → List SV
  | [] => []
  | s :: l => killC r blk val s :: killL r blk val l
def norm (cs : List SV) : SV := match toPlain cs with
  | some l => .v (.agg l.toArray)
  | none => .agg cs
def killS (r : Nat) (blk : Nat) (val : Value) : SV → SV
  | .agg cs => norm (killL r blk val cs)
  | .fn f cs => match toPlain (killL r blk val cs) with
    | some l => .v (.func f #[] l.toArray)
    | none => .fn f (killL r blk val cs)
  | s => killC r blk val s
def killE (r : Nat) (blk : Nat) (val : Value) : Env → Env
  | [] => []
  | (d, none) :: l => (d, none) :: killE r blk val l
  | (d, some s) :: l => (d, some (killS r blk val s)) :: killE r blk val l
def killM (r : Nat) (blk : Nat) (val : Value) : List SV → List SV
  | [] => []
  | s :: l => killS r blk val s :: killM r blk val l
def killN (r : Nat) (blk : Nat) (val : Value) : Ent → Ent
  | .box t cs => .box t (killL r blk val cs)
  | .sav ss vs => .sav (killM r blk val ss) vs
  | e => e
def killR (r : Nat) (blk : Nat) (val : Value) : List Ent → List Ent
  | [] => []
  | e :: l => killN r blk val e :: killR r blk val l

theorem killC_val {hs : Nat → Hd} {r : Nat} {s : SV} : (killC r (hs r).blk (hs r).val s).cval hs = s.cval hs := by
  cases s with
  | p q o => simp only [killC]; split <;> simp_all [SV.cval]
  | row q => simp only [killC]; split <;> simp_all [SV.cval]
  | mp q => simp only [killC]; split <;> simp_all [SV.cval]
  | ip t q o => simp only [killC]; split <;> simp_all [SV.cval]
  | _ => rfl
theorem killC_clt {r blk : Nat} {val : Value} {s : SV} {m : Nat} (h : s.clt m) : (killC r blk val s).clt m := by
  cases s with
  | p q o => simp only [killC]; split <;> first | trivial | exact h
  | row q => simp only [killC]; split <;> first | trivial | exact h
  | mp q => simp only [killC]; split <;> first | trivial | exact h
  | ip t q o => simp only [killC]; split <;> first | trivial | exact h
  | _ => exact h
theorem killC_ind {r blk : Nat} {val : Value} {s : SV} {hs hs' : Nat → Hd} (he : ∀ q, q ≠ r → hs' q = hs q) : (killC r blk val s).cval hs' = (killC r blk val s).cval hs := by
  cases s with
  | p q o => simp only [killC]; split
             · rfl
             · rename_i h; simp only [SV.cval]; rw [he q (fun e => by subst e; simp at h)]
  | row q => simp only [killC]; split
             · rfl
             · rename_i h; simp only [SV.cval]; rw [he q (fun e => by subst e; simp at h)]
  | mp q => simp only [killC]; split
            · rfl
            · rename_i h; simp only [SV.cval]; rw [he q (fun e => by subst e; simp at h)]
  | ip t q o => simp only [killC]; split
                · rfl
                · rename_i h; simp only [SV.cval]; rw [he q (fun e => by subst e; simp at h)]
  | _ => rfl
theorem killL_val {hs : Nat → Hd} {r : Nat} {l : List SV} : cvals hs (killL r (hs r).blk (hs r).val l) = cvals hs l := by
  induction l with
  | nil => rfl
  | cons s l ih => show SV.cval hs _ :: cvals hs _ = _; rw [ih, killC_val]; rfl
theorem killL_clt {r blk : Nat} {val : Value} {l : List SV} {m : Nat} (h : ∀ c ∈ l, SV.clt m c) : ∀ c ∈ killL r blk val l, SV.clt m c := by
  induction l with
  | nil => intro c hc; simp [killL] at hc
  | cons s l ih =>
    intro c hc
    rcases List.mem_cons.1 hc with rfl | hc
    · exact killC_clt (h s List.mem_cons_self)
    · exact ih (fun c hc => h c (List.mem_cons_of_mem _ hc)) c hc
theorem killL_ind {r blk : Nat} {val : Value} {l : List SV} {hs hs' : Nat → Hd} (he : ∀ q, q ≠ r → hs' q = hs q) : cvals hs' (killL r blk val l) = cvals hs (killL r blk val l) := by
  induction l with
  | nil => rfl
  | cons s l ih => show SV.cval hs' _ :: cvals hs' _ = _; rw [ih, killC_ind he]; rfl
theorem norm_val (cs : List SV) (hs : Nat → Hd) : (norm cs).val hs = .agg (cvals hs cs).toArray := by
  unfold norm
  split
  · rename_i l hl; rw [toPlain_val hl]; rfl
  · rfl
theorem norm_lt {cs : List SV} {m : Nat} (h : ∀ c ∈ cs, SV.clt m c) : (norm cs).lt m := by
  unfold norm
  split
  · trivial
  · exact h
theorem killS_val {hs : Nat → Hd} {r : Nat} {s : SV} : (killS r (hs r).blk (hs r).val s).val hs = s.val hs := by
  cases s with
  | agg cs => simp only [killS, norm_val, killL_val]; rfl
  | fn f cs =>
    simp only [killS]
    split
    · rename_i l hl
      have := toPlain_val hl hs
      rw [killL_val] at this
      simp only [SV.val, SV.cval, this]
    · simp only [SV.val, killL_val]
  | v x => rfl
  | tt => rfl
  | ff => rfl
  | p q o => simp only [killS, killC]; split <;> simp_all [SV.val, SV.cval]
  | row q => simp only [killS, killC]; split <;> simp_all [SV.val, SV.cval]
  | mp q => simp only [killS, killC]; split <;> simp_all [SV.val, SV.cval]
  | ip t q o => simp only [killS, killC]; split <;> simp_all [SV.val, SV.cval]
theorem killS_lt {r blk : Nat} {val : Value} {s : SV} {m : Nat} (h : s.lt m) : (killS r blk val s).lt m := by
  cases s with
  | agg cs => exact norm_lt (killL_clt h)
  | fn f cs =>
    simp only [killS]
    split
    · trivial
    · exact killL_clt h
  | v x => trivial
  | tt => trivial
  | ff => trivial
  | p q o => simp only [killS, killC]; split <;> first | trivial | exact h
  | row q => simp only [killS, killC]; split <;> first | trivial | exact h
  | mp q => simp only [killS, killC]; split <;> first | trivial | exact h
  | ip t q o => simp only [killS, killC]; split <;> first | trivial | exact h
theorem killS_ind {r blk : Nat} {val : Value} {s : SV} {hs hs' : Nat → Hd} (he : ∀ q, q ≠ r → hs' q = hs q) : (killS r blk val s).val hs' = (killS r blk val s).val hs := by
  cases s with
  | agg cs => simp only [killS, norm_val, killL_ind he]
  | fn f cs =>
    simp only [killS]
    split
    · rfl
    · simp only [SV.val, killL_ind he]
  | v x => rfl
  | tt => rfl
  | ff => rfl
  | p q o => simp only [killS, killC]; split
             · rfl
             · rename_i h; simp only [SV.val, SV.cval]; rw [he q (fun e => by subst e; simp at h)]
  | row q => simp only [killS, killC]; split
             · rfl
             · rename_i h; simp only [SV.val, SV.cval]; rw [he q (fun e => by subst e; simp at h)]
  | mp q => simp only [killS, killC]; split
            · rfl
            · rename_i h; simp only [SV.val, SV.cval]; rw [he q (fun e => by subst e; simp at h)]
  | ip t q o => simp only [killS, killC]; split
                · rfl
                · rename_i h; simp only [SV.val, SV.cval]; rw [he q (fun e => by subst e; simp at h)]
theorem killM_val {hs : Nat → Hd} {r : Nat} {l : List SV} : svals hs (killM r (hs r).blk (hs r).val l) = svals hs l := by
  induction l with
  | nil => rfl
  | cons s l ih => show SV.val hs _ :: svals hs _ = _; rw [ih, killS_val]; rfl
theorem killM_lt {r blk : Nat} {val : Value} {l : List SV} {m : Nat} (h : ∀ c ∈ l, SV.lt m c) : ∀ c ∈ killM r blk val l, SV.lt m c := by
  induction l with
  | nil => intro c hc; simp [killM] at hc
  | cons s l ih =>
    intro c hc
    rcases List.mem_cons.1 hc with rfl | hc
    · exact killS_lt (h s List.mem_cons_self)
    · exact ih (fun c hc => h c (List.mem_cons_of_mem _ hc)) c hc
theorem killM_ind {r blk : Nat} {val : Value} {l : List SV} {hs hs' : Nat → Hd} (he : ∀ q, q ≠ r → hs' q = hs q) : svals hs' (killM r blk val l) = svals hs (killM r blk val l) := by
  induction l with
  | nil => rfl
  | cons s l ih => show SV.val hs' _ :: svals hs' _ = _; rw [ih, killS_ind he]; rfl
theorem killE_find {r blk : Nat} {val : Value} {env : Env} {t : Nat} {s : SV} (h : find (killE r blk val env) t = some s) : ∃ s', find env t = some s' ∧ s = killS r blk val s' := by
  induction env with
  | nil => simp [killE, find] at h
  | cons x l ih =>
    obtain ⟨d, o⟩ := x
    cases o with
    | none =>
      simp only [killE, find] at h ⊢
      split at h
      · simp at h
      · exact ih h
    | some s0 =>
      simp only [killE, find] at h ⊢
      split at h
      · obtain rfl := Option.some.inj h; exact ⟨s0, rfl, rfl⟩
      · exact ih h
theorem killR_get {r blk : Nat} {val : Value} {L : List Ent} (q : Nat) : (killR r blk val L)[q]? = (L[q]?).map (killN r blk val) := by
  induction L generalizing q with
  | nil => simp [killR]
  | cons e l ih => cases q <;> simp [killR, ih]
theorem killR_len {r blk : Nat} {val : Value} {L : List Ent} : (killR r blk val L).length = L.length := by
  induction L with
  | nil => rfl
  | cons e l ih => simp [killR, ih]
theorem killN_at {r blk : Nat} {val : Value} {e : Ent} {h : Hd} : (killN r blk val e).at_ h = e.at_ h := by cases e <;> rfl

theorem Sim.kill {C : Ctx} {env : Env} {L : List Ent} {G : Ghost} {hs : Nat → Hd} {a : Act} {w : World} (S : Sim C env L G hs a w) (r : Nat) : Sim C (killE r (hs r).blk (hs r).val env) (killR r (hs r).blk (hs r).val L) G hs a w := by
  have hget : ∀ (q : Nat) (e : Ent), (killR r (hs r).blk (hs r).val L)[q]? = some e → ∃ e', L[q]? = some e' ∧ e = killN r (hs r).blk (hs r).val e' := by
    intro q e he
    rw [killR_get] at he
    obtain ⟨e', h1, h2⟩ := Option.map_eq_some_iff.1 he
    exact ⟨e', h1, h2.symm⟩
  refine ⟨S.defers, S.size, fun t s ht => ?_, S.le, S.ok, S.new, S.below, fun q e he => ?_, fun q e k he hk => ?_, fun q q' e e' k h1 h2 h3 h4 => ?_⟩
  · obtain ⟨s', h1, rfl⟩ := killE_find ht
    rw [killS_val, killR_len]
    exact ⟨(S.slot t s' h1).1, killS_lt (S.slot t s' h1).2⟩
  · obtain ⟨e', h1, rfl⟩ := hget q e he
    obtain ⟨h2, h3⟩ := S.holds q e' h1
    rw [killR_len]
    cases e' with
    | box t cs => exact ⟨by simp only [killN, Ent.holds, killL_val]; exact h2, killL_clt h3⟩
    | sav ss vs => exact ⟨by simp only [killN, Ent.holds, killM_val]; exact h2, killM_lt h3⟩
    | _ => exact ⟨h2, h3⟩
  · obtain ⟨e', h1, rfl⟩ := hget q e he
    rw [killN_at] at hk
    exact S.own q e' k h1 hk
  · obtain ⟨e1, h5, rfl⟩ := hget q e h1
    obtain ⟨e2, h6, rfl⟩ := hget q' e' h2
    rw [killN_at] at h3 h4
    exact S.apart q q' e1 e2 k h5 h6 h3 h4

/-- A resource is given up. -/
theorem Sim.drop {C : Ctx} {env : Env} {L : List Ent} {G : Ghost} {hs : Nat → Hd} {a : Act} {w : World} (S : Sim C env L G hs a w) (r : Nat) : Sim C env (L.set r .gone) G hs a w := by
  rcases Nat.lt_or_ge r L.length with hlt | hge
  · exact S.publish (List.getElem?_eq_getElem hlt) (GLe.refl _) S.ok (fun x v hx => .inl hx)
  · rw [List.set_eq_of_length_le hge]; exact S

/-- The resource r turns, in whatever block it then lies; it was spoken of by its number: its elder header has a name now. -/
theorem Sim.turnKill {C : Ctx} {env : Env} {L : List Ent} {G : Ghost} {hs : Nat → Hd} {a : Act} {w w' : World} (S : Sim C env L G hs a w) {r : Nat} {e e' : Ent} {hv : Hd} (hr : L[r]? = some e) (hnb : killN r (hs r).blk (hs r).val e = e) (hel : e'.lt 0)
    (ho : ∀ k, k < w.heap.size → e.at_ (hs r) ≠ some k → w'.heap[k]? = w.heap[k]?) (hos : w'.os = w.os) (hta : w'.tape = w.tape) (hou : w'.output = w.output) (hsz : w.heap.size ≤ w'.heap.size)
    (hh : ∀ hs', e'.holds w' hs' hv) (hat : ∀ k, e'.at_ hv = some k → e.at_ (hs r) = some k ∨ (w.heap.size ≤ k ∧ k < w'.heap.size)) :
    Sim C (killE r (hs r).blk (hs r).val env) ((killR r (hs r).blk (hs r).val L).set r e') G (fun q => if q = r then hv else hs q) a w' := by
  have S1 := S.kill r
  have hr1 : (killR r (hs r).blk (hs r).val L)[r]? = some e := by
    rw [killR_get, hr, Option.map_some, hnb]
  have hind : ∀ q, q ≠ r → (fun q => if q = r then hv else hs q) q = hs q := fun q hq => if_neg hq
  refine S1.turn hr1 ho hos hta hou hsz (hh _) (Ent.lt_mono hel (Nat.zero_le _)) hat (fun t s ht => ?_) (fun q f hne hq => ?_)
  · obtain ⟨s', _, rfl⟩ := killE_find ht
    exact killS_ind hind
  · rw [killR_get] at hq
    obtain ⟨e1, _, h2⟩ := Option.map_eq_some_iff.1 hq
    subst h2
    cases e1 with
    | box t' cs' => exact killL_ind hind
    | sav ss vs => exact killM_ind hind
    | _ => trivial

section
variable {P : Program} {T : Tab} {lops l l' : List Oper} {Q : Exit → Act → World → Prop} {C : Ctx} {env env' : Env} {gv gv' : GV} {L L' : List Ent} {G G' : Ghost} {o : Oper}

def noG (gv : GV) : Bool := match gv.g with
  | [] => true
  | _ => false
theorem GOk.any {hs hs' : Nat → Hd} {a : Act} (g : GOk C gv L hs a) (h : noG gv = true) : GOk C gv L' hs' a := by
  refine ⟨fun t s gs ht => ?_, g.al⟩
  unfold noG at h
  split at h
  · rename_i hg; rw [hg] at ht; simp [gfind] at ht
  · simp at h

/-- A nil slice becomes a row of the call's own, still empty. -/
theorem Sim.nilRow {hs : Nat → Hd} {a : Act} {w : World} (S : Sim C env L G hs a w) {s : Nat} (hf : find env s = some (.v (.slice none 0 0))) (e sz : Nat) :
    Sim C ((s, some (.row L.length)) :: env) (L ++ [.row e sz 0 []]) G (fun r => if r = L.length then ⟨0, .slice none 0 0⟩ else hs r) a w := by
  have heq : ∀ r, r < L.length → (fun r => if r = L.length then (⟨0, .slice none 0 0⟩ : Hd) else hs r) r = hs r := fun r hr => if_neg (Nat.ne_of_lt hr)
  have hold : ∀ (r : Nat) e', (L ++ [Ent.row e sz 0 []])[r]? = some e' → (r < L.length ∧ L[r]? = some e') ∨ (r = L.length ∧ e' = .row e sz 0 []) := by
    intro r e' hr
    rcases Nat.lt_or_ge r L.length with hlt | hge
    · rw [List.getElem?_append_left hlt] at hr; exact .inl ⟨hlt, hr⟩
    · rw [List.getElem?_append_right hge] at hr
      have : r - L.length = 0 := by
        rcases Nat.eq_zero_or_pos (r - L.length) with h0 | h0
        · exact h0
        · rw [List.getElem?_eq_none (by simp; omega)] at hr; simp at hr
      rw [this] at hr
      exact .inr ⟨by omega, by simpa using hr.symm⟩
  refine ⟨S.defers, S.size, fun t u ht => ?_, S.le, S.ok, S.new, S.below, fun r e' hr => ?_, fun r e' k hr hk => ?_, fun r r' e1 e2 k h1 h2 h3 h4 => ?_⟩
  · simp only [find] at ht
    split at ht
    · rename_i hb
      obtain rfl := Nat.eq_of_beq_eq_true hb
      obtain rfl := Option.some.inj ht
      refine ⟨?_, by simp [SV.lt, SV.clt]⟩
      rw [(S.slot s _ hf).1]
      simp [SV.val, SV.cval]
    · obtain ⟨h1, h2⟩ := S.slot t u ht
      exact ⟨by rw [h1, SV.val_lt h2 heq], SV.lt_mono h2 (by simp)⟩
  · rcases hold r e' hr with ⟨hlt, hr'⟩ | ⟨rfl, rfl⟩
    · obtain ⟨h1, h2⟩ := S.holds r e' hr'
      simp only [if_neg (Nat.ne_of_lt hlt)]
      exact ⟨Ent.holds_lt h1 h2 heq, Ent.lt_mono h2 (by simp)⟩
    · simp only [if_pos]
      exact ⟨⟨rfl, by simp, by simp, World.ownsRow_nil _ _ _ _, by simp [Value.ownBlock]⟩, trivial⟩
  · rcases hold r e' hr with ⟨hlt, hr'⟩ | ⟨rfl, rfl⟩
    · simp only [if_neg (Nat.ne_of_lt hlt)] at hk; exact S.own r e' k hr' hk
    · simp [Ent.at_, Value.ownBlock] at hk
  · rcases hold r e1 h1 with ⟨hlt, hr⟩ | ⟨rfl, rfl⟩
    · simp only [if_neg (Nat.ne_of_lt hlt)] at h3
      rcases hold r' e2 h2 with ⟨hlt', hr'⟩ | ⟨rfl, rfl⟩
      · simp only [if_neg (Nat.ne_of_lt hlt')] at h4
        exact S.apart r r' e1 e2 k hr hr' h3 h4
      · simp [Ent.at_, Value.ownBlock] at h4
    · simp [Ent.at_, Value.ownBlock] at h3
theorem E.nilRow {c : Code} (s e sz : Nat) (hf : find env s = some (.v (.slice none 0 0))) (k : E P c Q C ((s, some (.row (len' L))) :: env) (Proofs.Ytdiclbejalelfaa.app L (.row e sz 0 [])) G) : E P c Q C env L G := by
  intro hs a w S
  rw [len'_eq, app_eq] at k
  exact k _ a w (S.nilRow hf e sz)
theorem EX.nilRow {x : Exit} (s e sz : Nat) (hf : find env s = some (.v (.slice none 0 0))) (k : EX Q x C ((s, some (.row (len' L))) :: env) (Proofs.Ytdiclbejalelfaa.app L (.row e sz 0 [])) G) : EX Q x C env L G := by
  intro hs a w S
  rw [len'_eq, app_eq] at k
  exact k _ a w (S.nilRow hf e sz)

/-- What a frozen row adds to what is known. -/
def withRow (G : Ghost) (val : Value) (cs : List Value) : Ghost := fun x => match val.ownBlock with
  | some k => if x.block = k ∧ x.spot = none ∧ x.off < cs.length then cs[x.off]? else G x
  | none => G x
theorem withRow_le {val : Value} {cs : List Value} (h : ∀ k, val.ownBlock = some k → ∀ x : Addr, x.block = k → G x = none) : GLe G (withRow G val cs) := by
  intro x v hx
  unfold withRow
  split
  · rename_i k hk
    rw [if_neg (fun e => by rw [h k hk x e.1] at hx; simp at hx)]
    exact hx
  · exact hx

theorem flat_get {es : List Value} {sz : Nat} (hsz : ∀ u ∈ es, u.cells.size = sz) : ∀ (j i : Nat) (u : Value) (c : Value), es[j]? = some u → u.cells.toList[i]? = some c → (flat es)[j * sz + i]? = some c := by
  induction es with
  | nil => intro j i u c h; simp at h
  | cons e es ih =>
    intro j i u c hj hi
    have he : e.cells.toList.length = sz := by rw [Array.length_toList]; exact hsz e List.mem_cons_self
    cases j with
    | zero =>
      simp at hj; subst hj
      have hlt : i < e.cells.toList.length := (List.getElem?_eq_some_iff.1 hi).1
      show (e.cells.toList ++ flat es)[0 * sz + i]? = some c
      rw [Nat.zero_mul, Nat.zero_add, List.getElem?_append_left hlt]; exact hi
    | succ j =>
      show (e.cells.toList ++ flat es)[(j + 1) * sz + i]? = some c
      rw [List.getElem?_append_right (by rw [he, Nat.succ_mul]; omega), he, show (j + 1) * sz + i - sz = j * sz + i by rw [Nat.succ_mul]; omega]
      exact ih (fun u hu => hsz u (List.mem_cons_of_mem _ hu)) j i u c (by simpa using hj) hi

/-- A row is handed over: what it holds is frozen. -/
theorem Sim.pubRow {α : Type} [Rep α] {hs : Nat → Hd} {a : Act} {w : World} (S : Sim C env L G hs a w) {r e sz n : Nat} {es : List Value} {xs : List α} (hr : L[r]? = some (.row e sz n es)) (hes : Els G xs es) (hsz : Rep.sz α = sz) :
    ∃ G', GLe G G' ∧ R G' xs (hs r).val ∧ Sim C env (L.set r .gone) G' hs a w := by
  obtain ⟨h1, h2, h3, h4, h5⟩ := (S.holds r _ hr).1
  have hoff : ∀ k, (hs r).val.ownBlock = some k → ∀ x : Addr, x.block = k → G x = none := fun k hk x hx => (S.own r _ k hr hk).2.2 x hx
  have hle := withRow_le (cs := flat es) hoff
  have hxs : xs.length = n := by rw [← h1, hes.len]
  refine ⟨withRow G (hs r).val (flat es), hle, ?_, S.publish hr hle (fun x v hx => ?_) (fun x v hx => ?_)⟩
  · obtain ⟨h6, h7⟩ := h4
    rcases h7 with ⟨h7, h8⟩ | ⟨g, cap, cur, h7, _, h8, h9, h10, h11, h12⟩
    · rw [h7]
      have : xs = [] := List.eq_nil_of_length_eq_zero (by omega)
      subst this
      exact Sl.nil _
    · refine ⟨some ⟨g, 0, none⟩, cap, by rw [h7, hxs], by omega, fun _ => ⟨g, 0, rfl, fun j x hj => ?_⟩⟩
      obtain ⟨u, hu, hR⟩ := All2.get hes hj
      refine ⟨u, Rep.mono hle hR, fun i c hi => ?_⟩
      have hget := flat_get h2 j i u c hu hi
      have hlt : j * sz + i < (flat es).length := (List.getElem?_eq_some_iff.1 hget).1
      rw [hsz, Nat.zero_add]
      unfold withRow
      rw [h7]
      simp only [Value.ownBlock]
      rw [if_pos ⟨trivial, trivial, hlt⟩]
      exact hget
  · unfold withRow at hx
    split at hx
    · rename_i k hk
      split at hx
      · rename_i hc
        obtain ⟨hb, hsp, hlt⟩ := hc
        have := h4.cells hk x.off v hx
        rw [add_none, Nat.zero_add] at this
        have e : x = ⟨k, x.off, none⟩ := by cases x; simp at hb hsp; simp [hb, hsp]
        rw [e]; exact this
      · exact S.ok x v hx
    · exact S.ok x v hx
  · unfold withRow at hx
    split at hx
    · rename_i k hk
      split at hx
      · rename_i hc
        exact .inr (by show (hs r).val.ownBlock = _; rw [hk, hc.1])
      · exact .inl hx
    · exact .inl hx

theorem E.pubRow {α : Type} [Rep α] {c : Code} {xs : List α} (r : Nat) {e sz n : Nat} {es : List Value} (hr : nth L r = some (.row e sz n es)) (hes : Els G xs es) (hsz : Rep.sz α = sz)
    (k : ∀ blk A cp G', GLe G G' → R G' xs (.slice A xs.length cp) → E P c Q C (killE r blk (.slice A xs.length cp) env) (setL (killR r blk (.slice A xs.length cp) L) r .gone) G') : E P c Q C env L G := by
  intro hs a w S
  rw [nth_eq] at hr
  obtain ⟨G', h1, h2, S'⟩ := S.pubRow hr hes hsz
  obtain ⟨A, cp, hv, h3⟩ := Sl.open h2
  have := k (hs r).blk A cp G' h1 h3 hs a w
  rw [setL_eq, ← hv] at this
  refine this ?_
  have S2 := S'.kill r
  have e1 : killR r (hs r).blk (hs r).val (L.set r .gone) = (killR r (hs r).blk (hs r).val L).set r .gone := by
    refine List.ext_getElem? fun q => ?_
    rw [killR_get, List.getElem?_set, List.getElem?_set, killR_len]
    split
    · split <;> rfl
    · rw [killR_get]
  rw [e1] at S2
  exact S2
theorem EL.pubRow {α : Type} [Rep α] {xs : List α} (r : Nat) {e sz n : Nat} {es : List Value} (hr : nth L r = some (.row e sz n es)) (hes : Els G xs es) (hsz : Rep.sz α = sz) (hg : noG gv = true)
    (k : ∀ blk A cp G', GLe G G' → R G' xs (.slice A xs.length cp) → EL P lops Q C l (killE r blk (.slice A xs.length cp) env) gv (setL (killR r blk (.slice A xs.length cp) L) r .gone) G') : EL P lops Q C l env gv L G := by
  intro hs a w S g
  rw [nth_eq] at hr
  obtain ⟨G', h1, h2, S'⟩ := S.pubRow hr hes hsz
  obtain ⟨A, cp, hv, h3⟩ := Sl.open h2
  have := k (hs r).blk A cp G' h1 h3 hs a w
  rw [setL_eq, ← hv] at this
  refine this ?_ (g.any hg)
  have S2 := S'.kill r
  have e1 : killR r (hs r).blk (hs r).val (L.set r .gone) = (killR r (hs r).blk (hs r).val L).set r .gone := by
    refine List.ext_getElem? fun q => ?_
    rw [killR_get, List.getElem?_set, List.getElem?_set, killR_len]
    split
    · split <;> rfl
    · rw [killR_get]
  rw [e1] at S2
  exact S2
end
end Go.Proofs.Ytdiclbejalelfaa
