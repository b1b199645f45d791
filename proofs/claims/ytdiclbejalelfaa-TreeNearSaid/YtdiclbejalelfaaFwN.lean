/- The rules that a printed walk uses: lists and what lies in memory, side by side. No condition. -/
import Derived.Test.YtdiclbejalelfaaFwM
set_option linter.unusedVariables false
set_option linter.unusedSimpArgs false
namespace Go.Proofs.Ytdiclbejalelfaa
open Go.RowKit
open Rep (R)

/-! ### what printed functions are made of -/
/-- So many rounds at most. -/
def loopN {α : Type} (z : α) (step : α → α) : Nat → α
  | 0 => z
  | n + 1 => step (loopN z step n)
theorem none_ne {α : Type} {r : α} {p : Prop} (h : (none : Option α) = some r) : p := nomatch h
theorem bif_some {α : Type} {b : Bool} {A B : Option α} {r : α} (H : (bif b then A else B) = some r) : (b = true ∧ A = some r) ∨ (b = false ∧ B = some r) := by
  cases b with
  | true => exact .inl ⟨rfl, H⟩
  | false => exact .inr ⟨rfl, H⟩
theorem idx_some {α : Type} {xs : List α} {i : Int} {y : α} (h : idx xs i = some y) : 0 ≤ i ∧ i.toNat < xs.length ∧ i < xs.length ∧ xs[i.toNat]? = some y := by
  unfold idx at h
  split at h
  · rename_i h0
    have hlt := (List.getElem?_eq_some_iff.1 h).1
    exact ⟨h0, hlt, by omega, h⟩
  · simp at h
theorem push_some {α : Type} {xs zs : List α} {y : α} (h : push xs y = some zs) : xs.length < 4294967296 ∧ zs = xs ++ [y] := by
  unfold push at h
  split at h
  · rename_i h0; exact ⟨h0, (Option.some.inj h).symm⟩
  · simp at h
theorem cat_some {α : Type} {xs ys zs : List α} (h : cat xs ys = some zs) : xs.length + ys.length ≤ 4294967296 ∧ zs = xs ++ ys := by
  unfold cat at h
  split at h
  · rename_i h0; exact ⟨h0, (Option.some.inj h).symm⟩
  · simp at h
/-- So many zeros. -/
def mk {α : Type} (n : Int) (z : α) : Option (List α) := if 0 ≤ n ∧ n ≤ 4294967296 then some (List.replicate n.toNat z) else none
theorem mk_some {α : Type} {n : Int} {z : α} {xs : List α} (h : mk n z = some xs) : 0 ≤ n ∧ n ≤ 4294967296 ∧ xs = List.replicate n.toNat z := by
  unfold mk at h
  split at h
  · rename_i h0; exact ⟨h0.1, h0.2, (Option.some.inj h).symm⟩
  · simp at h
def wr (x : Int) : Int := IntKind.i64.wrap x
/-- Results of more than one. -/
def R2 {α β : Type} [Rep α] [Rep β] (G : Ghost) (r : α × β) (v : Value) : Prop := ∃ a b, v = .tuple #[a, b] ∧ R G r.1 a ∧ R G r.2 b
def R3 {α β γ : Type} [Rep α] [Rep β] [Rep γ] (G : Ghost) (r : α × β × γ) (v : Value) : Prop := ∃ a b c, v = .tuple #[a, b, c] ∧ R G r.1 a ∧ R G r.2.1 b ∧ R G r.2.2 c

def iquo (x y : Int) : Option Int := if y = 0 then none else some (IntKind.i64.wrap (x.tdiv y))
def irem (x y : Int) : Option Int := if y = 0 then none else some (x.tmod y)

section
variable {P : Program} {T : Tab} {lops l l' : List Oper} {Q : Exit → Act → World → Prop} {C : Ctx} {env env' : Env} {gv gv' : GV} {L L' : List Ent} {G G' : Ghost} {o : Oper}

theorem EL.quo {d t t9 : Nat} {x y : Operand} {i j q : Int} (hq : iquo i j = some q) (hg : goes lops env o.guard = true) (hd : okDst C.n gv o.dst = some d) (ho : o.op = .binOp .quo t x y t9)
    (hx : ev env gv [] x = some (.v (.int .i64 i))) (hy : ev env gv [] y = some (.v (.int .i64 j))) (next : EL P lops Q C l ((d, some (.v (.int .i64 q))) :: env) gv L G) : EL P lops Q C (o :: l) env gv L G := by
  refine EL.val (s := .v _) hg hd (fun hs a w S g => ⟨?_, trivial⟩) next
  unfold iquo at hq
  split at hq
  · simp at hq
  · rename_i hne
    obtain rfl := Option.some.inj hq
    simp [execOp, ho, ev_v S g hx, ev_v S g hy, eqGuard, binOp, Op.intDiv, hne, SV.val, SV.cval]
theorem EL.rem {d t t9 : Nat} {x y : Operand} {i j q : Int} (hq : irem i j = some q) (hg : goes lops env o.guard = true) (hd : okDst C.n gv o.dst = some d) (ho : o.op = .binOp .rem t x y t9)
    (hx : ev env gv [] x = some (.v (.int .i64 i))) (hy : ev env gv [] y = some (.v (.int .i64 j))) (next : EL P lops Q C l ((d, some (.v (.int .i64 q))) :: env) gv L G) : EL P lops Q C (o :: l) env gv L G := by
  refine EL.val (s := .v _) hg hd (fun hs a w S g => ⟨?_, trivial⟩) next
  unfold irem at hq
  split at hq
  · simp at hq
  · rename_i hne
    obtain rfl := Option.some.inj hq
    simp [execOp, ho, ev_v S g hx, ev_v S g hy, eqGuard, binOp, Op.intDiv, hne, SV.val, SV.cval]

/-- A bool that is known. -/
theorem EL.known (s : Nat) {b : Bool} (h : find env s = some (.v (.bool b))) {c : Bool} (hb : b = c) (k : EL P lops Q C l ((s, some (bif c then .tt else .ff)) :: env) gv L G) : EL P lops Q C l env gv L G := by
  intro hs a w S g
  refine k hs a w ⟨S.defers, S.size, fun t s' ht => ?_, S.le, S.ok, S.new, S.below, S.holds, S.own, S.apart⟩ g
  simp only [find] at ht
  split at ht
  · rename_i hbq
    obtain rfl := Nat.eq_of_beq_eq_true hbq
    obtain rfl := Option.some.inj ht
    rw [(S.slot s _ h).1, hb]
    cases c <;> exact ⟨rfl, trivial⟩
  · exact S.slot t s' ht

theorem Turn.nilRow (s e sz : Nat) (hf : find env s = some (.v (.slice none 0 0))) : Turn C env L G (fun env' L' G' => env' = (s, some (.row (len' L))) :: env ∧ L' = Proofs.Ytdiclbejalelfaa.app L (.row e sz 0 []) ∧ G' = G) := by
  intro hs a w S
  have S' := S.nilRow hf e sz
  rw [← len'_eq, ← app_eq] at S'
  exact ⟨_, _, _, _, ⟨rfl, rfl, rfl⟩, S'⟩
theorem EL.nilRow (s e sz : Nat) (hf : find env s = some (.v (.slice none 0 0))) (hg : noG gv = true) (k : EL P lops Q C l ((s, some (.row (len' L))) :: env) gv (Proofs.Ytdiclbejalelfaa.app L (.row e sz 0 [])) G) : EL P lops Q C l env gv L G :=
  EL.turn (Turn.nilRow s e sz hf) hg (by rintro _ _ _ ⟨rfl, rfl, rfl⟩; exact k)
theorem EL.pubBox (r : Nat) {t : TypeId} {cs : List SV} {vs : List Value} (hr : nth L r = some (.box t cs)) (hp : toPlain cs = some vs) (hg : noG gv = true) (k : ∀ blk u G', GLe G G' → CellsAt G' blk 0 (.agg vs.toArray) → EL P lops Q C l (killE r blk u env) gv (setL (killR r blk u L) r .gone) G') : EL P lops Q C l env gv L G :=
  EL.turn (Turn.pubBox r hr hp) hg (by rintro _ _ _ ⟨blk, u, h1, h2, rfl, rfl⟩; exact k blk u _ h1 h2)
theorem Turn.pubRow {α : Type} [Rep α] {xs : List α} (r : Nat) {e sz n : Nat} {es : List Value} (hr : nth L r = some (.row e sz n es)) (hes : Els G xs es) (hsz : Rep.sz α = sz) :
    Turn C env L G (fun env' L' G' => ∃ blk A cp, GLe G G' ∧ R G' xs (.slice A xs.length cp) ∧ env' = killE r blk (.slice A xs.length cp) env ∧ L' = setL (killR r blk (.slice A xs.length cp) L) r .gone) := by
  intro hs a w S
  rw [nth_eq] at hr
  obtain ⟨G', h1, h2, S'⟩ := S.pubRow hr hes hsz
  obtain ⟨A, cp, hv, h3⟩ := Sl.open h2
  refine ⟨_, _, G', hs, ⟨(hs r).blk, A, cp, h1, h3, rfl, rfl⟩, ?_⟩
  rw [setL_eq, ← hv]
  have S2 := S'.kill r
  have e1 : killR r (hs r).blk (hs r).val (L.set r .gone) = (killR r (hs r).blk (hs r).val L).set r .gone := by
    refine List.ext_getElem? fun q => ?_
    rw [killR_get, List.getElem?_set, List.getElem?_set, killR_len]
    split
    · split <;> rfl
    · rw [killR_get]
  rw [e1] at S2
  exact S2
theorem EX.pubRow {x : Exit} {α : Type} [Rep α] {xs : List α} (r : Nat) {e sz n : Nat} {es : List Value} (hr : nth L r = some (.row e sz n es)) (hes : Els G xs es) (hsz : Rep.sz α = sz)
    (k : ∀ blk A cp G', GLe G G' → R G' xs (.slice A xs.length cp) → EX Q x C (killE r blk (.slice A xs.length cp) env) (setL (killR r blk (.slice A xs.length cp) L) r .gone) G') : EX Q x C env L G :=
  EX.turn (Turn.pubRow r hr hes hsz) (by rintro _ _ _ ⟨blk, A, cp, h1, h2, rfl, rfl⟩; exact k blk A cp _ h1 h2)

/-- append(xs, y). -/
theorem EL.push {α : Type} [Rep α] {xs zs : List α} {y : α} {d t r q e sz by_ : Nat} {s x : Operand} {es : List Value} {v : Value} {n b1 s1 : Nat} {z z1 : List Value} {kd : TK} (hp : push xs y = some zs) (hes : Els G xs es) (hy : R G y v) (hT : TOk P T) (hg : goes lops env o.guard = true) (hd : okDst C.n gv o.dst = some d) (hng : noG gv = true)
    (ho : o.op = .call ⟨.builtin .append, #[s, x], #[t, t]⟩) (hs : ev env gv [] s = some (.row r)) (hx : ev env gv [] x = some (.row q)) (hr : nth L r = some (.row e sz n es)) (hq : nth L q = some (.row e sz 1 [v])) (hne : Nat.beq q r = false) (hn : n = xs.length)
    (ht : ti T t = some ⟨s1, b1, z1, .slice e⟩) (hte : ti T e = some ⟨sz, by_, z, kd⟩) (hz : Nat.beq (len' z) sz = true) (hpos : Nat.ble 1 sz = true) (hby : Nat.ble by_ 32768 = true)
    (next : ∀ blk val es', Els G zs es' → EL P lops Q C l ((d, some (.row r)) :: killE r blk val env) gv (setL (setL (killR r blk val L) q .gone) r (.row e sz zs.length es')) G) : EL P lops Q C (o :: l) env gv L G := by
  obtain ⟨h1, rfl⟩ := push_some hp
  subst hn
  exact EL.append (n' := (xs ++ [y]).length) (m := 1) (by omega) (by simp) hT hg hd hng ho hs hx hr hq hne ht hte hz hpos hby rfl (fun blk val => next blk val _ (hes.app (.one hy)))
/-- append(xs, ys...). -/
theorem EL.cat {α : Type} [Rep α] {xs ys zs : List α} {d t r e sz by_ : Nat} {s x : Operand} {es : List Value} {v : Value} {n b1 s1 : Nat} {z z1 : List Value} {kd : TK} (hp : cat xs ys = some zs) (hes : Els G xs es) (hy : R G ys v) (hT : TOk P T) (hg : goes lops env o.guard = true) (hd : okDst C.n gv o.dst = some d) (hng : noG gv = true)
    (ho : o.op = .call ⟨.builtin .append, #[s, x], #[t, t]⟩) (hs : ev env gv [] s = some (.row r)) (hx : ev env gv [] x = some (.v v)) (hr : nth L r = some (.row e sz n es)) (hn : n = xs.length)
    (ht : ti T t = some ⟨s1, b1, z1, .slice e⟩) (hte : ti T e = some ⟨sz, by_, z, kd⟩) (hsz0 : Rep.sz α = sz) (hz : Nat.beq (len' z) sz = true) (hpos : Nat.ble 1 sz = true) (hby : Nat.ble by_ 32768 = true)
    (next : ∀ blk val es', Els G zs es' → EL P lops Q C l ((d, some (.row r)) :: killE r blk val env) gv (setL (killR r blk val L) r (.row e sz zs.length es')) G) : EL P lops Q C (o :: l) env gv L G := by
  obtain ⟨h1, rfl⟩ := cat_some hp
  subst hn
  exact EL.appendP hy (by omega) (by simp) hT hg hd hng ho hs hx hr ht hte hsz0 hz hpos hby (fun blk val fs hfs => next blk val _ (hes.app hfs))
/-- make(.., n). -/
theorem EL.mk {α : Type} [Rep α] {zs : List α} {z0 : α} {d t e sz by_ b1 s1 : Nat} {x y : Operand} {k : IntKind} {n : Int} {z1 : List Value} {z : Value} {kd : TK} (hp : mk n z0 = some zs) (hz0 : R G z0 z) (hT : TOk P T) (hg : goes lops env o.guard = true) (hd : okDst C.n gv o.dst = some d)
    (ho : o.op = .makeSlice t x y) (hx : ev env gv [] x = some (.v (.int k n))) (hy : ev env gv [] y = some (.v (.int k n)))
    (ht : ti T t = some ⟨s1, b1, z1, .slice e⟩) (hte : ti T e = some ⟨sz, by_, z.cells.toList, kd⟩) (hz : Nat.beq (len' z.cells.toList) sz = true) (hpos : Nat.ble 1 sz = true) (hby : Nat.ble by_ 32768 = true) (hone : oneAll [] (vs z.cells.toList) = true)
    (next : ∀ es, Els G zs es → EL P lops Q C l ((d, some (.row (len' L))) :: env) gv (Proofs.Ytdiclbejalelfaa.app L (.row e sz zs.length es)) G) : EL P lops Q C (o :: l) env gv L G := by
  obtain ⟨h0, h1, rfl⟩ := mk_some hp
  refine EL.makeSlice hT hg hd ho hx hy h0 h1 ht hte hz hpos hby hone ?_
  have : Els G (List.replicate n.toNat z0) (List.replicate n.toNat z) := by
    generalize n.toNat = q
    induction q with
    | zero => exact .nil
    | succ q ih => exact .cons hz0 ih
  have h2 := next _ this
  rwa [List.length_replicate] at h2

/-- Where ways meet. -/
theorem E.join {c : Code} (J : Env → List Ent → Ghost → Prop) (hJ : ∀ env L G, J env L G → EX Q .normal C env L G) (h : (∀ env L G, J env L G → EX Q .normal C env L G) → E P c Q C env L G) : E P c Q C env L G := h hJ

/-! ### slots seen anew, and fewer resources -/
def cltB (m : Nat) : SV → Bool
  | .p r _ | .row r | .mp r | .ip _ r _ => Nat.blt r m
  | _ => true
def lbB (m : Nat) : List SV → Bool
  | [] => true
  | s :: l => match cltB m s with
    | true => lbB m l
    | false => false
def ltB (m : Nat) : SV → Bool
  | .agg cs | .fn _ cs => lbB m cs
  | s => cltB m s
def ltsB (m : Nat) : List SV → Bool
  | [] => true
  | s :: l => match ltB m s with
    | true => ltsB m l
    | false => false
def envB (m : Nat) : Env → Bool
  | [] => true
  | (_, none) :: l => envB m l
  | (_, some s) :: l => match ltB m s with
    | true => envB m l
    | false => false
def resB (m : Nat) : List Ent → Bool
  | [] => true
  | .box _ cs :: l => match lbB m cs with
    | true => resB m l
    | false => false
  | .sav ss _ :: l => match ltsB m ss with
    | true => resB m l
    | false => false
  | _ :: l => resB m l
theorem cltB_spec {m : Nat} {s : SV} (h : cltB m s = true) : s.clt m := by cases s <;> first | trivial | (simp only [cltB] at h; exact of_eq_true (Nat.blt_eq.symm.trans (eq_true h)))
theorem lbB_spec {m : Nat} {l : List SV} (h : lbB m l = true) : ∀ c ∈ l, SV.clt m c := by
  induction l with
  | nil => intro c hc; simp at hc
  | cons s l ih =>
    simp only [lbB] at h
    split at h
    · rename_i hs
      intro c hc
      rcases List.mem_cons.1 hc with rfl | hc
      · exact cltB_spec hs
      · exact ih h c hc
    · simp at h
theorem ltB_spec {m : Nat} {s : SV} (h : ltB m s = true) : s.lt m := by
  cases s with
  | agg cs => exact lbB_spec h
  | fn f cs => exact lbB_spec h
  | v x => trivial
  | tt => trivial
  | ff => trivial
  | p r o => exact cltB_spec (s := .p r o) h
  | row r => exact cltB_spec (s := .row r) h
  | mp r => exact cltB_spec (s := .mp r) h
  | ip t r o => exact cltB_spec (s := .ip t r o) h
theorem ltsB_spec {m : Nat} {l : List SV} (h : ltsB m l = true) : ∀ c ∈ l, SV.lt m c := by
  induction l with
  | nil => intro c hc; simp at hc
  | cons s l ih =>
    simp only [ltsB] at h
    split at h
    · rename_i hs
      intro c hc
      rcases List.mem_cons.1 hc with rfl | hc
      · exact ltB_spec hs
      · exact ih h c hc
    · simp at h
theorem envB_spec {m : Nat} {e : Env} (h : envB m e = true) : ∀ t s, find e t = some s → s.lt m := by
  induction e with
  | nil => intro t s ht; simp [find] at ht
  | cons x l ih =>
    obtain ⟨d, o⟩ := x
    intro t s ht
    cases o with
    | none =>
      simp only [find] at ht
      split at ht
      · simp at ht
      · exact ih h t s ht
    | some u =>
      simp only [envB] at h
      split at h
      · rename_i hu
        simp only [find] at ht
        split at ht
        · obtain rfl := Option.some.inj ht; exact ltB_spec hu
        · exact ih h t s ht
      · simp at h
theorem resB_spec {m : Nat} {l : List Ent} (h : resB m l = true) : ∀ (r : Nat) (e : Ent), l[r]? = some e → e.lt m := by
  induction l with
  | nil => intro r e hr; simp at hr
  | cons x l ih =>
    intro r e hr
    cases r with
    | zero =>
      simp at hr; subst hr
      cases x with
      | box t cs =>
        simp only [resB] at h
        split at h
        · rename_i hb; exact lbB_spec hb
        · simp at h
      | sav ss vs =>
        simp only [resB] at h
        split at h
        · rename_i hb; exact ltsB_spec hb
        · simp at h
      | _ => trivial
    | succ r =>
      refine ih ?_ r e (by simpa using hr)
      cases x with
      | box t cs =>
        simp only [resB] at h
        split at h
        · exact h
        · simp at h
      | sav ss vs =>
        simp only [resB] at h
        split at h
        · exact h
        · simp at h
      | _ => exact h
def SubP : List Ent → List Ent → Prop
  | [], _ => True
  | e' :: l', e :: l => (sameE e e' ∨ e = e') ∧ SubP l' l
  | _, _ => False
theorem SubP.get {l' l : List Ent} (h : SubP l' l) : ∀ (r : Nat) (e' : Ent), l'[r]? = some e' → ∃ e, l[r]? = some e ∧ (sameE e e' ∨ e = e') := by
  induction l' generalizing l with
  | nil => intro r e' h; simp at h
  | cons x l' ih => cases l with
    | nil => exact False.elim h
    | cons e l =>
      intro r e' hr
      cases r with
      | zero => simp at hr; subst hr; exact ⟨e, rfl, h.1⟩
      | succ r => simpa using ih h.2 r e' (by simpa using hr)
theorem Sim.fewer {hs : Nat → Hd} {a : Act} {w : World} (S : Sim C env L G hs a w) (he : SubS env' env) (h : SubP L' L) (h1 : envB (len' L') env' = true) (h2 : resB (len' L') L' = true) : Sim C env' L' G hs a w := by
  have S0 := S.anew he
  rw [len'_eq] at h1 h2
  refine ⟨S.defers, S.size, fun t s ht => ⟨(S0.slot t s ht).1, envB_spec h1 t s ht⟩, S.le, S.ok, S.new, S.below, fun r e hr => ?_, fun r e k hr hk => ?_, fun r r' e e' k k1 k2 k3 k4 => ?_⟩
  · obtain ⟨e0, h3, h4⟩ := h.get r e hr
    exact ⟨sameE_holds h4 (S.holds r e0 h3).1, resB_spec h2 r e hr⟩
  · obtain ⟨e0, h3, h4⟩ := h.get r e hr
    exact S.own r e0 k h3 (sameE_at h4 hk)
  · obtain ⟨e0, h5, h6⟩ := h.get r e k1
    obtain ⟨e1, h7, h8⟩ := h.get r' e' k2
    exact S.apart r r' e0 e1 k h5 h7 (sameE_at h6 k3) (sameE_at h8 k4)
theorem EX.fewer {x : Exit} (k : EX Q x C env' L' G) (he : SubS env' env) (h : SubP L' L) (h1 : envB (len' L') env' = true) (h2 : resB (len' L') L' = true) : EX Q x C env L G := fun hs a w S => k hs a w (S.fewer he h h1 h2)
theorem E.fewer {c : Code} (k : E P c Q C env' L' G) (he : SubS env' env) (h : SubP L' L) (h1 : envB (len' L') env' = true) (h2 : resB (len' L') L' = true) : E P c Q C env L G := fun hs a w S => k hs a w (S.fewer he h h1 h2)
end
end Go.Proofs.Ytdiclbejalelfaa
namespace Go.Proofs.Ytdiclbejalelfaa
open Go.RowKit
open Rep (R)
/-- The table is right: a type that is not asked for is left out. -/
def tabAt (P : Program) (l : List (Option Nat)) : Tab := l.map fun x => x.bind (TI.of P)
theorem ti_tabAt (P : Program) (l : List (Option Nat)) (h : ∀ (i t : Nat), l[i]? = some (some t) → t = i) : TOk P (tabAt P l) := by
  intro t x hx
  have : ∀ (l : List (Option Nat)) t, ti (tabAt P l) t = (l[t]?.bind id).bind (TI.of P) := by
    intro l
    induction l with
    | nil => intro t; rfl
    | cons y l ih => intro t; cases t with
      | zero => simp [tabAt, ti]
      | succ t => simp only [List.getElem?_cons_succ, ← ih t]; simp [tabAt, ti]
  rw [this] at hx
  cases hl : l[t]? with
  | none => rw [hl] at hx; simp at hx
  | some y => rw [hl] at hx; cases y with
    | none => simp at hx
    | some u => obtain rfl := h t u hl; simpa using hx
def idxOk : List (Option Nat) → Nat → Bool
  | [], _ => true
  | none :: l, i => idxOk l (i + 1)
  | some t :: l, i => Nat.beq t i && idxOk l (i + 1)
theorem idxOk_of {l : List (Option Nat)} : ∀ {m : Nat}, idxOk l m = true → ∀ (i t : Nat), l[i]? = some (some t) → t = m + i := by
  induction l with
  | nil => intro m _ i t h; simp at h
  | cons x l ih =>
    intro m hm i t h
    cases x with
    | none => cases i with
      | zero => simp at h
      | succ i => simp only [idxOk] at hm; have := ih hm i t (by simpa using h); omega
    | some u =>
      simp only [idxOk, Bool.and_eq_true] at hm
      cases i with
      | zero => simp at h; rw [← h, Nat.eq_of_beq_eq_true hm.1]; rfl
      | succ i => have := ih hm.2 i t (by simpa using h); omega
section
variable {P : Program} {T : Tab} {lops l l' : List Oper} {Q : Exit → Act → World → Prop} {C : Ctx} {env env' : Env} {gv gv' : GV} {L L' : List Ent} {G G' : Ghost} {o : Oper}
/-- A nil slice that lies in a variable becomes a row of the call's own, still empty. -/
theorem Turn.nilCell (r j : Nat) {t : TypeId} {cs cs' : List SV} (e sz : Nat) (hr : nth L r = some (.box t cs)) (hj : nth cs j = some (.v (.slice none 0 0))) (hset : setL cs j (.row (len' L)) = cs') :
    Turn C env L G (fun env' L' G' => env' = env ∧ L' = Proofs.Ytdiclbejalelfaa.app (setL L r (.box t cs')) (.row e sz 0 []) ∧ G' = G) := by
  intro hs a w S
  rw [nth_eq] at hr hj
  rw [setL_eq, len'_eq] at hset
  rw [app_eq, setL_eq]
  have hlt : r < L.length := (List.getElem?_eq_some_iff.1 hr).1
  have hv0 : Value.slice none 0 0 = .slice none 0 0 := rfl
  have S1 := S.adopt (B := w.heap.size) (ent := .row e sz 0 []) (hd := ⟨0, .slice none 0 0⟩) (fun r e k hr hk => (S.own r e k hr hk).2.1) S.below.size trivial ⟨rfl, by simp, by simp, World.ownsRow_nil _ _ _ _, by simp [Value.ownBlock]⟩ (fun k hk => by simp [Ent.at_, Value.ownBlock] at hk)
  refine ⟨_, _, _, _, ⟨rfl, rfl, rfl⟩, (?_ : Sim C env ((L.set r (.box t cs')) ++ [.row e sz 0 []]) G (fun q => if q = L.length then ⟨0, .slice none 0 0⟩ else hs q) a w)⟩
  have hget : ∀ (q : Nat) (f : Ent), ((L.set r (.box t cs')) ++ [Ent.row e sz 0 []])[q]? = some f → (q = r ∧ f = .box t cs') ∨ (q ≠ r ∧ (L ++ [Ent.row e sz 0 []])[q]? = some f) := by
    intro q f hq
    rcases Nat.decEq q r with hne | rfl
    · refine .inr ⟨hne, ?_⟩
      rcases Nat.lt_or_ge q L.length with h | h
      · rw [List.getElem?_append_left (by simpa using h), List.getElem?_set_ne (Ne.symm hne)] at hq
        rw [List.getElem?_append_left h]; exact hq
      · rw [List.getElem?_append_right (by simpa using h)] at hq
        rw [List.getElem?_append_right h]; simpa using hq
    · rw [List.getElem?_append_left (by simpa using hlt), List.getElem?_set_self hlt] at hq
      exact .inl ⟨rfl, by simpa using hq.symm⟩
  have hbox : (L ++ [Ent.row e sz 0 []])[r]? = some (.box t cs) := by rw [List.getElem?_append_left hlt]; exact hr
  obtain ⟨h1, h2⟩ := S1.holds r _ hbox
  have hcv : cvals (fun q => if q = L.length then (⟨0, .slice none 0 0⟩ : Hd) else hs q) cs' = cvals (fun q => if q = L.length then ⟨0, .slice none 0 0⟩ else hs q) cs := by
    subst hset
    simp only [cvals, List.map_set]
    refine List.ext_getElem? fun i => ?_
    rw [List.getElem?_set]
    split
    · rename_i hij; subst hij
      have hjl : j < cs.length := (List.getElem?_eq_some_iff.1 hj).1
      rw [List.getElem?_map, hj]; simp [SV.cval, hjl]
    · rfl
  have hcl : ∀ c ∈ cs', SV.clt (L.length + 1) c := by
    subst hset
    intro c hc
    rcases List.mem_or_eq_of_mem_set hc with hc | rfl
    · have := h2 c hc; simpa using this
    · exact Nat.lt_succ_self _
  have hlen : ((L.set r (.box t cs')) ++ [Ent.row e sz 0 []]).length = (L ++ [Ent.row e sz 0 []]).length := by simp
  refine ⟨S1.defers, S1.size, fun t s ht => ?_, S1.le, S1.ok, S1.new, S1.below, fun q f hq => ?_, fun q f k hq hk => ?_, fun q q' f f' k k1 k2 k3 k4 => ?_⟩
  · rw [hlen]; exact S1.slot t s ht
  · rw [hlen]
    rcases hget q f hq with ⟨rfl, rfl⟩ | ⟨_, hq'⟩
    · exact ⟨by simp only [Ent.holds, hcv]; exact h1, by rw [List.length_append]; exact hcl⟩
    · exact S1.holds q f hq'
  · rcases hget q f hq with ⟨rfl, rfl⟩ | ⟨_, hq'⟩
    · exact S1.own q _ k hbox hk
    · exact S1.own q f k hq' hk
  · rcases hget q f k1 with ⟨rfl, rfl⟩ | ⟨_, hq1⟩ <;> rcases hget q' f' k2 with ⟨rfl, rfl⟩ | ⟨_, hq2⟩
    · rfl
    · exact S1.apart q q' _ f' k hbox hq2 k3 k4
    · exact S1.apart q q' f _ k hq1 hbox k3 k4
    · exact S1.apart q q' f f' k hq1 hq2 k3 k4
theorem E.nilCell {c : Code} (r j : Nat) {t : TypeId} {cs cs' : List SV} (e sz : Nat) (hr : nth L r = some (.box t cs)) (hj : nth cs j = some (.v (.slice none 0 0))) (hset : setL cs j (.row (len' L)) = cs') (k : E P c Q C env (Proofs.Ytdiclbejalelfaa.app (setL L r (.box t cs')) (.row e sz 0 [])) G) : E P c Q C env L G :=
  E.turn (Turn.nilCell r j e sz hr hj hset) (by rintro _ _ _ ⟨rfl, rfl, rfl⟩; exact k)
end
def band (k : IntKind) (x y : Int) : Int := k.wrap ((BitVec.ofInt k.bits x &&& BitVec.ofInt k.bits y).toNat)
def bor (k : IntKind) (x y : Int) : Int := k.wrap ((BitVec.ofInt k.bits x ||| BitVec.ofInt k.bits y).toNat)
def bxor (k : IntKind) (x y : Int) : Int := k.wrap ((BitVec.ofInt k.bits x ^^^ BitVec.ofInt k.bits y).toNat)
def bandnot (k : IntKind) (x y : Int) : Int := k.wrap ((BitVec.ofInt k.bits x &&& ~~~(BitVec.ofInt k.bits y)).toNat)
section
variable {P : Program} {T : Tab} {lops l l' : List Oper} {Q : Exit → Act → World → Prop} {C : Ctx} {env env' : Env} {gv gv' : GV} {L L' : List Ent} {G G' : Ghost} {o : Oper}
theorem EL.drop (k : EL P lops Q C l env gnil L G) : EL P lops Q C l env gv L G := fun hs a w S g => k hs a w S (GOk.nil _ _ _ _)
theorem EX.retE {fn : Func} {vs : List Value} {β : Type} {e r : β} {Rf : Ghost → β → Value → Prop} (H : some e = some r) (hT : TOk P T) (h : resV T env L fn.results.toList = some vs) (hΦ : Rf G e (tup vs)) {n : Nat} {w0 : World} {G0 : Ghost} :
    EX (bodyPost P fn fun e w' => ∃ v G', e = .returned v ∧ Ext w0 w' G0 G' ∧ Rf G' r v) .ret ⟨n, w0, G0, fun _ => false⟩ env L G := by
  cases H
  exact EX.ret hT h hΦ
theorem EX.fallE {fn : Func} {vs : List Value} {β : Type} {e r : β} {Rf : Ghost → β → Value → Prop} (H : some e = some r) (hT : TOk P T) (h : resV T env L fn.results.toList = some vs) (hΦ : Rf G e (tup vs)) {n : Nat} {w0 : World} {G0 : Ghost} :
    EX (bodyPost P fn fun e w' => ∃ v G', e = .returned v ∧ Ext w0 w' G0 G' ∧ Rf G' r v) .normal ⟨n, w0, G0, fun _ => false⟩ env L G := by
  cases H
  exact EX.fall hT h hΦ
theorem upd_some {α : Type} {xs zs : List α} {i : Int} {y : α} (h : upd xs i y = some zs) : 0 ≤ i ∧ i < xs.length ∧ zs = xs.set i.toNat y := by
  unfold upd at h
  split at h
  · rename_i h0; exact ⟨h0.1, h0.2, (Option.some.inj h).symm⟩
  · simp at h
theorem EL.upd {α : Type} [Rep α] {xs zs : List α} {i : Int} {y : α} {t r e sz n by_ q : Nat} {x yo : Operand} {es : List Value} {z : List Value} {k : TK} {v : Value} (hp : upd xs i y = some zs) (hes : Els G xs es) (hy : R G y v)
    (hT : TOk P T) (hg : goes lops env o.guard = true) (hd : o.dst = none)
    (ho : o.op = .store t x yo) (hx : ev env gv [] x = some (.p r q)) (hq : q = i.toNat * sz) (hyo : ev env gv [] yo = some (.v v)) (hr : nth L r = some (.row e sz n es)) (hn : n = xs.length) (ht : ti T t = some ⟨sz, by_, z, k⟩) (hsz : Rep.sz α = sz)
    (next : ∀ es', Els G zs es' → EL P lops Q C l env gv (setL L r (.row e sz zs.length es')) G) : EL P lops Q C (o :: l) env gv L G := by
  obtain ⟨h0, h1, rfl⟩ := upd_some hp
  subst hn
  have h2 := next _ (All2.set (j := i.toNat) hes hy)
  rw [List.length_set] at h2
  exact EL.storeRow (j := i.toNat) (by omega) hT hg hd ho hx hq hyo hr ht ((Rep.size hy).trans hsz) (Rep.one hy) h2
theorem E.sub' {c : Code} (k : E P c Q C env' L G) (h : Sub env' env) : E P c Q C env L G := E.sub h k
theorem EX.sub' {e : Exit} (k : EX Q e C env' L G) (h : Sub env' env) : EX Q e C env L G := EX.sub h k
/-- The address of an element, ahead of all. -/
theorem idx_at {α : Type} [Rep α] {xs : List α} {i : Int} {y : α} {A : Option Addr} {n c : Nat} (hy : idx xs i = some y) (hs : R G xs (.slice A n c)) : ∃ b o u, A = some ⟨b, o, none⟩ ∧ n = xs.length ∧ R G y u ∧ CellsAt G b (o + i.toNat * Rep.sz α) u := by
  obtain ⟨h0, h1, h2, h3⟩ := idx_some hy
  obtain ⟨A', c', he, hl, hel⟩ := hs
  simp only [Value.slice.injEq] at he
  obtain ⟨rfl, rfl, rfl⟩ := he
  obtain ⟨b, o, rfl, hx⟩ := hel (by omega)
  obtain ⟨u, hu, hc⟩ := hx _ _ h3
  exact ⟨b, o, u, rfl, rfl, hu, hc⟩
theorem EL.indexAt {d t e b o' n c : Nat} {x ix : Operand} {k : IntKind} {i : Int} {b1 b2 : Nat} {z1 z2 : List Value} {s1 s2 : Nat} {kd : TK} (h0 : 0 ≤ i) (h1 : i < n) (hT : TOk P T) (hg : goes lops env o.guard = true) (hd : okDst C.n gv o.dst = some d)
    (ho : o.op = .indexAddr t x ix) (hx : ev env gv [] x = some (.v (.slice (some ⟨b, o', none⟩) n c))) (hi : ev env gv [] ix = some (.v (.int k i))) (ht : ti T t = some ⟨s1, b1, z1, .slice e⟩) (hte : ti T e = some ⟨s2, b2, z2, kd⟩)
    (next : EL P lops Q C l ((d, some (.v (.pointer (some ⟨b, o' + i.toNat * s2, none⟩)))) :: env) gv L G) : EL P lops Q C (o :: l) env gv L G := by
  refine EL.val (s := .v _) hg hd (fun hs a w S g => ⟨?_, trivial⟩) next
  obtain ⟨ud, hk, hr⟩ := run_und hT ht w
  obtain rfl := und_slice hk
  simp only [execOp, ho, ev_v S g hx, ev_v S g hi, Instr.indexAt, asIntOf, Sem.run_bind, Sem.run_pure, Result.andThen_ok, hr, SV.val, SV.cval]
  rw [if_pos ⟨h0, h1⟩, Sem.run_bind, run_size hT hte]
  simp only [Sem.run_pure, Result.andThen_ok, add_none]
end
end Go.Proofs.Ytdiclbejalelfaa
