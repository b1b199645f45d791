/- Regions whose order is drawn: new resources, each in a place that was kept for it; rows that grow; methods behind interface values. No condition. -/
import Derived.Test.YtdiclbejalelfaaFwR
import Derived.Test.YtdiclbejalelfaaFwS
set_option linter.unusedVariables false
set_option linter.unusedSimpArgs false
namespace Go.Proofs.Ytdiclbejalelfaa
open Go.RowKit
open Rep (R)

/-- What waits for what is not done is not done. -/
theorem ncl {b : Bool} (h : b = true → false = true) : b = false := by
  cases b with
  | false => rfl
  | true => exact absurd (h rfl) (by simp)
/-! ### what does not speak of a resource -/
def rnr (h m r : Nat) : Bool := match Nat.beq r h with
  | true => false
  | false => Nat.blt r m
def SV.cnr (h m : Nat) : SV → Bool
  | .p r _ => rnr h m r
  | .row r => rnr h m r
  | .mp r => rnr h m r
  | .ip _ r _ => rnr h m r
  | _ => true
def cnrs (h m : Nat) : List SV → Bool
  | [] => true
  | c :: l => match c.cnr h m with
    | true => cnrs h m l
    | false => false
def SV.nrB (h m : Nat) : SV → Bool
  | .agg cs => cnrs h m cs
  | .fn _ cs => cnrs h m cs
  | s => s.cnr h m
def snrs (h m : Nat) : List SV → Bool
  | [] => true
  | c :: l => match c.nrB h m with
    | true => snrs h m l
    | false => false
def Ent.nrB (h m : Nat) : Ent → Bool
  | .box _ cs => cnrs h m cs
  | .sav ss _ => snrs h m ss
  | _ => true
def NoRef (h m : Nat) (env : Env) : Prop := ∀ t s, find env t = some s → s.nrB h m = true
def NoRefL (h m : Nat) (L : List Ent) : Prop := ∀ e ∈ L, e.nrB h m = true
section
variable {h m : Nat}
theorem nrE_nil : NoRef h m [] := fun t s ht => by simp [find] at ht
theorem nrE_cons {d : Nat} {o : Option SV} {env : Env} (ho : ∀ s, o = some s → s.nrB h m = true) (he : NoRef h m env) : NoRef h m ((d, o) :: env) := fun t s ht => by
  simp only [find] at ht
  split at ht
  · exact ho s ht
  · exact he t s ht
theorem nrO_none : ∀ s : SV, (none : Option SV) = some s → s.nrB h m = true := fun s e => by simp at e
theorem nrO_some {u : SV} (hu : u.nrB h m = true) : ∀ s : SV, some u = some s → s.nrB h m = true := fun s e => Option.some.inj e ▸ hu
theorem nrO_if {b : Bool} {x y : Option SV} (hx : ∀ s, x = some s → s.nrB h m = true) (hy : ∀ s, y = some s → s.nrB h m = true) : ∀ s, (bif b then x else y) = some s → s.nrB h m = true := by
  cases b <;> assumption
theorem nrL_nil : NoRefL h m [] := fun e he => by simp at he
theorem nrL_cons {e : Ent} {L : List Ent} (he : e.nrB h m = true) (hl : NoRefL h m L) : NoRefL h m (e :: L) := fun x hx => (List.mem_cons.1 hx).elim (fun q => q ▸ he) (hl x)
theorem nrN_if {b : Bool} {x y : Ent} (hx : x.nrB h m = true) (hy : y.nrB h m = true) : (bif b then x else y).nrB h m = true := by
  cases b <;> assumption
theorem rnr_iff {r : Nat} (e : rnr h m r = true) : r ≠ h ∧ r < m := by
  unfold rnr at e
  split at e
  · simp at e
  · rename_i hb
    exact ⟨fun q => by subst q; simp at hb, by simpa using e⟩
theorem cnr_val {hs hs' : Nat → Hd} {c : SV} (e : c.cnr h m = true) (heq : ∀ r, r ≠ h → r < m → hs' r = hs r) {n : Nat} (hn : m ≤ n) : c.cval hs' = c.cval hs ∧ c.clt n := by
  cases c with
  | p r o => obtain ⟨h1, h2⟩ := rnr_iff e; exact ⟨by simp only [SV.cval, heq r h1 h2], Nat.lt_of_lt_of_le h2 hn⟩
  | row r => obtain ⟨h1, h2⟩ := rnr_iff e; exact ⟨by simp only [SV.cval, heq r h1 h2], Nat.lt_of_lt_of_le h2 hn⟩
  | mp r => obtain ⟨h1, h2⟩ := rnr_iff e; exact ⟨by simp only [SV.cval, heq r h1 h2], Nat.lt_of_lt_of_le h2 hn⟩
  | ip t r o => obtain ⟨h1, h2⟩ := rnr_iff e; exact ⟨by simp only [SV.cval, heq r h1 h2], Nat.lt_of_lt_of_le h2 hn⟩
  | v x => exact ⟨rfl, trivial⟩
  | tt => exact ⟨rfl, trivial⟩
  | ff => exact ⟨rfl, trivial⟩
  | agg cs => exact ⟨rfl, trivial⟩
  | fn f cs => exact ⟨rfl, trivial⟩
theorem cnrs_val {hs hs' : Nat → Hd} (heq : ∀ r, r ≠ h → r < m → hs' r = hs r) {n : Nat} (hn : m ≤ n) : ∀ {cs : List SV}, cnrs h m cs = true → cvals hs' cs = cvals hs cs ∧ ∀ c ∈ cs, SV.clt n c
  | [], _ => ⟨rfl, fun c hc => by simp at hc⟩
  | c :: l, e => by
    simp only [cnrs] at e
    split at e
    · rename_i hc
      obtain ⟨h1, h2⟩ := cnr_val hc heq hn
      obtain ⟨h3, h4⟩ := cnrs_val heq hn e
      refine ⟨by show _ :: cvals hs' l = _ :: cvals hs l; rw [h3, h1], fun x hx => ?_⟩
      rcases List.mem_cons.1 hx with rfl | hx
      · exact h2
      · exact h4 x hx
    · simp at e
theorem nr_val {hs hs' : Nat → Hd} {s : SV} (e : s.nrB h m = true) (heq : ∀ r, r ≠ h → r < m → hs' r = hs r) {n : Nat} (hn : m ≤ n) : s.val hs' = s.val hs ∧ s.lt n := by
  cases s with
  | agg cs => obtain ⟨h1, h2⟩ := cnrs_val heq hn (show cnrs h m cs = true from e); exact ⟨by simp only [SV.val, h1], h2⟩
  | fn f cs => obtain ⟨h1, h2⟩ := cnrs_val heq hn (show cnrs h m cs = true from e); exact ⟨by simp only [SV.val, h1], h2⟩
  | p r o => exact cnr_val (c := .p r o) e heq hn
  | row r => exact cnr_val (c := .row r) e heq hn
  | mp r => exact cnr_val (c := .mp r) e heq hn
  | ip t r o => exact cnr_val (c := .ip t r o) e heq hn
  | v x => exact ⟨rfl, trivial⟩
  | tt => exact ⟨rfl, trivial⟩
  | ff => exact ⟨rfl, trivial⟩
theorem snrs_val {hs hs' : Nat → Hd} (heq : ∀ r, r ≠ h → r < m → hs' r = hs r) {n : Nat} (hn : m ≤ n) : ∀ {ss : List SV}, snrs h m ss = true → svals hs' ss = svals hs ss ∧ ∀ c ∈ ss, SV.lt n c
  | [], _ => ⟨rfl, fun c hc => by simp at hc⟩
  | c :: l, e => by
    simp only [snrs] at e
    split at e
    · rename_i hc
      obtain ⟨h1, h2⟩ := nr_val hc heq hn
      obtain ⟨h3, h4⟩ := snrs_val heq hn e
      refine ⟨by show _ :: svals hs' l = _ :: svals hs l; rw [h3, h1], fun x hx => ?_⟩
      rcases List.mem_cons.1 hx with rfl | hx
      · exact h2
      · exact h4 x hx
    · simp at e
theorem ent_nr {hs hs' : Nat → Hd} {e : Ent} {w : World} {hd : Hd} (en : e.nrB h m = true) (heq : ∀ r, r ≠ h → r < m → hs' r = hs r) {n : Nat} (hn : m ≤ n) (hh : e.holds w hs hd) : e.holds w hs' hd ∧ e.lt n := by
  cases e with
  | box t cs => obtain ⟨h1, h2⟩ := cnrs_val heq hn (show cnrs h m cs = true from en); exact ⟨by simp only [Ent.holds, h1]; exact hh, h2⟩
  | sav ss vs => obtain ⟨h1, h2⟩ := snrs_val heq hn (show snrs h m ss = true from en); exact ⟨by simp only [Ent.holds, h1]; exact hh, h2⟩
  | row e sz n es => exact ⟨hh, trivial⟩
  | mp kvs => exact ⟨hh, trivial⟩
  | gone => exact ⟨trivial, trivial⟩
end

section
variable {P : Program} {T : Tab} {lops l l' : List Oper} {Q : Exit → Act → World → Prop} {C : Ctx} {env env' : Env} {gv gv' : GV} {L L' : List Ent} {G G' : Ghost} {o : Oper}

/-- A place is kept for what is made later. -/
theorem E.hole {c : Code} (k : E P c Q C env (Proofs.Ytdiclbejalelfaa.app L .gone) G) : E P c Q C env L G := by
  intro hs a w S
  have S1 := S.adopt (B := w.heap.size) (ent := .gone) (hd := ⟨0, undef⟩) (fun r e k hr hk => (S.own r e k hr hk).2.1) S.below.size trivial trivial (fun k hk => by simp [Ent.at_] at hk)
  rw [← app_eq] at S1
  exact k _ a w S1

/-- What was made takes the place that was kept for it. -/
theorem Sim.home {hs : Nat → Hd} {a : Act} {w : World} {h d : Nat} {ent : Ent} {s s' : SV} (S : Sim C ((d, some s) :: env) (L ++ [ent]) G hs a w) (hh : L[h]? = some .gone) (he : NoRef h L.length env) (hl : NoRefL h L.length L) (hc : ent.nrB h L.length = true)
    (hv : ∀ hs' : Nat → Hd, hs' h = hs L.length → s'.val hs' = s.val hs) (hlt : s'.lt L.length) : Sim C ((d, some s') :: env) (L.set h ent) G (fun r => if r = h then hs L.length else hs r) a w := by
  have hhl : h < L.length := (List.getElem?_eq_some_iff.1 hh).1
  have heq : ∀ r, r ≠ h → r < L.length → (fun r => if r = h then hs L.length else hs r) r = hs r := fun r h1 _ => if_neg h1
  have hent : (L ++ [ent])[L.length]? = some ent := by simp
  have hold : ∀ (r : Nat) (e : Ent), (L.set h ent)[r]? = some e → (r = h ∧ e = ent) ∨ (r ≠ h ∧ L[r]? = some e) := by
    intro r e hr
    rcases Nat.decEq r h with hne | rfl
    · rw [List.getElem?_set_ne (Ne.symm hne)] at hr; exact .inr ⟨hne, hr⟩
    · rw [List.getElem?_set_self hhl] at hr; exact .inl ⟨rfl, (Option.some.inj hr).symm⟩
  have happ : ∀ (r : Nat) (e : Ent), L[r]? = some e → (L ++ [ent])[r]? = some e := fun r e hr => by
    rw [List.getElem?_append_left (List.getElem?_eq_some_iff.1 hr).1]; exact hr
  refine ⟨S.defers, S.size, fun t u ht => ?_, S.le, S.ok, S.new, S.below, fun r e hr => ?_, fun r e k hr hk => ?_, fun r r' e1 e2 k h1 h2 h3 h4 => ?_⟩
  · rw [List.length_set]
    simp only [find] at ht
    split at ht
    · rename_i hdt
      obtain rfl := Nat.eq_of_beq_eq_true hdt
      obtain rfl := Option.some.inj ht
      refine ⟨?_, hlt⟩
      rw [hv _ (if_pos rfl)]
      exact (S.slot d s (by simp [find])).1
    · rename_i hdt
      obtain ⟨h1, h2⟩ := nr_val (he t u ht) heq (Nat.le_refl _)
      refine ⟨?_, h2⟩
      rw [h1]
      exact (S.slot t u (by simp only [find, hdt]; exact ht)).1
  · rw [List.length_set]
    rcases hold r e hr with ⟨rfl, rfl⟩ | ⟨hne, hr'⟩
    · simp only [if_pos]
      exact ent_nr hc heq (Nat.le_refl _) (S.holds _ _ hent).1
    · simp only [if_neg hne]
      exact ent_nr (hl e (List.mem_of_getElem? hr')) heq (Nat.le_refl _) (S.holds r e (happ r e hr')).1
  · rcases hold r e hr with ⟨rfl, rfl⟩ | ⟨hne, hr'⟩
    · simp only [if_pos] at hk
      exact S.own _ _ k hent hk
    · simp only [if_neg hne] at hk
      exact S.own r e k (happ r e hr') hk
  · have hb : ∀ (r : Nat) (e : Ent), L[r]? = some e → r ≠ L.length := fun r e hr => Nat.ne_of_lt (List.getElem?_eq_some_iff.1 hr).1
    rcases hold r e1 h1 with ⟨rfl, rfl⟩ | ⟨hne, hr1⟩ <;> rcases hold r' e2 h2 with ⟨rfl, rfl⟩ | ⟨hne', hr2⟩
    · rfl
    · simp only [if_pos] at h3
      simp only [if_neg hne'] at h4
      exact absurd (S.apart _ r' _ e2 k hent (happ _ _ hr2) h3 h4).symm (hb r' e2 hr2)
    · simp only [if_neg hne] at h3
      simp only [if_pos] at h4
      exact absurd (S.apart r _ e1 _ k (happ _ _ hr1) hent h3 h4) (hb r e1 hr1)
    · simp only [if_neg hne] at h3
      simp only [if_neg hne'] at h4
      exact S.apart r r' e1 e2 k (happ _ _ hr1) (happ _ _ hr2) h3 h4
theorem EX.homeP {x : Exit} (h : Nat) {d q : Nat} {ent : Ent} (hh : nth L h = some .gone) (he : NoRef h (len' L) env) (hl : NoRefL h (len' L) L) (hc : ent.nrB h (len' L) = true)
    (k : EX Q x C ((d, some (.p h q)) :: env) (setL L h ent) G) : EX Q x C ((d, some (.p (len' L) q)) :: env) (Proofs.Ytdiclbejalelfaa.app L ent) G := by
  intro hs a w S
  rw [app_eq, len'_eq] at S
  rw [len'_eq] at he hl hc
  rw [nth_eq] at hh
  rw [setL_eq] at k
  exact k _ a w (S.home hh he hl hc (fun hs' e => by simp only [SV.val, SV.cval, e]) (List.getElem?_eq_some_iff.1 hh).1)
theorem EX.homeR {x : Exit} (h : Nat) {d : Nat} {ent : Ent} (hh : nth L h = some .gone) (he : NoRef h (len' L) env) (hl : NoRefL h (len' L) L) (hc : ent.nrB h (len' L) = true)
    (k : EX Q x C ((d, some (.row h)) :: env) (setL L h ent) G) : EX Q x C ((d, some (.row (len' L))) :: env) (Proofs.Ytdiclbejalelfaa.app L ent) G := by
  intro hs a w S
  rw [app_eq, len'_eq] at S
  rw [len'_eq] at he hl hc
  rw [nth_eq] at hh
  rw [setL_eq] at k
  exact k _ a w (S.home hh he hl hc (fun hs' e => by simp only [SV.val, SV.cval, e]) (List.getElem?_eq_some_iff.1 hh).1)

/-! ### what spoke of a row's elder header -/
/-- One value, of one cell, that does not speak of a resource. -/
def SV.keepB (r : Nat) : SV → Bool
  | .agg _ => false
  | .fn _ _ => false
  | .p q _ => !(Nat.beq q r)
  | .row q => !(Nat.beq q r)
  | .mp q => !(Nat.beq q r)
  | .ip _ q _ => !(Nat.beq q r)
  | _ => true
theorem killS_keep {r blk : Nat} {val : Value} {u : SV} (h : u.keepB r = true) : killS r blk val u = u := by
  have hq : ∀ q, (!(Nat.beq q r)) = true → Nat.beq q r = false := fun q e => by
    cases hb : Nat.beq q r with
    | false => rfl
    | true => rw [hb] at e; simp at e
  cases u with
  | agg cs => simp [SV.keepB] at h
  | fn f cs => simp [SV.keepB] at h
  | p q o => simp only [killS, killC, hq q h]
  | row q => simp only [killS, killC, hq q h]
  | mp q => simp only [killS, killC, hq q h]
  | ip t q o => simp only [killS, killC, hq q h]
  | v x => rfl
  | tt => rfl
  | ff => rfl
theorem killE_keep {r blk : Nat} {val : Value} {t : Nat} {s : SV} (hs : s.keepB r = true) : ∀ {env : Env}, find env t = some s → find (killE r blk val env) t = some s
  | [], h => by simp [find] at h
  | (d, none) :: l, h => by
    simp only [find, killE] at h ⊢
    split at h
    · simp at h
    · exact killE_keep hs h
  | (d, some u) :: l, h => by
    simp only [find, killE] at h ⊢
    split at h
    · obtain rfl := Option.some.inj h
      rw [killS_keep hs]
    · exact killE_keep hs h
def Keeps (r : Nat) (env : Env) : Prop := ∀ t s, find env t = some s → s.keepB r = true
theorem kpE_nil {r : Nat} : Keeps r [] := fun t s ht => by simp [find] at ht
theorem kpE_cons {r d : Nat} {o : Option SV} {env : Env} (ho : ∀ s, o = some s → s.keepB r = true) (he : Keeps r env) : Keeps r ((d, o) :: env) := fun t s ht => by
  simp only [find] at ht
  split at ht
  · exact ho s ht
  · exact he t s ht
theorem kpO_none {r : Nat} : ∀ s : SV, (none : Option SV) = some s → s.keepB r = true := fun s e => by simp at e
theorem kpO_some {r : Nat} {u : SV} (hu : u.keepB r = true) : ∀ s : SV, some u = some s → s.keepB r = true := fun s e => Option.some.inj e ▸ hu
theorem kpO_if {r : Nat} {b : Bool} {x y : Option SV} (hx : ∀ s, x = some s → s.keepB r = true) (hy : ∀ s, y = some s → s.keepB r = true) : ∀ s, (bif b then x else y) = some s → s.keepB r = true := by
  cases b <;> assumption
theorem unkill_sub {r blk : Nat} {val : Value} (hk : Keeps r env') (hsub : Sub env' env) {d : Nat} {s : SV} : ∀ t u, find ((d, some s) :: env') t = some u → find ((d, some s) :: killE r blk val env) t = some u := by
  intro t u ht
  simp only [find] at ht ⊢
  split at ht
  · exact ht
  · rename_i hdt
    exact killE_keep (hk t u ht) (hsub.find t u ht)
theorem killR_nil {r blk : Nat} {val : Value} : killR r blk val [] = [] := rfl
theorem killR_cons {r blk : Nat} {val : Value} {e e' : Ent} {L L' : List Ent} (h : killN r blk val e = e') (hl : killR r blk val L = L') : killR r blk val (e :: L) = e' :: L' := by rw [killR, h, hl]
theorem killN_if {r blk : Nat} {val : Value} {b : Bool} {x y x' y' : Ent} (hx : killN r blk val x = x') (hy : killN r blk val y = y') : killN r blk val (bif b then x else y) = bif b then x' else y' := by
  cases b <;> assumption

/-- append(xs, y), the rest laid open. -/
theorem EL.pushX {α : Type} [Rep α] {xs zs : List α} {y : α} {d t r q e sz by_ : Nat} {s x : Operand} {es : List Value} {v : Value} {n b1 s1 : Nat} {z z1 : List Value} {kd : TK} {Lk : Value → List Ent} (hp : Proofs.Ytdiclbejalelfaa.push xs y = some zs) (hes : Els G xs es) (hT : TOk P T) (hg : goes lops env o.guard = true) (hd : okDst C.n gv o.dst = some d) (hng : noG gv = true)
    (ho : o.op = .call ⟨.builtin .append, #[s, x], #[t, t]⟩) (hs : ev env gv [] s = some (.row r)) (hx : ev env gv [] x = some (.row q)) (hr : nth L r = some (.row e sz n es)) (hq : nth L q = some (.row e sz 1 [v])) (hne : Nat.beq q r = false) (hn : n = xs.length)
    (ht : ti T t = some ⟨s1, b1, z1, .slice e⟩) (hte : ti T e = some ⟨sz, by_, z, kd⟩) (hz : Nat.beq (len' z) sz = true) (hpos : Nat.ble 1 sz = true) (hby : Nat.ble by_ 32768 = true) (env' : Env) (hk : Keeps r env') (hsub : Sub env' env) (hL : ∀ blk val, killR r blk val L = Lk val)
    (next : ∀ val, EL P lops Q C l ((d, some (.row r)) :: env') gv (setL (setL (Lk val) q .gone) r (.row e sz zs.length (es ++ [v]))) G) : EL P lops Q C (o :: l) env gv L G := by
  obtain ⟨h1, rfl⟩ := push_some hp
  subst hn
  refine EL.append (n' := (xs ++ [y]).length) (m := 1) (by omega) (by simp) hT hg hd hng ho hs hx hr hq hne ht hte hz hpos hby rfl (fun blk val => ?_)
  rw [hL]
  intro hh a w S g
  exact next val hh a w (S.weaken (unkill_sub hk hsub)) (g.any hng)
theorem push_els {α : Type} [Rep α] {xs zs : List α} {y : α} {es : List Value} {v : Value} (hp : push xs y = some zs) (hes : Els G xs es) (hy : R G y v) : Els G zs (es ++ [v]) := by
  obtain ⟨h1, rfl⟩ := push_some hp
  exact hes.app (.one hy)
theorem upd_els {α : Type} [Rep α] {xs zs : List α} {i : Int} {y : α} {es : List Value} {v : Value} (hp : upd xs i y = some zs) (hes : Els G xs es) (hy : R G y v) : Els G zs (es.set i.toNat v) := by
  obtain ⟨h0, h1, rfl⟩ := upd_some hp
  exact All2.set hes hy
/-- An element takes another's place, the rest laid open. -/
theorem EL.updX {α : Type} [Rep α] {xs zs : List α} {i : Int} {y : α} {t r e sz n by_ q : Nat} {x yo : Operand} {es : List Value} {z : List Value} {k : TK} {v : Value} (hp : Proofs.Ytdiclbejalelfaa.upd xs i y = some zs) (hes : Els G xs es) (hy : R G y v)
    (hT : TOk P T) (hg : goes lops env o.guard = true) (hd : o.dst = none)
    (ho : o.op = .store t x yo) (hx : ev env gv [] x = some (.p r q)) (hq : q = i.toNat * sz) (hyo : ev env gv [] yo = some (.v v)) (hr : nth L r = some (.row e sz n es)) (hn : n = xs.length) (ht : ti T t = some ⟨sz, by_, z, k⟩) (hsz : Rep.sz α = sz)
    (next : EL P lops Q C l env gv (setL L r (.row e sz zs.length (es.set i.toNat v))) G) : EL P lops Q C (o :: l) env gv L G := by
  obtain ⟨h0, h1, rfl⟩ := upd_some hp
  subst hn
  rw [List.length_set] at next
  exact EL.storeRow (j := i.toNat) (by omega) hT hg hd ho hx hq hyo hr ht ((Rep.size hy).trans hsz) (Rep.one hy) next

/-- A part of an element. -/
theorem part_sub {us vs l : List Value} {off n : Nat} (h1 : dropN off us = some l) (h2 : takeN n l = some vs) : ∀ (i : Nat) (c : Value), (Value.agg vs.toArray).cells.toList[i]? = some c → (Value.agg us.toArray).cells.toList[off + i]? = some c := by
  intro i c hc
  obtain rfl := dropN_eq h1
  obtain ⟨rfl, hl⟩ := takeN_eq h2
  simp only [Value.cells] at hc ⊢
  rw [List.getElem?_take] at hc
  split at hc
  · rwa [List.getElem?_drop] at hc
  · simp at hc
/-- A method of a value that an interface holds. -/
theorem EL.callI {d f t : Nat} {u ur : Value} {rx : Operand} {name : String} {xs : Array Operand} {tys : Array TypeId} {vs : List Value} {Φ : Ghost → Value → Prop} (hg : goes lops env o.guard = true) (hd : okDst C.n gv o.dst = some d)
    (ho : o.op = .call ⟨.invoke rx name, xs, tys⟩) (hrx : ev env gv [] rx = some (.v (.iface t u))) (hm : ∀ w, (method (P.types.size + Made.depth) t u name).run P w = .ok (f, ur) w)
    (hv : plainAll (ev env gv []) xs.toList = some vs) (hen : Enters P f) (spec : ∀ w, Holds G w → Ret P f (ur :: vs) w G Φ)
    (k : ∀ v G', GLe G G' → Φ G' v → EL P lops Q C l ((d, some (.v v)) :: env) gv L G') : EL P lops Q C (o :: l) env gv L G := by
  intro hs a w S g
  obtain ⟨h1, h2, h3⟩ := okDst_eq hd
  unfold wpList
  rw [if_pos (goes_wanted S hg)]
  have hargs : xs.map a.eval = vs.toArray := by rw [← plainAll_ev S g hv, ← Array.toList_map]
  have hrv : a.eval rx = .iface t u := ev_v S g hrx
  refine .inl ?_
  have hrun : (execOp a.eval o).run P w = .ok (.enter f (ur :: vs).toArray) w := by
    have hx : (#[a.eval rx] ++ vs.toArray : Array Value)[0]? = some (.iface t u) := by rw [hrv]; simp
    have hx2 : (#[a.eval rx] ++ vs.toArray : Array Value).extract 1 (#[a.eval rx] ++ vs.toArray : Array Value).size = vs.toArray := by simp
    simp only [execOp, ho, resolve, hargs, invoke, Sem.run_bind, Sem.run_pure, Result.andThen_ok, hx, hx2, callMethod, run_program, hm]
    rw [hen.run]
    simp
  unfold Oper.wp
  rw [hrun, Oper.upon_enter]
  refine Calls.mono (spec w S.ok) ?_
  rintro e w' ⟨v, G', rfl, hext, hΦ⟩
  show wpList P lops.toArray Q l (a.put o.dst v) w'
  rw [h1]
  exact k v G' hext.le hΦ hs _ w' ((S.ext hext).put h2 (s := .v v) trivial) (g.put h3 _)
end
end Go.Proofs.Ytdiclbejalelfaa
