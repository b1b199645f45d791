/- Regions whose order is drawn; functions as values; structs compared, maps of the call's own, copy. No condition. -/
import Derived.Test.YtdiclbejalelfaaFwK
import Derived.Orders
import Derived.MapKept
set_option linter.unusedVariables false
set_option linter.unusedSimpArgs false
namespace Go.Proofs.Ytdiclbejalelfaa
open Go.RowKit
open Rep (R)

section
variable {P : Program} {T : Tab} {lops l l' : List Oper} {Q : Exit → Act → World → Prop} {C : Ctx} {env env' : Env} {gv gv' : GV} {L L' : List Ent} {G G' : Ghost} {o : Oper}

/-! ### regions whose order is drawn -/
def falses : Nat → List Bool
  | 0 => []
  | n + 1 => false :: falses n
def trues : Nat → List Bool
  | 0 => []
  | n + 1 => true :: trues n
/-- What an operation waits for has come. -/
def Deps : List Edge → List Bool → Prop → Prop
  | [], _, p => p
  | e :: l, bs, p => match Region.binds .any e with
    | true => nth bs e.on = some true → Deps l bs p
    | false => Deps l bs p
theorem Deps.of {es : List Edge} {bs : List Bool} {p : Prop} (h : Deps es bs p) (k : ∀ e ∈ es, Region.binds .any e = true → bs[e.on]? = some true) : p := by
  induction es with
  | nil => exact h
  | cons e l ih =>
    simp only [Deps] at h
    split at h
    · rename_i hb
      exact ih (h (by rw [nth_eq]; exact k e List.mem_cons_self hb)) (fun x hx => k x (List.mem_cons_of_mem _ hx))
    · exact ih h (fun x hx => k x (List.mem_cons_of_mem _ hx))
def AllB : Nat → (List Bool → Prop) → Prop
  | 0, p => p []
  | n + 1, p => ∀ b, AllB n (fun l => p (b :: l))
theorem AllB.of {n : Nat} {p : List Bool → Prop} (h : AllB n p) : ∀ bs : List Bool, bs.length = n → p bs := by
  induction n generalizing p with
  | zero => intro bs hb; rw [List.eq_nil_of_length_eq_zero hb]; exact h
  | succ n ih =>
    intro bs hb
    cases bs with
    | nil => simp at hb
    | cons b bs => exact ih (h b) bs (by simpa using hb)
/-- What waits for an operation has not come. -/
def isIn (i : Nat) : List Edge → Bool
  | [] => false
  | e :: l => match Region.binds .any e, Nat.beq e.on i with
    | true, true => true
    | _, _ => isIn i l
def Waits (i : Nat) : Nat → List Oper → List Bool → Prop → Prop
  | _, [], _, p => p
  | j, o :: l, bs, p => match isIn i o.after.toList with
    | true => nth bs j = some false → Waits i (j + 1) l bs p
    | false => Waits i (j + 1) l bs p
theorem isIn_spec {i : Nat} {es : List Edge} (h : isIn i es = true) : ∃ e ∈ es, Region.binds .any e = true ∧ e.on = i := by
  induction es with
  | nil => simp [isIn] at h
  | cons e l ih =>
    simp only [isIn] at h
    split at h
    · rename_i h1 h2
      exact ⟨e, List.mem_cons_self, h1, Nat.eq_of_beq_eq_true h2⟩
    · obtain ⟨x, hx, h3⟩ := ih h
      exact ⟨x, List.mem_cons_of_mem _ hx, h3⟩
theorem Waits.of {i : Nat} {p : Prop} {bs : List Bool} : ∀ (l : List Oper) (k : Nat), Waits i k l bs p → (∀ (j : Nat) (o : Oper), l[j]? = some o → (∃ e ∈ o.after, Region.binds .any e = true ∧ e.on = i) → bs[k + j]? = some false) → p := by
  intro l
  induction l with
  | nil => intro k h _; exact h
  | cons o l ih =>
    intro k h hk
    have hk' : ∀ (j : Nat) (o : Oper), l[j]? = some o → (∃ e ∈ o.after, Region.binds .any e = true ∧ e.on = i) → bs[k + 1 + j]? = some false := fun j o hj he => by
      have := hk (j + 1) o (by simpa using hj) he
      rwa [show k + (j + 1) = k + 1 + j by omega] at this
    simp only [Waits] at h
    split at h
    · rename_i hi
      obtain ⟨e, he, h3⟩ := isIn_spec hi
      exact ih (k + 1) (h (by rw [nth_eq]; exact hk 0 o rfl ⟨e, by simpa using he, h3⟩)) hk'
    · exact ih (k + 1) h hk'
/-- One operation, once what it waits for has come. -/
def StepOk (P : Program) (lops : List Oper) (Q : Exit → Act → World → Prop) (C : Ctx) (J : List Bool → Env → List Ent → Ghost → Prop) (i : Nat) (o : Oper) : Prop :=
  AllB (len' lops) fun bs => nth bs i = some false → Waits i 0 lops bs (Deps o.after.toList bs (∀ env L G, J bs env L G → ∀ K : Act → World → Prop, (∀ env' L' G', J (setL bs i true) env' L' G' → EX (fun _ => K) .normal C env' L' G') → EL P lops (Exit.then K Q) C [o] env gnil L G))
def StepsOk (P : Program) (lops : List Oper) (Q : Exit → Act → World → Prop) (C : Ctx) (J : List Bool → Env → List Ent → Ghost → Prop) : Nat → List Oper → Prop
  | _, [] => True
  | i, o :: l => StepOk P lops Q C J i o ∧ StepsOk P lops Q C J (i + 1) l
theorem StepsOk.get {J : List Bool → Env → List Ent → Ghost → Prop} : ∀ (l : List Oper) (k i : Nat) (o : Oper), StepsOk P lops Q C J k l → l[i]? = some o → StepOk P lops Q C J (k + i) o := by
  intro l
  induction l with
  | nil => intro k i o _ h; simp at h
  | cons x l ih =>
    intro k i o h hi
    cases i with
    | zero => simp at hi; subst hi; exact h.1
    | succ i =>
      have := ih (k + 1) i o h.2 (by simpa using hi)
      rwa [show k + 1 + i = k + (i + 1) by omega] at this
def edgesOk : Nat → List Edge → Bool
  | _, [] => true
  | i, e :: l => match Region.binds .any e, Nat.blt e.on i with
    | true, false => false
    | _, _ => edgesOk i l
def afterOk : Nat → List Oper → Bool
  | _, [] => true
  | i, o :: l => match edgesOk i o.after.toList with
    | true => afterOk (i + 1) l
    | false => false
theorem edgesOk_spec {i : Nat} {es : List Edge} (h : edgesOk i es = true) : ∀ e ∈ es, Region.binds .any e = true → e.on < i := by
  induction es with
  | nil => simp
  | cons x l ih =>
    simp only [edgesOk] at h
    split at h
    · simp at h
    · rename_i hn
      intro e he hb
      rcases List.mem_cons.1 he with rfl | he
      · cases hlt : Nat.blt e.on i with
        | true => simpa using hlt
        | false => exact absurd hlt (fun h1 => hn hb h1)
      · exact ih h e he hb
theorem afterOk_spec : ∀ (l : List Oper) (k : Nat), afterOk k l = true → ∀ (i : Nat) (o : Oper), l[i]? = some o → ∀ e ∈ o.after, Region.binds .any e = true → e.on < k + i := by
  intro l
  induction l with
  | nil => intro k _ i o h; simp at h
  | cons x l ih =>
    intro k h i o hi e he hb
    simp only [afterOk] at h
    split at h
    · rename_i hx
      cases i with
      | zero => simp at hi; subst hi; exact edgesOk_spec hx e (by simpa using he) hb
      | succ i => have := ih (k + 1) h i o (by simpa using hi) e he hb; omega
    · simp at h
theorem falses_eq (n : Nat) : falses n = List.replicate n false := by
  induction n with
  | zero => rfl
  | succ n ih => rw [falses, ih]; rfl
theorem trues_eq (n : Nat) : trues n = List.replicate n true := by
  induction n with
  | zero => rfl
  | succ n ih => rw [trues, ih]; rfl

theorem wpAny_J {J : List Bool → Env → List Ent → Ghost → Prop} (hord : afterOk 0 lops = true) (steps : StepsOk P lops Q C J 0 lops) (fin : ∀ env L G, J (trues (len' lops)) env L G → EX Q .normal C env L G) :
    ∀ (fuel : Nat) (listed : Array Bool) (a : Act) (w : World), listed.size = lops.length → (listed.toList.countP (· == false)) ≤ fuel → (∀ (j : Nat) (o : Oper), lops[j]? = some o → listed[j]? = some true → ∀ e ∈ o.after, Region.binds .any e = true → listed[e.on]? = some true) → (∃ env L G hs, J listed.toList env L G ∧ Sim C env L G hs a w) → wpAny P .any lops.toArray Q fuel listed a w := by
  have notready : ∀ listed : Array Bool, listed.size = lops.length → Region.ready .any lops.toArray listed = [] → listed.toList = trues (len' lops) := by
    intro listed hsz hr
    have all : ∀ i, i < lops.length → listed[i]? = some true := by
      intro i
      induction i using Nat.strongRecOn with
      | _ i ih =>
        intro hi
        cases hb : listed[i]? with
        | none => rw [Array.getElem?_eq_none_iff] at hb; omega
        | some b =>
          cases b with
          | true => rfl
          | false =>
            have : i ∈ Region.ready .any lops.toArray listed := mem_ready.2 ⟨by simp [Array.getD_eq_getD_getElem?, hb], lops[i], by simp [hi], fun e he hbd => by
              have hlt := afterOk_spec lops 0 hord i lops[i] (List.getElem?_eq_getElem hi) e he hbd
              have := ih e.on (by omega) (by omega)
              simp [Array.getD_eq_getD_getElem?, this]⟩
            rw [hr] at this; simp at this
    rw [trues_eq, len'_eq]
    refine List.ext_getElem? fun j => ?_
    by_cases hj : j < lops.length
    · rw [Array.getElem?_toList, all j hj]; simp [hj]
    · rw [List.getElem?_eq_none (by simp; omega), List.getElem?_eq_none (by simp; omega)]
  intro fuel
  induction fuel with
  | zero =>
    intro listed a w hsz hc hcl ⟨env, L, G, hs, hJ, S⟩
    have hr : Region.ready .any lops.toArray listed = [] := by
      cases hr : Region.ready .any lops.toArray listed with
      | nil => rfl
      | cons i r =>
        exfalso
        have hi : i ∈ Region.ready .any lops.toArray listed := by rw [hr]; exact List.mem_cons_self
        have hf := (mem_ready.1 hi).1
        have hmem : false ∈ listed.toList := by
          rw [Array.getD_eq_getD_getElem?] at hf
          cases hb : listed[i]? with
          | none => rw [hb] at hf; simp at hf
          | some b => rw [hb] at hf; simp at hf; subst hf; exact Array.mem_toList_iff.2 (Array.mem_of_getElem? hb)
        have := List.countP_pos_iff (p := fun b : Bool => b == false).2 ⟨false, hmem, by simp⟩
        omega
    exact ⟨hr, fin _ _ _ (by rw [← notready listed hsz hr]; exact hJ) hs a w S⟩
  | succ fuel ihf =>
    intro listed a w hsz hc hcl ⟨env, L, G, hs, hJ, S⟩
    refine ⟨fun hr => fin _ _ _ (by rw [← notready listed hsz hr]; exact hJ) hs a w S, fun i hi => ?_⟩
    obtain ⟨hf, o, ho, hdeps⟩ := mem_ready.1 hi
    have ho' : lops[i]? = some o := by simpa using ho
    have hli : i < lops.length := (List.getElem?_eq_some_iff.1 ho').1
    have hbi : listed[i]? = some false := by
      rw [Array.getD_eq_getD_getElem?] at hf
      cases hb : listed[i]? with
      | none => rw [hb] at hf; simp at hf
      | some b => rw [hb] at hf; simp at hf; rw [hf]
    have hstep := AllB.of (StepsOk.get lops 0 i o steps ho') listed.toList (by rw [Array.length_toList, hsz, len'_eq])
    rw [Nat.zero_add] at hstep
    have hstep1 := Waits.of lops 0 (hstep (by rw [nth_eq, Array.getElem?_toList]; exact hbi)) (fun j o' hj ⟨e, he, hb, hon⟩ => by
      rw [Nat.zero_add, Array.getElem?_toList]
      have hjl : j < listed.size := by rw [hsz]; exact (List.getElem?_eq_some_iff.1 hj).1
      cases hv : listed[j]? with
      | none => rw [Array.getElem?_eq_none_iff] at hv; omega
      | some b =>
        cases b with
        | false => rfl
        | true => have := hcl j o' hj hv e he hb; rw [hon, hbi] at this; simp at this)
    have hstep2 := hstep1.of (fun e he hb => by
      have := hdeps e (by simpa using he) hb
      rw [Array.getElem?_toList]
      rw [Array.getD_eq_getD_getElem?] at this
      cases hb2 : listed[e.on]? with
      | none => rw [hb2] at this; simp at this
      | some b => rw [hb2] at this; simp at this; rw [this]) env L G hJ (wpAny P .any lops.toArray Q fuel (listed.setIfInBounds i true)) (fun env' L' G' hJ' hs' a' w' S' => by
      refine ihf _ a' w' (by simp [hsz]) ?_ (fun j o' hj hv e he hb => ?_) ⟨env', L', G', hs', ?_, S'⟩
      · rw [Array.toList_setIfInBounds]
        have : ∀ (bs : List Bool) (i : Nat), bs[i]? = some false → (bs.set i true).countP (· == false) + 1 = bs.countP (· == false) := by
          intro bs
          induction bs with
          | nil => intro i h; simp at h
          | cons b bs ih =>
            intro i h
            cases i with
            | zero => simp at h; subst h; simp
            | succ i => have := ih i (by simpa using h); simp only [List.set_cons_succ, List.countP_cons]; omega
        have := this listed.toList i (by rw [Array.getElem?_toList]; exact hbi)
        omega
      · have hdone : listed[e.on]? = some true := by
          by_cases hji : j = i
          · subst hji
            rw [ho'] at hj
            obtain rfl := Option.some.inj hj
            have := hdeps e he hb
            rw [Array.getD_eq_getD_getElem?] at this
            cases hb2 : listed[e.on]? with
            | none => rw [hb2] at this; simp at this
            | some b => rw [hb2] at this; simp at this; rw [this]
          · rw [Array.getElem?_setIfInBounds, if_neg (fun h => hji h.symm)] at hv
            exact hcl j o' hj hv e he hb
        rw [Array.getElem?_setIfInBounds]
        split
        · rename_i h; subst h; rw [hbi] at hdone; simp at hdone
        · exact hdone
      · rw [setL_eq] at hJ'
        rw [Array.toList_setIfInBounds]; exact hJ')
    have hx := hstep2 hs a w S (GOk.nil _ _ _ _)
    unfold wpList at hx
    unfold wpOp
    simp only [ho]
    split
    · rename_i hw
      rw [if_pos hw] at hx
      refine hx.imp (fun h => ?_) (fun h => ⟨h.1, ?_⟩)
      · unfold Oper.wp at h ⊢
        generalize (execOp a.eval o).run P w = r at h ⊢
        cases r with
        | ok n w' =>
          cases n <;> simp only [Oper.upon] at h ⊢ <;>
            first
              | exact h
              | exact Calls.mono h (fun e w'' he => by cases e <;> first | exact he | exact he)
              | exact Rows.mono h (fun _ _ he => he)
        | halt x w' => cases x <;> simp only [Oper.upon] at h ⊢ <;> exact h
      · exact h.2
    · rename_i hw
      rw [if_neg hw] at hx
      exact hx

/-- Whatever order is drawn: a relation on what has been done, that each operation hands on. -/
theorem E.draw {id : Nat} (hm : P.follows .mixedOrders = true) (J : List Bool → Env → List Ent → Ghost → Prop) (h0 : J (falses (len' lops)) env L G) (hord : afterOk 0 lops = true)
    (steps : StepsOk P lops Q C J 0 lops) (fin : ∀ env L G, J (trues (len' lops)) env L G → EX Q .normal C env L G) : E P (.region id lops.toArray true) Q C env L G := by
  intro hs a w S
  refine wp_region_any hm (wpAny_J hord steps fin _ _ _ _ (by simp) ?_ (fun j o hj hv => ?_) ⟨env, L, G, hs, ?_, S.grow ⟨rfl, ?_, rfl, Nat.le_refl _, fun _ _ => rfl⟩⟩)
  · have := List.countP_le_length (p := (· == false)) (l := (Array.replicate lops.toArray.size false).toList)
    simpa using this
  · exfalso
    rw [Array.getElem?_replicate] at hv
    split at hv <;> simp at hv
  · rw [falses_eq, len'_eq] at h0
    simpa using h0
  · rfl
end
end Go.Proofs.Ytdiclbejalelfaa
