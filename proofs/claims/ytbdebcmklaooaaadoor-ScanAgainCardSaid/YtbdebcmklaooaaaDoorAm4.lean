/- The abstract machine, part 4: A52 A53 A54 A55. -/
import Derived.Test.YtbdebcmklaooaaaDoorAm3
section
set_option linter.unusedSimpArgs false
set_option linter.unusedVariables false
/- How code runs, step by step: rules for simp. -/
set_option linter.unusedVariables false
set_option linter.unusedSimpArgs false
namespace Go.Proofs.YtbdebcmklaooaaaDoor.AM

/-- What comes behind the first half. -/
def sq (T : FTab) (b : HCode) (Q : Out → St → Prop) : Out → St → Prop := thenN (fun s => wpc T b s Q) Q
/-- What comes behind an operation. -/
def okA (r : Option (V × Store)) (d : Option Nat) (inK : Bool) (st : St) (K : St → Prop) : Prop := ∃ v σ, r = some (v, σ) ∧ K ({ st with σ := σ }.set d inK v)
def okR (c : CallA) (r : List HOp) (K : St → Prop) (s : St) : Prop := okP (opsRun c r s) K
def okD (c : CallA) (i : Nat) (is : List (Nat × List Nat)) (r : List HOp) (K : St → Prop) (s : St) : Prop := okP (opsRunD c i [] is r s) K
/-- A call in a region whose order is open. -/
def okF (f : Bool) (σ : Store) (r : Option (V × Store)) : Option (V × Store) := match r with
  | some (v, σ') => if f && !freshOk σ σ' then none else some (v, σ')
  | none => none

theorem okA_sm {v : V} {σ : Store} {d : Option Nat} {inK : Bool} {st : St} {K : St → Prop} : okA (some (v, σ)) d inK st K ↔ K ({ st with σ := σ }.set d inK v) := by
  simp only [okA, Option.some.injEq, Prod.mk.injEq]
  exact ⟨by rintro ⟨_, _, ⟨rfl, rfl⟩, h⟩; exact h, fun h => ⟨_, _, ⟨rfl, rfl⟩, h⟩⟩
theorem okA_no {d : Option Nat} {inK : Bool} {st : St} {K : St → Prop} : okA none d inK st K ↔ False := by
  simp [okA]
/-- A step behind a guard. -/
def okG (g : Option V) (want : Bool) (c : CallA) (d : Option Nat) (inK : Bool) (k : HK) (r : List HOp) (K : St → Prop) (st : St) : Prop :=
  match g with
  | some (.tr (.sc (.bool b))) => if b = want then okA (opA c k st) d inK st (okR c r K) else okP (opsRun c r (st.set d inK undefV)) K
  | some (.tr (.tup [])) => okP (opsRun c r (st.set d inK undefV)) K
  | _ => False
def okGD (g : Option V) (want : Bool) (c : CallA) (i n : Nat) (ns : List Nat) (is : List (Nat × List Nat)) (d : Option Nat) (inK : Bool) (k : HK) (r : List HOp) (K : St → Prop) (st : St) : Prop :=
  match g with
  | some (.tr (.sc (.bool b))) => if b = want then okA (okF (Nat.beq n 1) st.σ (opA (if Nat.beq n 1 then quietCall c else c) k (st.only ns))) d inK st (okD c (i + 1) is r K) else okP (opsRunD c (i + 1) [] is r (st.set d inK undefV)) K
  | some (.tr (.tup [])) => okP (opsRunD c (i + 1) [] is r (st.set d inK undefV)) K
  | _ => False
def okC (g : Option V) (T : FTab) (a b : HCode) (st : St) (Q : Out → St → Prop) : Prop :=
  match g with
  | some (.tr (.sc (.bool v))) => if v = true then wpc T a st Q else wpc T b st Q
  | _ => False
section
variable {T : FTab} {c : CallA} {e L : List (Nat × V)} {σ σ' : Store} {st : St} {Q : Out → St → Prop} {K : St → Prop} {a b : HCode} {v : V} {d : Nat} {k : HK} {r : List HOp} {ns : List Nat} {i : Nat} {is : List (Nat × List Nat)}

@[simp] theorem wpc_skip : wpc T .skip st Q ↔ Q .normal st := Iff.rfl
@[simp] theorem wpc_seq : wpc T (.seq a b) st Q ↔ wpc T a st (sq T b Q) := Iff.rfl
@[simp] theorem wpc_block {i : Nat} : wpc T (.block i b) st Q ↔ wpc T b st (blk i Q) := Iff.rfl
@[simp] theorem wpc_exit {i : Nat} : wpc T (.exit i) st Q ↔ Q (.exit i) st := Iff.rfl
@[simp] theorem wpc_ret : wpc T .ret st Q ↔ Q .ret st := Iff.rfl
@[simp] theorem wpc_loop_iff : wpc T (.loop b) st Q ↔ Wp T (.loop b) st Q := Iff.rfl
@[simp] theorem wpc_region {ops : List HOp} : wpc T (.region ops none) ⟨e, L, σ⟩ Q ↔ okP (opsRun (callL T) ops ⟨e, [], σ⟩) (Q .normal) := Iff.rfl
@[simp] theorem wpc_regionD {ops : List HOp} : wpc T (.region ops (some is)) ⟨e, L, σ⟩ Q ↔ okP (opsRunD (callL T) 0 [] is ops ⟨e, [], σ⟩) (Q .normal) := Iff.rfl
theorem wpc_cond {x : HO} : wpc T (.cond x a b) st Q ↔ ∃ v, st.get x = some (.tr (.sc (.bool v))) ∧ (v = true → wpc T a st Q) ∧ (v = false → wpc T b st Q) := Iff.rfl
theorem wpc_if {x : HO} {v : Bool} (h : st.get x = some (.tr (.sc (.bool v)))) : wpc T (.cond x a b) st Q ↔ (if v = true then wpc T a st Q else wpc T b st Q) := by
  rw [wpc_cond]
  constructor
  · rintro ⟨v', h', h1, h2⟩
    rw [h] at h'
    cases h'
    cases v with
    | true => exact h1 rfl
    | false => exact h2 rfl
  · intro h1
    refine ⟨v, h, fun e => ?_, fun e => ?_⟩ <;> subst e <;> simpa using h1
@[simp] theorem sq_n : sq T b Q .normal st ↔ wpc T b st Q := Iff.rfl
@[simp] theorem sq_e {i : Nat} : sq T b Q (.exit i) st ↔ Q (.exit i) st := Iff.rfl
@[simp] theorem sq_r : sq T b Q .ret st ↔ Q .ret st := Iff.rfl
attribute [simp] thenN_n thenN_e thenN_r blk_n blk_r
@[simp] theorem blk_exit {i j : Nat} : blk i Q (.exit j) st ↔ if Nat.beq j i then Q .normal st else Q (.exit j) st := by
  by_cases h : j = i
  · subst h; rw [blk_e]; simp
  · rw [blk_o h, if_neg]
    intro h2
    exact h (Nat.eq_of_beq_eq_true h2)
@[simp] theorem okP_sm : okP (some st) K ↔ K st := okP_some
@[simp] theorem okP_no : okP none K ↔ False := by simp [okP]
@[simp] theorem okR_iff : okR c r K st ↔ okP (opsRun c r st) K := Iff.rfl
@[simp] theorem okD_iff : okD c i is r K st ↔ okP (opsRunD c i [] is r st) K := Iff.rfl
@[simp] theorem ops_nil : okP (opsRun c [] st) K ↔ K st := okP_some
theorem ops_cons {o : HOp} : okP (opsRun c (o :: r) st) K ↔ okP (opStep c o st) (okR c r K) := by
  simp only [opsRun]
  cases h : opStep c o st with
  | none => simp
  | some s => simp
@[simp] theorem ops_step {d : Option Nat} {inK : Bool} : okP (opsRun c (⟨d, inK, k, none⟩ :: r) st) K ↔ okA (opA c k st) d inK st (okR c r K) := by
  rw [ops_cons]
  unfold opStep
  simp only [guardA]
  cases h : opA c k st with
  | none => simp [okA_no]
  | some p => obtain ⟨v, s⟩ := p; simp [okA_sm]
@[simp] theorem ops_okG {d : Option Nat} {inK want : Bool} {x : HO} :
    okP (opsRun c (⟨d, inK, k, some (x, want)⟩ :: r) st) K ↔ okG (st.get x) want c d inK k r K st := by
  rw [ops_cons]
  have key : ∀ g, st.get x = some (.tr (.sc (.bool g))) → (okP (opStep c ⟨d, inK, k, some (x, want)⟩ st) (okR c r K) ↔ okG (st.get x) want c d inK k r K st) := by
    intro b hg
    unfold opStep okG
    simp only [guardA, hg]
    by_cases h : b = want
    · subst h
      simp only [beq_self_eq_true, if_true]
      cases h : opA c k st with
      | none => simp [okA_no]
      | some p => obtain ⟨v, s⟩ := p; simp [okA_sm]
    · have : (b == want) = false := by simpa using h
      simp [this, h]
  cases hg : st.get x with
  | none => simp [opStep, guardA, hg, okG]
  | some v =>
    cases v with
    | tr t =>
      cases t with
      | sc s =>
        cases s with
        | bool b => rw [key b hg, hg]
        | _ => simp [opStep, guardA, hg, okG]
      | tup l => cases l <;> simp [opStep, guardA, hg, okG]
      | _ => simp [opStep, guardA, hg, okG]
    | _ => simp [opStep, guardA, hg, okG]
@[simp] theorem okG_tt {d : Option Nat} {inK : Bool} : okG (some (.tr (.sc (.bool true)))) true c d inK k r K st ↔ okA (opA c k st) d inK st (okR c r K) := by simp [okG]
@[simp] theorem okG_ff {d : Option Nat} {inK : Bool} : okG (some (.tr (.sc (.bool false)))) false c d inK k r K st ↔ okA (opA c k st) d inK st (okR c r K) := by simp [okG]
@[simp] theorem okG_tf {d : Option Nat} {inK : Bool} : okG (some (.tr (.sc (.bool true)))) false c d inK k r K st ↔ okP (opsRun c r (st.set d inK undefV)) K := by simp [okG]
@[simp] theorem okG_ft {d : Option Nat} {inK : Bool} : okG (some (.tr (.sc (.bool false)))) true c d inK k r K st ↔ okP (opsRun c r (st.set d inK undefV)) K := by simp [okG]
@[simp] theorem okG_u {d : Option Nat} {inK want : Bool} : okG (some undefV) want c d inK k r K st ↔ okP (opsRun c r (st.set d inK undefV)) K := by simp [okG, undefV]
@[simp] theorem wpc_okC {x : HO} : wpc T (.cond x a b) st Q ↔ okC (st.get x) T a b st Q := by
  cases h : st.get x with
  | none => simp [wpc, okC, h]
  | some v =>
    unfold okC
    split
    · rename_i b hb
      cases hb
      exact wpc_if h
    · rename_i hn
      simp only [wpc_cond, h, iff_false]
      rintro ⟨b, hb, _⟩
      exact hn b hb
@[simp] theorem okC_t : okC (some (.tr (.sc (.bool true)))) T a b st Q ↔ wpc T a st Q := by simp [okC]
@[simp] theorem okC_f : okC (some (.tr (.sc (.bool false)))) T a b st Q ↔ wpc T b st Q := by simp [okC]
@[simp] theorem okA_env : okA (some (v, σ')) (some d) true ⟨e, L, σ⟩ K ↔ K ⟨put e d v, L, σ'⟩ := by
  simp only [okA, Option.some.injEq, Prod.mk.injEq]
  exact ⟨by rintro ⟨_, _, ⟨rfl, rfl⟩, h⟩; exact h, fun h => ⟨_, _, ⟨rfl, rfl⟩, h⟩⟩
@[simp] theorem okA_loc : okA (some (v, σ')) (some d) false ⟨e, L, σ⟩ K ↔ K ⟨e, (d, v) :: L, σ'⟩ := by
  simp only [okA, Option.some.injEq, Prod.mk.injEq]
  exact ⟨by rintro ⟨_, _, ⟨rfl, rfl⟩, h⟩; exact h, fun h => ⟨_, _, ⟨rfl, rfl⟩, h⟩⟩
@[simp] theorem okA_none {inK : Bool} : okA (some (v, σ')) none inK ⟨e, L, σ⟩ K ↔ K ⟨e, L, σ'⟩ := by
  simp only [okA, Option.some.injEq, Prod.mk.injEq]
  exact ⟨by rintro ⟨_, _, ⟨rfl, rfl⟩, h⟩; exact h, fun h => ⟨_, _, ⟨rfl, rfl⟩, h⟩⟩
@[simp] theorem set_env : St.set ⟨e, L, σ⟩ (some d) true v = ⟨put e d v, L, σ⟩ := rfl
@[simp] theorem set_loc : St.set ⟨e, L, σ⟩ (some d) false v = ⟨e, (d, v) :: L, σ⟩ := rfl

@[simp] theorem opsD_nil : okP (opsRunD c i [] [] [] st) K ↔ K st := by simp [opsRunD, pendAll]
theorem opsD_cons {o : HOp} {n : Nat} (hn : n < 3) : okP (opsRunD c i [] ((n, ns) :: is) (o :: r) st) K ↔ okP (opStepD c n ns o st) (okD c (i + 1) is r K) := by
  have h1 : pendAll c i st.σ [] = true := rfl
  have h2 : pendAdd c n ns o st [] = [] := by
    unfold pendAdd
    split
    · omega
    · rfl
  simp only [opsRunD, h1, h2, Bool.not_true, Bool.and_false, Bool.false_eq_true, if_false]
  cases h : opStepD c n ns o st with
  | none => simp
  | some s => simp
@[simp] theorem opsD_0 {d : Option Nat} {inK : Bool} : okP (opsRunD c i [] ((0, ns) :: is) (⟨d, inK, k, none⟩ :: r) st) K ↔ okA (opA c k (st.only ns)) d inK st (okD c (i + 1) is r K) := by
  rw [opsD_cons (by omega)]
  have hb : Nat.beq 0 1 = false := rfl
  unfold opStepD
  simp only [guardA, hb, Bool.false_and, Bool.false_eq_true, if_false]
  cases h : opA c k (st.only ns) with
  | none => simp [okA_no]
  | some p => obtain ⟨v, s⟩ := p; simp [okA_sm]
@[simp] theorem opsD_2 {d : Option Nat} {inK : Bool} : okP (opsRunD c i [] ((2, ns) :: is) (⟨d, inK, k, none⟩ :: r) st) K ↔ okA (opA c k (st.only ns)) d inK st (okD c (i + 1) is r K) := by
  rw [opsD_cons (by omega)]
  have hb : Nat.beq 2 1 = false := rfl
  unfold opStepD
  simp only [guardA, hb, Bool.false_and, Bool.false_eq_true, if_false]
  cases h : opA c k (st.only ns) with
  | none => simp [okA_no]
  | some p => obtain ⟨v, s⟩ := p; simp [okA_sm]
@[simp] theorem opsD_1 {d : Option Nat} {inK : Bool} : okP (opsRunD c i [] ((1, ns) :: is) (⟨d, inK, k, none⟩ :: r) st) K ↔ okA (okF true st.σ (opA (quietCall c) k (st.only ns))) d inK st (okD c (i + 1) is r K) := by
  rw [opsD_cons (by omega)]
  have hb : Nat.beq 1 1 = true := rfl
  unfold opStepD okF
  simp only [guardA, hb, Bool.true_and, if_true]
  cases h : opA (quietCall c) k (st.only ns) with
  | none => simp [okA_no]
  | some p =>
    obtain ⟨v, s⟩ := p
    cases hf : freshOk st.σ s with
    | true => simp [okA_sm, hf]
    | false => simp [okA_no, hf]
theorem opsD_guard {d : Option Nat} {inK want g : Bool} {x : HO} {n : Nat} (hn : n < 3) (hg : (st.only ns).get x = some (.tr (.sc (.bool g)))) :
    okP (opsRunD c i [] ((n, ns) :: is) (⟨d, inK, k, some (x, want)⟩ :: r) st) K ↔ (if g = want then okA (okF (Nat.beq n 1) st.σ (opA (if Nat.beq n 1 then quietCall c else c) k (st.only ns))) d inK st (okD c (i + 1) is r K) else okP (opsRunD c (i + 1) [] is r (st.set d inK undefV)) K) := by
  rw [opsD_cons hn]
  unfold opStepD okF
  simp only [guardA, hg]
  by_cases h : g = want
  · subst h
    simp only [beq_self_eq_true, if_true]
    cases h : opA (if Nat.beq n 1 = true then quietCall c else c) k (st.only ns) with
    | none => simp [okA_no]
    | some p =>
      obtain ⟨v, s⟩ := p
      cases hf : freshOk st.σ s with
      | true => simp [okA_sm, hf]
      | false => cases hn : Nat.beq n 1 <;> simp [okA_sm, okA_no, hf]
  · have : (g == want) = false := by simpa using h
    simp [this, h]
@[simp] theorem opsD_okG {d : Option Nat} {inK want : Bool} {x : HO} {n : Nat} (hn : n < 3) :
    okP (opsRunD c i [] ((n, ns) :: is) (⟨d, inK, k, some (x, want)⟩ :: r) st) K ↔ okGD ((st.only ns).get x) want c i n ns is d inK k r K st := by
  have key : ∀ g, (st.only ns).get x = some (.tr (.sc (.bool g))) → (okP (opsRunD c i [] ((n, ns) :: is) (⟨d, inK, k, some (x, want)⟩ :: r) st) K ↔ okGD ((st.only ns).get x) want c i n ns is d inK k r K st) := by
    intro b hg
    rw [opsD_guard hn hg, hg]
    rfl
  cases hg : (st.only ns).get x with
  | none => rw [opsD_cons hn]; simp [opStepD, guardA, hg, okGD]
  | some v =>
    cases v with
    | tr t =>
      cases t with
      | sc s =>
        cases s with
        | bool b => rw [key b hg, hg]
        | _ => rw [opsD_cons hn]; simp [opStepD, guardA, hg, okGD]
      | tup l => rw [opsD_cons hn]; cases l <;> simp [opStepD, guardA, hg, okGD]
      | _ => rw [opsD_cons hn]; simp [opStepD, guardA, hg, okGD]
    | _ => rw [opsD_cons hn]; simp [opStepD, guardA, hg, okGD]
@[simp] theorem okGD_0 {d : Option Nat} {inK : Bool} : okGD (some (.tr (.sc (.bool true)))) true c i 0 ns is d inK k r K st ↔ okA (opA c k (st.only ns)) d inK st (okD c (i + 1) is r K) := by
  have hb : Nat.beq 0 1 = false := rfl
  unfold okGD okF
  simp only [hb, Bool.false_and, Bool.false_eq_true, if_false, if_true]
  cases h : opA c k (st.only ns) with
  | none => simp [okA_no]
  | some p => obtain ⟨v, s⟩ := p; simp [okA_sm]
@[simp] theorem okGD_2 {d : Option Nat} {inK : Bool} : okGD (some (.tr (.sc (.bool true)))) true c i 2 ns is d inK k r K st ↔ okA (opA c k (st.only ns)) d inK st (okD c (i + 1) is r K) := by
  have hb : Nat.beq 2 1 = false := rfl
  unfold okGD okF
  simp only [hb, Bool.false_and, Bool.false_eq_true, if_false, if_true]
  cases h : opA c k (st.only ns) with
  | none => simp [okA_no]
  | some p => obtain ⟨v, s⟩ := p; simp [okA_sm]
@[simp] theorem okGD_1 {d : Option Nat} {inK : Bool} : okGD (some (.tr (.sc (.bool true)))) true c i 1 ns is d inK k r K st ↔ okA (okF true st.σ (opA (quietCall c) k (st.only ns))) d inK st (okD c (i + 1) is r K) := by
  have hb : Nat.beq 1 1 = true := rfl
  unfold okGD
  simp only [hb, if_true]
@[simp] theorem okGD_f {d : Option Nat} {inK : Bool} {n : Nat} : okGD (some (.tr (.sc (.bool false)))) true c i n ns is d inK k r K st ↔ okP (opsRunD c (i + 1) [] is r (st.set d inK undefV)) K := by simp [okGD]
@[simp] theorem okGD_u {d : Option Nat} {inK want : Bool} {n : Nat} : okGD (some undefV) want c i n ns is d inK k r K st ↔ okP (opsRunD c (i + 1) [] is r (st.set d inK undefV)) K := by simp [okGD, undefV]
@[simp] theorem okF_same : okF true σ (some (v, σ)) = some (v, σ) := by
  have : freshOk σ σ = true := by
    unfold freshOk obVs
    simp [dirs.dirsL]
  simp [okF, this]
@[simp] theorem okF_false : okF false σ (some (v, σ')) = some (v, σ') := by simp [okF]

theorem lookOnly (k : Nat) : ∀ (ns : List Nat), look (onlyL e ns) k = if memN k ns then look e k else none
  | [] => rfl
  | t :: r => by
    have ih := lookOnly k r
    simp only [onlyL]
    cases h : Nat.beq t k with
    | true =>
      have := Nat.eq_of_beq_eq_true h
      subst this
      cases hl : look e t with
      | none => simp only [ih, memN, h, hl]; simp
      | some v => simp [look, memN]
    | false =>
      have hk : Nat.beq k t = false := by
        cases h2 : Nat.beq k t with
        | false => rfl
        | true => rw [Nat.eq_of_beq_eq_true h2] at h; simp at h
      cases hl : look e t with
      | none => simp only [ih, memN, h, Bool.false_or]
      | some v => simp only [look, hk, ih, memN, h, Bool.false_or, Bool.false_eq_true, if_false]
@[simp] theorem get_loc : St.get ⟨e, L, σ⟩ (.loc d) = look L d := rfl
@[simp] theorem get_env : St.get ⟨e, L, σ⟩ (.env d) = look e d := rfl
@[simp] theorem get_val : St.get st (.val v) = some v := rfl
@[simp] theorem only_loc : St.get (St.only ⟨e, L, σ⟩ ns) (.loc d) = if memN d ns then look L d else none := lookOnly d ns
@[simp] theorem only_env : St.get (St.only ⟨e, L, σ⟩ ns) (.env d) = if memN d ns then look e d else none := lookOnly d ns
@[simp] theorem only_st : (St.only st ns).σ = st.σ := rfl
@[simp] theorem gets_nil : St.gets st [] = some [] := rfl
attribute [simp] St.gets St.getp St.geto
theorem lookPut {k j : Nat} : ∀ {e : List (Nat × V)}, look (put e k v) j = if Nat.beq j k then some v else look e j
  | [] => rfl
  | (k', u) :: r => by
    unfold put
    cases h : Nat.beq k k' with
    | true =>
      simp only [if_true]
      have := Nat.eq_of_beq_eq_true h
      subst this
      unfold look
      cases h2 : Nat.beq j k <;> simp
    | false =>
      simp only [Bool.false_eq_true, if_false]
      unfold look
      rw [lookPut]
      cases h2 : Nat.beq j k' with
      | false => simp
      | true =>
        have := Nat.eq_of_beq_eq_true h2
        subst this
        cases h3 : Nat.beq j k with
        | false => simp
        | true =>
          have := Nat.eq_of_beq_eq_true h3
          subst this
          simp at h
attribute [simp] lookPut
@[simp] theorem look_cons {k j : Nat} : look ((k, v) :: e) j = if Nat.beq j k then some v else look e j := rfl
@[simp] theorem look_nil {j : Nat} : look [] j = none := rfl
attribute [simp] argsEnv memN

@[simp] theorem bind1_sm {β : Type} {f : V → Option β} : bind1 (some v) f = f v := rfl
@[simp] theorem bind1_no {β : Type} {f : V → Option β} : bind1 none f = none := rfl
@[simp] theorem pure1_sm : pure1 σ (some v) = some (v, σ) := rfl
@[simp] theorem pure1_no : pure1 σ none = none := rfl
@[simp] theorem skip1_sm : skip1 (some σ) = some (undefV, σ) := rfl
@[simp] theorem skip1_no : skip1 none = none := rfl
attribute [simp] opA o_mv o_pick o_alloc o_box o_build o_bslice o_load o_ldt o_store o_nilchk o_bin o_eqs o_un o_conv o_mkfn o_mkmap o_mkslice o_faddr o_field o_iaddr o_istr o_lookup o_mupd o_ment o_esto o_delete o_extract o_mkiface o_callf o_callv o_len o_cap o_append o_qappend o_copy o_clear o_minmax o_slicestr o_slice asBool?
attribute [simp] resultA resultsA
@[simp] theorem giv_n {rs : List HRes} {R : V → Store → Prop} : giv rs R .normal st ↔ ∃ v, resultA st rs = some v ∧ R v st.σ := Iff.rfl
@[simp] theorem giv_r {rs : List HRes} {R : V → Store → Prop} : giv rs R .ret st ↔ ∃ v, resultA st rs = some v ∧ R v st.σ := Iff.rfl

attribute [simp] bin_lss bin_gtr bin_leq bin_geq bin_add bin_sub bin_bool bin_str un_not
section
variable (k : IntKind) (x y : Int)
@[simp] theorem bin_eq : opBin .other .eql (.tr (.sc (.int k x))) (.tr (.sc (.int k y))) = some (.tr (.sc (.bool (decide (x = y))))) := by
  rw [bin_eql]
  congr 4
@[simp] theorem bin_neq : opBin .other .neq (.tr (.sc (.int k x))) (.tr (.sc (.int k y))) = some (.tr (.sc (.bool (!decide (x = y))))) := by
  have : (x != y) = !decide (x = y) := rfl
  simp [opBin, isNil, notNil, binSc, binInt, this]
@[simp] theorem bin_mul : opBin .other .mul (.tr (.sc (.int k x))) (.tr (.sc (.int k y))) = some (.tr (.sc (.int k (k.wrap (x * y))))) := by simp [opBin, isNil, notNil, binSc, binInt]
theorem bin_shr {k' : IntKind} (h : 0 ≤ y) : opBin .other .shr (.tr (.sc (.int k x))) (.tr (.sc (.int k' y))) = some (.tr (.sc (.int k (x.fdiv (2 ^ (min y.toNat k.bits)))))) := by
  have : ¬ y < 0 := by omega
  simp [opBin, isNil, notNil, binSc, binShift, this]
@[simp] theorem bin_boolne (x y : Bool) : opBin .bool .neq (.tr (.sc (.bool x))) (.tr (.sc (.bool y))) = some (.tr (.sc (.bool (!(x == y))))) := by simp [opBin, isNil, notNil, binSc]
@[simp] theorem bin_strne (s t : ByteArray) : opBin .other .neq (.tr (.sc (.string s))) (.tr (.sc (.string t))) = some (.tr (.sc (.bool (!bytesEq s.data.toList t.data.toList)))) := by simp [opBin, isNil, notNil, binSc, binStr]
@[simp] theorem conv_int {k' : IntKind} {σ : Store} : opConv (.toInt k) (.tr (.sc (.int k' x))) σ = some (.tr (.sc (.int k (k.wrap x))), σ) := rfl
end
end
end Go.Proofs.YtbdebcmklaooaaaDoor.AM
end
section
set_option linter.unusedSimpArgs false
set_option linter.unusedVariables false
/- Slices of whole numbers, with a place or without; loops that count. -/
set_option linter.unusedVariables false
set_option linter.unusedSimpArgs false
namespace Go.Proofs.YtbdebcmklaooaaaDoor.AM

def nE (k : IntKind) (x : Nat) : List Tree := [.sc (.int k (x : Int))]
theorem nE_len (k : IntKind) (x : Nat) : (nE k x).length = 1 := rfl
abbrev nv (k : IntKind) (x : Nat) : V := .tr (.sc (.int k (x : Int)))
abbrev iv (x : Int) : V := .tr (.sc (.int .i64 x))
abbrev bv (b : Bool) : V := .tr (.sc (.bool b))
/-- Cells of a place that holds whole numbers. -/
def cK (k : IntKind) (l : List Nat) : List V := l.map (nv k)

section
variable {k : IntKind} {l : List Nat} {i x : Nat} {σ : Store} {id n : Nat} {cap : Option Nat}
theorem cK_len : (cK k l).length = l.length := by simp [cK]
theorem room_ok {b : Nat} (h : n ≤ 1000000) (hb : b ≤ 8) : room n b = true := by
  unfold room
  have : n * (b + 1) ≤ 1000000 * 9 := Nat.mul_le_mul h (by omega)
  exact Nat.ble_eq_true_of_le (by omega)
theorem own_iaddr {g off : Nat} {k' : IntKind} {cs : List V} (hs : σ[id]? = some (.row cs g)) (hi : i < n) : opIaddr 1 (.own id g off n 1 cap) (.tr (.sc (.int k' (i : Int)))) σ = some (.ptr id g (off + i)) := by
  unfold opIaddr
  rw [asIdx_nat]
  simp only [hs, genOf, hi, true_and, Nat.mul_one]
  rw [if_pos trivial]
theorem cK_trees (l : List Nat) : cK k l = (l.flatMap (nE k)).map .tr := by
  induction l with
  | nil => rfl
  | cons x l ih =>
    simp only [List.flatMap_cons, List.map_append, ← ih]
    rfl
theorem snap_own {g d : Nat} (hs : σ[id]? = some (.row (cK k l) g)) (hn : n = l.length) : snap σ (d + 1) (.own id g 0 n 1 cap) = some (.row (l.flatMap (nE k)) l.length cap) := by
  subst hn
  have h1 : obCells σ id g = some (cK k l) := by simp [obCells, hs]
  have h2 : slice? (cK k l) 0 (l.length * 1) = some (cK k l) := by
    unfold slice?
    have : ((cK k l).drop 0).take (l.length * 1) = cK k l := by
      rw [List.drop_zero, Nat.mul_one, List.take_of_length_le (by rw [cK_len]; exact Nat.le_refl _)]
    simp only [this]
    rw [if_pos (by rw [cK_len, Nat.mul_one])]
  unfold snap
  simp only [h1, h2]
  rw [cK_trees, snapL_tr]
theorem sl_elems {v : V} (h : IsSl (nE k) l v) : elems σ 1 v = some (cK k l, l.length) := by
  rcases h with ⟨rfl, rfl⟩ | ⟨cap, rfl⟩
  · rfl
  · have := flat_len (nE_len k) l
    simp only [elems, this, if_true, cK_trees]
theorem app_nil {v : V} {b : Nat} (h : IsSl (nE k) l v) (hl : 0 < l.length) (hr : room l.length b = true) : opAppend 1 b nilSl v σ = some (.own σ.length 0 0 l.length 1 none, σ ++ [.row (cK k l) 0]) := by
  have h1 : ¬ l.length = 0 := by omega
  unfold opAppend nilSl
  simp [sl_elems h, hr, h1]
theorem app_own {v : V} {b g : Nat} {m : List Nat} (hs : σ[id]? = some (.row (cK k l) g)) (hn : n = l.length) (h : IsSl (nE k) m v) (hm : 0 < m.length) (hr : room m.length b = true) (hr2 : room l.length b = true) :
    opAppend 1 b (.own id g 0 n 1 none) v σ = some (.own id (g + 1) 0 (n + m.length) 1 none, σ.set id (.row (cK k (l ++ m)) (g + 1))) := by
  subst hn
  have h1 : ¬ m.length = 0 := by omega
  have h2 : slice? (cK k l) 0 (l.length * 1) = some (cK k l) := by
    unfold slice?
    have : ((cK k l).drop 0).take (l.length * 1) = cK k l := by
      rw [List.drop_zero, Nat.mul_one, List.take_of_length_le (by rw [cK_len]; exact Nat.le_refl _)]
    simp only [this]
    rw [if_pos (by rw [cK_len, Nat.mul_one])]
  have h3 : ¬ (0 + (l.length + m.length) * 1 ≤ (cK k l).length ∧ 0 < 1) := by rw [cK_len]; omega
  have h4 : (cK k m).all oneV = true := by
    rw [List.all_eq_true]
    intro x hx
    obtain ⟨y, _, rfl⟩ := List.mem_map.1 hx
    rfl
  have h5 : cK k l ++ cK k m = cK k (l ++ m) := by simp [cK]
  unfold opAppend
  simp only [sl_elems h, hr, hr2, hs, h2, h1, h4, h5, Bool.not_true, Bool.false_eq_true, if_false, if_true, ne_eq, not_true_eq_false, h3]
end

theorem T_iso {T : FTab} {f : FuncId} {fn : HFn} {vs : List V} {ts : List Tree} {σ : Store} {R : Tree → Prop} (hf : T f = some fn) (hm : fn.mode = .iso) (hl : fn.nargs = vs.length)
    (hs : snapL (snap σ deepN) vs = some ts) {σz : Store} (hz : freezeAll σ vs = some σz) (h : ∃ t, (∀ σ, callL T f (ts.map .tr) σ = some (.tr t, σ)) ∧ R t) : ∃ t σ', callL T f vs σ = some (.tr t, σ') ∧ R t ∧ (σ' = σ ∨ σ' = σz) := by
  obtain ⟨t, h1, hR⟩ := h
  obtain ⟨m, hm'⟩ := callL_some.1 (h1 [])
  cases m with
  | zero => simp [callA] at hm'
  | succ m =>
    rw [callA, hf] at hm'
    simp only [hm, snapL_tr] at hm'
    split at hm'
    · split at hm'
      · cases hm'
      · rename_i v σ1 hr
        split at hm'
        · cases hm'
        · rename_i t' hst
          have e : t' = t := by
            split at hm'
            · cases hm'; rfl
            · split at hm'
              · cases hm'; rfl
              · cases hm'
          subst e
          cases hn : noRows t' with
          | true =>
            refine ⟨t', σ, callL_some.2 ⟨m + 1, ?_⟩, hR, .inl rfl⟩
            rw [callA, hf]
            simp only [hm, hl, hs, hr, hst, hn, if_true]
          | false =>
            refine ⟨t', σz, callL_some.2 ⟨m + 1, ?_⟩, hR, .inr rfl⟩
            rw [callA, hf]
            simp only [hm, hl, hs, hr, hst, hn, hz, if_true, Bool.false_eq_true, if_false]
    · cases hm'

theorem dirs_cK (k : IntKind) : ∀ (l : List Nat), dirs.dirsL (cK k l) = []
  | [] => rfl
  | x :: l => by
    have := dirs_cK k l
    simp only [cK, List.map_cons, dirs.dirsL, dirs]
    exact this
theorem freeze_own1 {k : IntKind} {l : List Nat} {σ : Store} {id g n : Nat} {cap : Option Nat} (hs : σ[id]? = some (.row (cK k l) g))   : freezeAll σ [.own id g 0 n 1 cap] = some (σ.set id (.fro (l.flatMap (nE k)) g)) := by
  have hd : dirs.dirsL [.own id g 0 n 1 cap] = [id] := rfl
  have ho : obVs σ id = cK k l := by simp [obVs, hs]
  have hr : reachN σ 10000 [id] [] = [id] := by
    show reachN σ (9998 + 1 + 1) [id] [] = [id]
    unfold reachN
    simp only [memN, Bool.false_eq_true, if_false, ho, dirs_cK, List.append_nil]
    unfold reachN
    rfl
  unfold freezeAll
  rw [hd]
  simp only [hr]
  have hc : closedB σ [id] = true := by simp [closedB, ho, dirs_cK]
  simp only [hc]
  have hb : Nat.beq id id = true := by simp
  simp only [List.all_cons, List.all_nil, memN, hb, Bool.true_or, Bool.true_and, if_true]
  unfold freeze
  rw [hs]
  simp only
  rw [cK_trees, snapL_tr]
  rfl

theorem wpc_mono {T : FTab} : ∀ (a : HCode) (s : St) (Q Q' : Out → St → Prop), (∀ o s, Q o s → Q' o s) → wpc T a s Q → wpc T a s Q'
  | .skip, s, Q, Q', h, hw => h _ _ hw
  | .region ops dr, s, Q, Q', h, hw => okP_mono hw (h _)
  | .seq a b, s, Q, Q', h, hw => by
    refine wpc_mono a s _ _ (fun o s' hq => ?_) hw
    cases o with
    | normal => exact wpc_mono b s' Q Q' h hq
    | exit i => exact h _ _ hq
    | ret => exact h _ _ hq
  | .cond x a b, s, Q, Q', h, ⟨v, hx, ht, hf⟩ => ⟨v, hx, fun e => wpc_mono a s Q Q' h (ht e), fun e => wpc_mono b s Q Q' h (hf e)⟩
  | .block i b, s, Q, Q', h, hw => by
    refine wpc_mono b s _ _ (fun o s' hq => ?_) hw
    cases o with
    | normal => exact h _ _ hq
    | ret => exact h _ _ hq
    | exit j =>
      by_cases hj : j = i
      · subst hj
        rw [blk_e] at hq ⊢
        exact h _ _ hq
      · rw [blk_o hj] at hq ⊢
        exact h _ _ hq
  | .loop b, s, Q, Q', h, hw => Wp.mono hw h
  | .exit i, s, Q, Q', h, hw => h _ _ hw
  | .ret, s, Q, Q', h, hw => h _ _ hw
  | .bad, s, Q, Q', h, hw => hw

theorem wpc_up {T : FTab} {a : HCode} {Q : Out → St → Prop} (N : Nat) (I : Nat → St → Prop) {s : St} (h0 : I 0 s) (hr : ∀ i s, I i s → wpc T a s (thenN (fun s' => i < N ∧ I (i + 1) s') Q)) : Wp T (.loop a) s Q := by
  refine wpc_loop (fun n s => ∃ i, n = N - i ∧ I i s) N s ⟨0, rfl, h0⟩ ?_
  rintro n s ⟨i, rfl, hI⟩
  obtain h := hr i s hI
  have key : ∀ o s', thenN (fun s' => i < N ∧ I (i + 1) s') Q o s' → thenN (fun s' => ∃ k, k < N - i ∧ ∃ i, k = N - i ∧ I i s') Q o s' := by
    intro o s' hq
    cases o with
    | normal => exact ⟨N - (i + 1), by have := hq.1; omega, i + 1, rfl, hq.2⟩
    | exit j => exact hq
    | ret => exact hq
  exact wpc_mono a s _ _ key h

section
variable {n : Int}
theorem w64 (h0 : -9223372036854775808 ≤ n) (h : n ≤ 9223372036854775807) : IntKind.i64.wrap n = n := IntWalk.i64_in n ⟨h0, h⟩
@[simp] theorem shr_u64_32 (n : Int) : opBin .other .shr (.tr (.sc (.int .u64 n))) (.tr (.sc (.int .u64 32))) = some (.tr (.sc (.int .u64 (n / 4294967296)))) := by
  rw [bin_shr _ _ _ (by omega)]
  congr 4
  exact Int.fdiv_eq_ediv_of_nonneg _ (by decide)
@[simp] theorem shr_i64_32 (n : Int) : opBin .other .shr (.tr (.sc (.int .i64 n))) (.tr (.sc (.int .u64 32))) = some (.tr (.sc (.int .i64 (n / 4294967296)))) := by
  rw [bin_shr _ _ _ (by omega)]
  congr 4
  exact Int.fdiv_eq_ediv_of_nonneg _ (by decide)
end
attribute [simp] Int.natCast_inj
/- Structs: places of several cells. -/
attribute [simp] opBuild fillV mkAgg allTr
theorem splice_0 (a : V) (r : List V) (s : V) : splice (a :: r) 0 [s] = s :: r := by simp [splice]
theorem splice_1 (a b : V) (r : List V) (s : V) : splice (a :: b :: r) 1 [s] = a :: s :: r := by simp [splice]
@[simp] theorem one_b {b : Bool} : oneV (.tr (.sc (.bool b))) = true := rfl
@[simp] theorem one_i {k : IntKind} {n : Int} : oneV (.tr (.sc (.int k n))) = true := rfl
@[simp] theorem one_s {s : ByteArray} : oneV (.tr (.sc (.string s))) = true := rfl
@[simp] theorem one_l {a : Option Addr} {n c : Nat} : oneV (.tr (.sc (.slice a n c))) = true := rfl
@[simp] theorem one_r {cs : List Tree} {n : Nat} {c : Option Nat} : oneV (.tr (.row cs n c)) = true := rfl
@[simp] theorem one_p {cs : List Tree} {n : Nat} : oneV (.tr (.rptr cs n)) = true := rfl
@[simp] theorem one_o {i g o n s : Nat} {c : Option Nat} : oneV (.own i g o n s c) = true := rfl
@[simp] theorem one_q {i g o : Nat} : oneV (.ptr i g o) = true := rfl
@[simp] theorem one_m {i : Nat} : oneV (.mp i) = true := rfl
@[simp] theorem one_f {t : TypeId} {v : Tree} : oneV (.tr (.iface t v)) = true := rfl
@[simp] theorem cells_agg {cs : List V} : cellsOf (.agg cs) = cs := rfl
@[simp] theorem cells_tr {ts : List Tree} : cellsOf (.tr (.agg ts)) = ts.map .tr := rfl
theorem cells_one {v : V} (h : oneV v = true) : cellsOf v = [v] := by
  cases v with
  | tr t =>
    cases t with
    | sc s => cases s <;> first | rfl | cases h
    | _ => first | rfl | cases h
  | _ => first | rfl | cases h
@[simp] theorem cells_b {b : Bool} : cellsOf (.tr (.sc (.bool b))) = [.tr (.sc (.bool b))] := rfl
@[simp] theorem cells_i {k : IntKind} {n : Int} : cellsOf (.tr (.sc (.int k n))) = [.tr (.sc (.int k n))] := rfl
@[simp] theorem cells_s {s : ByteArray} : cellsOf (.tr (.sc (.string s))) = [.tr (.sc (.string s))] := rfl
@[simp] theorem cells_l {a : Option Addr} {n c : Nat} : cellsOf (.tr (.sc (.slice a n c))) = [.tr (.sc (.slice a n c))] := rfl
@[simp] theorem cells_r {cs : List Tree} {n : Nat} {c : Option Nat} : cellsOf (.tr (.row cs n c)) = [.tr (.row cs n c)] := rfl
@[simp] theorem cells_p {cs : List Tree} {n : Nat} : cellsOf (.tr (.rptr cs n)) = [.tr (.rptr cs n)] := rfl
@[simp] theorem cells_o {i g o n s : Nat} {c : Option Nat} : cellsOf (.own i g o n s c) = [.own i g o n s c] := rfl
@[simp] theorem cells_q {i g o : Nat} : cellsOf (.ptr i g o) = [.ptr i g o] := rfl
@[simp] theorem cells_m {i : Nat} : cellsOf (.mp i) = [.mp i] := rfl
@[simp] theorem cells_f {t : TypeId} {v : Tree} : cellsOf (.tr (.iface t v)) = [.tr (.iface t v)] := rfl
attribute [simp] splice_0 splice_1 snapL ofCells opAlloc
@[simp] theorem snap_tr {σ : Store} {n : Nat} {t : Tree} : snap σ n (.tr t) = some t := by cases n <;> simp only [snap]
@[simp] theorem noNil_row {cs : List Tree} {n : Nat} {c : Option Nat} : opBin .slice .eql (.tr (.row cs n c)) (.tr (.sc (.slice none 0 0))) = some (.tr (.sc (.bool false))) := rfl
@[simp] theorem noNil_own {i g o n s : Nat} {c : Option Nat} : opBin .slice .eql (.own i g o n s c) (.tr (.sc (.slice none 0 0))) = some (.tr (.sc (.bool false))) := rfl
@[simp] theorem isNil_nil : opBin .slice .eql (.tr (.sc (.slice none 0 0))) (.tr (.sc (.slice none 0 0))) = some (.tr (.sc (.bool true))) := rfl
end Go.Proofs.YtbdebcmklaooaaaDoor.AM
end
section
set_option linter.unusedSimpArgs false
set_option linter.unusedVariables false
/- Slices of one cell an element, stacks and queues, maps as lists of pairs. -/
set_option linter.unusedVariables false
set_option linter.unusedSimpArgs false
namespace Go.Proofs.YtbdebcmklaooaaaDoor.AM

/-- A slice without a place, of one cell an element. -/
def Rw (ts : List Tree) (v : V) : Prop := (ts = [] ∧ v = nilSl) ∨ ∃ cap, v = .tr (.row ts ts.length cap)
abbrev tE (t : Tree) : List Tree := [t]
theorem flat_tE : ∀ ts : List Tree, ts.flatMap tE = ts
  | [] => rfl
  | t :: ts => by rw [List.flatMap_cons, flat_tE ts]; rfl
theorem rw_isSl {ts : List Tree} {v : V} : Rw ts v ↔ IsSl tE ts v := by
  unfold Rw IsSl
  rw [flat_tE]
section
variable {ts : List Tree} {t : Tree} {v : V} {σ : Store} {id g n i : Nat} {cap : Option Nat}
theorem rw_len (h : Rw ts v) : opLen 1 v σ = some (nv .i64 ts.length) := isSl_len (rw_isSl.1 h)
theorem rw_iaddr (h : Rw ts v) (hi : ts[i]? = some t) (k : IntKind) : opIaddr 1 v (.tr (.sc (.int k (i : Int)))) σ = some (.tr (.rptr ts i)) := by
  have := isSl_iaddr (σ := σ) (rw_isSl.1 h) (c := 1) (fun _ => rfl) (by omega) (k := k) hi
  rwa [flat_tE, Nat.mul_one] at this
theorem rw_load (hi : ts[i]? = some t) : opLoad 1 false (.tr (.rptr ts i)) σ = some (.tr t) := by
  have := rptr_load0 (σ := σ) (agg := false) (E := tE) (c := 1) (fun _ => rfl) hi (s := 1) (by omega)
  rw [flat_tE, Nat.mul_one] at this
  rw [this]; rfl
theorem rw_ldt (hi : ts[i]? = some t) : opLdt 1 false (.tr (.rptr ts i)) = some (.tr t) := rw_load (σ := []) hi
/-- A literal of one element, without a place. -/
theorem bs1 (z : Tree) (h : oneV (.tr t) = true) : opBslice false 1 1 [z] [(0, 1, .tr t)] σ = some (.tr (.row [t] 1 (some 1)), σ) := by
  unfold opBslice
  simp [rep, fillV, cells_one h, splice, allTr]
theorem ownT_load (hs : σ[id]? = some (.row (ts.map .tr) g)) (hi : ts[i]? = some t) : opLoad 1 false (.ptr id g i) σ = some (.tr t) := by
  have h1 : obCells σ id g = some (ts.map .tr) := by simp [obCells, hs]
  have hlt := (List.getElem?_eq_some_iff.1 hi).1
  have hx : ts[i] = t := (List.getElem?_eq_some_iff.1 hi).2
  have h2 : slice? (ts.map V.tr) i 1 = some [.tr t] := by
    unfold slice?
    have : ((ts.map V.tr).drop i).take 1 = [.tr t] := by
      rw [List.drop_eq_getElem_cons (by rw [List.length_map]; exact hlt)]
      simp [hx]
    simp only [this]
    rfl
  simp only [opLoad, h1, h2, ofCells]
theorem snapT {off : Nat} {pre post : List Tree} {d : Nat} (hs : σ[id]? = some (.row ((pre ++ ts ++ post).map .tr) g)) (ho : pre.length = off) (hn : n = ts.length) : snap σ (d + 1) (.own id g off n 1 cap) = some (.row ts ts.length cap) := by
  subst hn
  have h1 : obCells σ id g = some ((pre ++ ts ++ post).map .tr) := by simp [obCells, hs]
  have h2 : slice? ((pre ++ ts ++ post).map V.tr) off (ts.length * 1) = some (ts.map .tr) := by
    unfold slice?
    have : (((pre ++ ts ++ post).map V.tr).drop off).take (ts.length * 1) = ts.map .tr := by
      rw [← ho, Nat.mul_one]
      simp
    simp only [this]
    rw [if_pos (by simp)]
  unfold snap
  simp only [h1, h2]
  rw [snapL_tr]
end

/-- A stack or queue: what it holds lies in a place, with something ahead of it and behind it. -/
def Stk (id : Nat) (td : List Tree) (w : V) (σ : Store) : Prop := ∃ g cap pre post, w = .own id g pre.length td.length 1 cap ∧ σ[id]? = some (.row ((pre ++ td ++ post).map .tr) g) ∧ ∀ c, cap = some c → c ≤ td.length + post.length
/-- A list that grows: nil at first. -/
def Gw (id : Nat) (td : List Tree) (w : V) (σ : Store) : Prop := (td = [] ∧ w = nilSl) ∨ Stk id td w σ
/-- A store that differs from another in one place at most, or has a new one behind. -/
structure Nxt (id : Nat) (σ σ' : Store) : Prop where
  len : σ.length ≤ σ'.length
  same : ∀ i, i ≠ id → i < σ.length → σ'[i]? = σ[i]?
theorem Nxt.refl (id : Nat) (σ : Store) : Nxt id σ σ := ⟨Nat.le_refl _, fun _ _ _ => rfl⟩
theorem Nxt.at {id i : Nat} {σ σ' : Store} {o : Ob} (h : Nxt id σ σ') (hs : σ[i]? = some o) (hi : i ≠ id) : σ'[i]? = some o := by
  rw [h.same i hi (List.getElem?_eq_some_iff.1 hs).1]; exact hs
section
variable {id : Nat} {td : List Tree} {t : Tree} {w v : V} {σ : Store} {b : Nat}
theorem Stk.len (h : Stk id td w σ) : opLen 1 w σ = some (nv .i64 td.length) := by
  obtain ⟨g, cap, pre, post, rfl, _, _⟩ := h
  rfl
theorem Gw.len (h : Gw id td w σ) : opLen 1 w σ = some (nv .i64 td.length) := by
  rcases h with ⟨rfl, rfl⟩ | h
  · rfl
  · exact h.len
theorem Stk.lt (h : Stk id td w σ) : id < σ.length := by
  obtain ⟨g, cap, pre, post, rfl, hs, _⟩ := h
  exact (List.getElem?_eq_some_iff.1 hs).1
theorem Stk.load (h : Stk id td w σ) {i : Nat} (hi : td[i]? = some t) (k : IntKind) : ∃ p, opIaddr 1 w (.tr (.sc (.int k (i : Int)))) σ = some p ∧ opLoad 1 false p σ = some (.tr t) := by
  obtain ⟨g, cap, pre, post, rfl, hs, _⟩ := h
  have hlt := (List.getElem?_eq_some_iff.1 hi).1
  refine ⟨.ptr id g (pre.length + i), own_iaddr hs hlt, ownT_load hs ?_⟩
  rw [List.getElem?_append_left (by simp; omega), List.getElem?_append_right (by omega), Nat.add_sub_cancel_left]
  exact hi
theorem Gw.load (h : Gw id td w σ) {i : Nat} (hi : td[i]? = some t) (k : IntKind) : ∃ p, opIaddr 1 w (.tr (.sc (.int k (i : Int)))) σ = some p ∧ opLoad 1 false p σ = some (.tr t) := by
  rcases h with ⟨rfl, rfl⟩ | h
  · simp at hi
  · exact h.load hi k
theorem Stk.snap (h : Stk id td w σ) (d : Nat) : ∃ cap, snap σ (d + 1) w = some (.row td td.length cap) := by
  obtain ⟨g, cap, pre, post, rfl, hs, _⟩ := h
  exact ⟨cap, snapT hs rfl rfl⟩
theorem Gw.snap (h : Gw id td w σ) (d : Nat) : ∃ t, Go.Proofs.YtbdebcmklaooaaaDoor.AM.snap σ (d + 1) w = some t ∧ Rw td (.tr t) := by
  rcases h with ⟨rfl, rfl⟩ | h
  · exact ⟨.sc (.slice none 0 0), by simp [nilSl], .inl ⟨rfl, rfl⟩⟩
  · obtain ⟨c, hc⟩ := h.snap d
    exact ⟨_, hc, .inr ⟨c, rfl⟩⟩
theorem Stk.mono (h : Stk id td w σ) {σ' : Store} (hs : σ'[id]? = σ[id]?) : Stk id td w σ' := by
  obtain ⟨g, cap, pre, post, rfl, h1, h2⟩ := h
  exact ⟨g, cap, pre, post, rfl, by rw [hs]; exact h1, h2⟩
theorem Gw.mono (h : Gw id td w σ) {σ' : Store} (hs : id < σ.length → σ'[id]? = σ[id]?) : Gw id td w σ' := by
  rcases h with h | h
  · exact .inl h
  · exact .inr (h.mono (hs h.lt))
/-- A list that grows, in no place that counts for another. -/
def Gx (bad : List Nat) (td : List Tree) (w : V) (σ : Store) : Prop := (td = [] ∧ w = nilSl) ∨ ∃ id, id ∉ bad ∧ td ≠ [] ∧ Stk id td w σ
theorem Gx.len {bad : List Nat} (h : Gx bad td w σ) : opLen 1 w σ = some (nv .i64 td.length) := by
  rcases h with ⟨rfl, rfl⟩ | ⟨id, _, _, h⟩
  · rfl
  · exact h.len
theorem Gx.load {bad : List Nat} (h : Gx bad td w σ) {i : Nat} (hi : td[i]? = some t) (k : IntKind) : ∃ p, opIaddr 1 w (.tr (.sc (.int k (i : Int)))) σ = some p ∧ opLoad 1 false p σ = some (.tr t) := by
  rcases h with ⟨rfl, rfl⟩ | ⟨id, _, _, h⟩
  · simp at hi
  · exact h.load hi k
theorem Gx.snap {bad : List Nat} (h : Gx bad td w σ) (d : Nat) : ∃ t, Go.Proofs.YtbdebcmklaooaaaDoor.AM.snap σ (d + 1) w = some t ∧ Rw td (.tr t) := by
  rcases h with h | ⟨id, _, _, h⟩
  · exact Gw.snap (id := 0) (.inl h) d
  · exact Gw.snap (.inr h) d
theorem Gx.sub {bad bad' : List Nat} (h : Gx bad td w σ) (hs : ∀ i ∈ bad', i ∈ bad) : Gx bad' td w σ := by
  rcases h with h | ⟨id, hb, hne, h⟩
  · exact .inl h
  · exact .inr ⟨id, fun hi => hb (hs _ hi), hne, h⟩
/-- Another place has turned, or new ones have come. -/
theorem Gx.move {bad bad' : List Nat} {j : Nat} {σ' : Store} (h : Gx bad td w σ) (hj : j ∈ bad) (hn : Nxt j σ σ') (hb : ∀ i ∈ bad', i ∈ bad ∨ σ.length ≤ i) : Gx bad' td w σ' := by
  rcases h with h | ⟨id, hi, hne, h⟩
  · exact .inl h
  · refine .inr ⟨id, fun hm => ?_, hne, h.mono (hn.same id (fun e => hi (e ▸ hj)) h.lt)⟩
    rcases hb id hm with h1 | h1
    · exact hi h1
    · have := h.lt; omega
end

section
variable {id : Nat} {w : V} {σ : Store}
end

/-- A map, as a list of keys and what they hold. -/
def MapOf {κ : Type} (enc : κ → Value) (kv : List (κ × V)) (id : Nat) (σ : Store) : Prop := ∃ es clock, σ[id]? = some (.map es clock) ∧ es.map (fun e => (e.key, e.val)) = kv.map fun p => (enc p.1, p.2)
section
variable {κ : Type} [DecidableEq κ] {enc : κ → Value} {kv : List (κ × V)} {id : Nat} {σ : Store}
theorem bytesEq_iff' : ∀ a b : List UInt8, bytesEq a b = decide (a = b)
  | [], [] => by simp [bytesEq]
  | [], _ :: _ => by simp [bytesEq]
  | _ :: _, [] => by simp [bytesEq]
  | a :: x, b :: y => by
    rw [bytesEq, bytesEq_iff' x y, Bool.eq_iff_iff]
    simp only [Bool.and_eq_true, Nat.beq_eq, decide_eq_true_eq, List.cons.injEq, UInt8.toNat_inj]
end
theorem MapOf.mono {κ : Type} {enc : κ → Value} {kv : List (κ × V)} {id : Nat} {σ σ' : Store} (h : MapOf enc kv id σ) (hs : σ'[id]? = σ[id]?) : MapOf enc kv id σ' := by
  obtain ⟨es, c, h1, h2⟩ := h
  exact ⟨es, c, by rw [hs]; exact h1, h2⟩
theorem MapOf.lt {κ : Type} {enc : κ → Value} {kv : List (κ × V)} {id : Nat} {σ : Store} (h : MapOf enc kv id σ) : id < σ.length := by
  obtain ⟨es, c, h1, h2⟩ := h
  exact (List.getElem?_eq_some_iff.1 h1).1
end Go.Proofs.YtbdebcmklaooaaaDoor.AM
end
section
set_option linter.unusedSimpArgs false
set_option linter.unusedVariables false
/- What is frozen when a place is handed to a function that sees trees. -/
set_option linter.unusedVariables false
set_option linter.unusedSimpArgs false
namespace Go.Proofs.YtbdebcmklaooaaaDoor.AM

/-- A list that grows, whose items may have places. -/
def GxV (bad : List Nat) (cs : List V) (w : V) (σ : Store) : Prop := (cs = [] ∧ w = nilSl) ∨ ∃ id g, id ∉ bad ∧ cs ≠ [] ∧ w = .own id g 0 cs.length 1 none ∧ σ[id]? = some (.row cs g)
theorem GxV.len {bad : List Nat} {cs : List V} {w : V} {σ σ' : Store} (h : GxV bad cs w σ) : opLen 1 w σ' = some (nv .i64 cs.length) := by
  rcases h with ⟨rfl, rfl⟩ | ⟨id, g, _, _, rfl, _⟩ <;> rfl
theorem GxV.keep {bad : List Nat} {cs : List V} {w : V} {σ σ' : Store} (h : GxV bad cs w σ) (hs : ∀ i, i ∉ bad → i < σ.length → σ'[i]? = σ[i]?) : GxV bad cs w σ' := by
  rcases h with h | ⟨id, g, h1, h2, h3, h4⟩
  · exact .inl h
  · exact .inr ⟨id, g, h1, h2, h3, by rw [hs id h1 (List.getElem?_eq_some_iff.1 h4).1]; exact h4⟩
/-- A list that grows, with the place that it lies in. -/
def Root (r : List Nat) (td : List Tree) (w : V) (σ : Store) : Prop := (r = [] ∧ td = [] ∧ w = nilSl) ∨ ∃ id, r = [id] ∧ td ≠ [] ∧ Stk id td w σ
section
variable {r : List Nat} {td : List Tree} {w : V} {σ σ' : Store} {t : Tree}
theorem Root.nil (σ : Store) : Root [] [] nilSl σ := .inl ⟨rfl, rfl, rfl⟩
theorem Root.lt (h : Root r td w σ) : ∀ i ∈ r, i < σ.length := by
  rcases h with ⟨rfl, _, _⟩ | ⟨id, rfl, _, h⟩
  · simp
  · intro i hi; simp at hi; subst hi; exact h.lt
theorem Root.keep (h : Root r td w σ) (hs : ∀ i ∈ r, σ'[i]? = σ[i]?) : Root r td w σ' := by
  rcases h with h | ⟨id, rfl, h1, h⟩
  · exact .inl h
  · exact .inr ⟨id, rfl, h1, h.mono (hs id (by simp))⟩
theorem Root.len (h : Root r td w σ) : opLen 1 w σ' = some (nv .i64 td.length) := by
  rcases h with ⟨_, rfl, rfl⟩ | ⟨id, _, _, g, cap, pre, post, rfl, _, _⟩ <;> rfl
theorem Root.load (h : Root r td w σ) {i : Nat} (hi : td[i]? = some t) (k : IntKind) : ∃ p, opIaddr 1 w (.tr (.sc (.int k (i : Int)))) σ = some p ∧ opLoad 1 false p σ = some (.tr t) := by
  rcases h with ⟨_, rfl, _⟩ | ⟨id, _, _, h⟩
  · simp at hi
  · exact h.load hi k
theorem Root.snap (h : Root r td w σ) (d : Nat) : ∃ t, Go.Proofs.YtbdebcmklaooaaaDoor.AM.snap σ (d + 1) w = some t ∧ Rw td (.tr t) := by
  rcases h with ⟨_, h1, h2⟩ | ⟨id, _, _, h⟩
  · exact Gw.snap (id := 0) (.inl ⟨h1, h2⟩) d
  · exact Gw.snap (.inr h) d
end
section
variable {T : FTab} {c : CallA} {σ : Store} {st : St} {K : St → Prop} {k : HK} {r : List HOp} {ns : List Nat} {i : Nat} {is : List (Nat × List Nat)} {d : Option Nat} {inK : Bool}
@[simp] theorem okGD_tf {n : Nat} : okGD (some (.tr (.sc (.bool true)))) false c i n ns is d inK k r K st ↔ okP (opsRunD c (i + 1) [] is r (st.set d inK undefV)) K := by simp [okGD]
@[simp] theorem okGD_ff0 : okGD (some (.tr (.sc (.bool false)))) false c i 0 ns is d inK k r K st ↔ okA (opA c k (st.only ns)) d inK st (okD c (i + 1) is r K) := by
  have hb : Nat.beq 0 1 = false := rfl
  unfold okGD okF
  simp only [hb, Bool.false_and, Bool.false_eq_true, if_false, if_true]
  cases h : opA c k (st.only ns) with
  | none => simp [okA_no]
  | some p => obtain ⟨v, s⟩ := p; simp [okA_sm]
@[simp] theorem okGD_ff2 : okGD (some (.tr (.sc (.bool false)))) false c i 2 ns is d inK k r K st ↔ okA (opA c k (st.only ns)) d inK st (okD c (i + 1) is r K) := by
  have hb : Nat.beq 2 1 = false := rfl
  unfold okGD okF
  simp only [hb, Bool.false_and, Bool.false_eq_true, if_false, if_true]
  cases h : opA c k (st.only ns) with
  | none => simp [okA_no]
  | some p => obtain ⟨v, s⟩ := p; simp [okA_sm]
@[simp] theorem okGD_ff1 : okGD (some (.tr (.sc (.bool false)))) false c i 1 ns is d inK k r K st ↔ okA (okF true st.σ (opA (quietCall c) k (st.only ns))) d inK st (okD c (i + 1) is r K) := by
  have hb : Nat.beq 1 1 = true := rfl
  unfold okGD
  simp only [hb, if_true]
end
end Go.Proofs.YtbdebcmklaooaaaDoor.AM
end
