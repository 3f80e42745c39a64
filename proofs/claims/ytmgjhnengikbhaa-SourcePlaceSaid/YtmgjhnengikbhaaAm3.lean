/- The abstract machine, part 3: A39 A40 A41 A42 A401 A43 A44 A45 A46 A47 A48 A49. -/
import Derived.Test.YtmgjhnengikbhaaAm2
import Derived.ChangeArms
import Derived.WideShapes
section
set_option linter.unusedSimpArgs false
set_option linter.unusedVariables false
/- What a call says, a call that says more says. -/
set_option linter.unusedVariables false
set_option linter.unusedSimpArgs false
namespace Go.Proofs.Ytmgjhnengikbhaa.AM

def CallLe (c c' : CallA) : Prop := ∀ f vs σ r, c f vs σ = some r → c' f vs σ = some r

section
variable {c c' : CallA} (hc : CallLe c c')
include hc

theorem opA_le {k : HK} {st : St} {r : V × Store} (e : opA c k st = some r) : opA c' k st = some r := by
  cases k with
  | callf f args =>
    simp only [opA, o_callf] at e ⊢
    split at e
    · exact hc _ _ _ _ e
    · cases e
  | callv f args =>
    simp only [opA, o_callv] at e ⊢
    unfold bind1 at e ⊢
    split at e
    · split at e
      · unfold callV at e ⊢
        simp only at e ⊢
        split at e
        · exact hc _ _ _ _ e
        · exact hc _ _ _ _ e
        · cases e
      · cases e
    · cases e
  | _ => exact e

theorem opStep_le {o : HOp} {st st' : St} (e : opStep c o st = some st') : opStep c' o st = some st' := by
  unfold opStep at e ⊢
  split at e
  · split at e
    · rename_i v σ h
      rw [opA_le hc h]
      exact e
    · cases e
  · exact e
  · cases e

theorem opsRun_le : ∀ {ops : List HOp} {st st' : St}, opsRun c ops st = some st' → opsRun c' ops st = some st'
  | [], st, st', e => e
  | o :: r, st, st', e => by
    simp only [opsRun] at e ⊢
    split at e
    · rename_i s h
      rw [opStep_le hc h]
      exact opsRun_le e
    · cases e

theorem quiet_le : CallLe (quietCall c) (quietCall c') := by
  intro f vs σ r e
  unfold quietCall at e ⊢
  split at e
  · cases e
  · split at e
    · cases e
    · rename_i h
      rw [hc _ _ _ _ h]
      exact e

theorem opStepD_le {k : Nat} {ns : List Nat} {o : HOp} {st st' : St} (e : opStepD c k ns o st = some st') : opStepD c' k ns o st = some st' := by
  unfold opStepD at e ⊢
  split at e
  · split at e
    · rename_i v σ h
      have : opA (if Nat.beq k 1 = true then quietCall c' else c') o.k (st.only ns) = some (v, σ) := by
        split at h
        · rename_i hk
          rw [if_pos hk]
          exact opA_le (quiet_le hc) h
        · rename_i hk
          rw [if_neg hk]
          exact opA_le hc h
      rw [this]
      exact e
    · cases e
  · exact e
  · cases e

theorem pendOk_le {σ : Store} {p : Pend} (e : pendOk c σ p = true) : pendOk c' σ p = true := by
  unfold pendOk at e ⊢
  split at e
  · rename_i v s h
    rw [opA_le hc h]
    exact e
  · cases e
theorem pendAll_le {i : Nat} {σ : Store} {ps : List Pend} (e : pendAll c i σ ps = true) : pendAll c' i σ ps = true := by
  unfold pendAll at e ⊢
  rw [List.all_eq_true] at e ⊢
  intro p hp
  have := e p hp
  simp only [Bool.or_eq_true] at this ⊢
  rcases this with h | h
  · exact .inl h
  · exact .inr (pendOk_le hc h)
theorem pendAdd_le {k : Nat} {ns : List Nat} {o : HOp} {st st' : St} {ps : List Pend} (e : opStepD c k ns o st = some st') : pendAdd c' k ns o st ps = pendAdd c k ns o st ps := by
  unfold pendAdd
  split
  · rename_i h
    unfold opStepD at e
    have hb : ¬ Nat.beq (h + 3) 1 = true := by simp
    simp only [if_neg hb] at e
    split at e
    · rename_i hg
      rw [hg]
      split at e
      · rename_i v s hop
        simp only [opA_le hc hop, hop]
      · cases e
    · rename_i hg
      rw [hg]
    · cases e
  · rfl
theorem opsRunD_le : ∀ {is : List (Nat × List Nat)} {ops : List HOp} {i : Nat} {ps : List Pend} {st st' : St}, opsRunD c i ps is ops st = some st' → opsRunD c' i ps is ops st = some st'
  | [], [], i, ps, st, st', e => by
    simp only [opsRunD] at e ⊢
    split at e
    · rename_i h
      rw [if_pos (pendAll_le hc h)]
      exact e
    · cases e
  | (k, ns) :: is, o :: r, i, ps, st, st', e => by
    simp only [opsRunD] at e ⊢
    split at e
    · cases e
    · rename_i h
      have h' : ¬ (Nat.beq k 2 && !pendAll c' i st.σ ps) = true := by
        intro hh
        simp only [Bool.and_eq_true, Bool.not_eq_true', not_and] at h hh
        have h1 := h hh.1
        rw [Bool.not_eq_false] at h1
        rw [pendAll_le hc h1] at hh
        cases hh.2
      rw [if_neg h']
      split at e
      · rename_i s hs
        rw [opStepD_le hc hs]
        simp only
        rw [pendAdd_le hc hs]
        exact opsRunD_le e
      · cases e
  | [], _ :: _, i, ps, st, st', e => by simp [opsRunD] at e
  | _ :: _, [], i, ps, st, st', e => by simp [opsRunD] at e
end

end Go.Proofs.Ytmgjhnengikbhaa.AM
end
section
set_option linter.unusedSimpArgs false
set_option linter.unusedVariables false
/- The machine in a form that the kernel runs fast: operations as functions that call what follows them, the store and the frame in trees. -/
set_option linter.unusedVariables false
set_option linter.unusedSimpArgs false
namespace Go.Proofs.Ytmgjhnengikbhaa.AM

/-- Places of the store: number 0 here, the odd ones left, the even ones right. -/
inductive BT where
  | z0
  | n (v : Ob) (l r : BT)
structure FS where
  t : BT
  len : Nat
/-- A frame's slots. -/
inductive ET where
  | z0
  | v (x : V)
  | n (l r : ET)

noncomputable section
def natK {β : Type} (m : Nat) (f : Nat → β) : β := Nat.rec (motive := fun _ => β) (f 0) (fun p _ => f (Nat.succ p)) m
theorem natK_eq {β : Type} (m : Nat) (f : Nat → β) : natK m f = f m := by cases m <;> rfl
def optR {α β : Type} (x : Option α) (f : α → Option β) : Option β := Option.rec (motive := fun _ => Option β) none f x
theorem optR_some {α β : Type} {x : Option α} {f : α → Option β} {r : β} (h : optR x f = some r) : ∃ a, x = some a ∧ f a = some r := by
  cases x with
  | none => cases h
  | some a => exact ⟨a, rfl, h⟩
def bif2 {β : Type} (b : Bool) (x y : β) : β := Bool.rec (motive := fun _ => β) y x b

def BT.get (t : BT) : Nat → Option Ob :=
  BT.rec (motive := fun _ => Nat → Option Ob) (fun _ => none)
    (fun v _ _ gl gr i => Nat.rec (motive := fun _ => Option Ob) (some v) (fun j _ => Bool.rec (motive := fun _ => Option Ob) (gr (Nat.div j 2)) (gl (Nat.div j 2)) (Nat.beq (Nat.mod j 2) 0)) i) t
def BT.setK {β : Type} (t : BT) : Nat → Ob → (BT → β) → β :=
  BT.rec (motive := fun _ => Nat → Ob → (BT → β) → β) (fun _ o k => k (.n o .z0 .z0))
    (fun v l r sl sr i o k => Nat.rec (motive := fun _ => β) (k (.n o l r))
      (fun j _ => Bool.rec (motive := fun _ => β) (sr (Nat.div j 2) o (fun r' => k (.n v l r'))) (sl (Nat.div j 2) o (fun l' => k (.n v l' r))) (Nat.beq (Nat.mod j 2) 0)) i) t
def FS.getO (s : FS) (i : Nat) : Option Ob := s.t.get i
def FS.setK {β : Type} (s : FS) (i : Nat) (o : Ob) (k : FS → β) : β := s.t.setK i o (fun t => k ⟨t, s.len⟩)
def FS.pushK {β : Type} (s : FS) (o : Ob) (k : Nat → FS → β) : β := natK s.len fun n => s.t.setK n o (fun t => k n ⟨t, Nat.succ n⟩)
def FS.nil : FS := ⟨.z0, 0⟩
def toL (s : FS) : Store := (List.range s.len).map fun i => ((s.getO i).getD (.map [] 0))
def ofL (σ : Store) : FS := σ.foldl (fun s o => s.pushK o (fun _ s => s)) FS.nil

abbrev R := Option (V × FS)
abbrev K := ET → List V → FS → R
abbrev GCall := FuncId → List V → FS → R
/-- An operand. -/
abbrev GO := (V → R) → ET → List V → R
/-- A kind of operation. -/
abbrev GK := GCall → (V → FS → R) → ET → List V → FS → R
abbrev GOp := GCall → K → K
abbrev GE := (V → R) → ET → R
abbrev GS := V → (ET → R) → ET → R
/-- Code: exits, return, what follows. -/
abbrev GC := GCall → List K → K → K → K

def eV : GE := fun k e => ET.rec (motive := fun _ => R) none (fun x => k x) (fun _ _ _ _ => none) e
def eL (g : GE) : GE := fun k e => ET.rec (motive := fun _ => R) none (fun _ => none) (fun l _ _ _ => g k l) e
def eR (g : GE) : GE := fun k e => ET.rec (motive := fun _ => R) none (fun _ => none) (fun _ r _ _ => g k r) e
def sV : GS := fun x k _ => k (.v x)
def sL (g : GS) : GS := fun x k e => ET.rec (motive := fun _ => R) (g x (fun l => k (.n l .z0)) .z0) (fun _ => g x (fun l => k (.n l .z0)) .z0) (fun l r _ _ => g x (fun l => k (.n l r)) l) e
def sR (g : GS) : GS := fun x k e => ET.rec (motive := fun _ => R) (g x (fun r => k (.n .z0 r)) .z0) (fun _ => g x (fun r => k (.n .z0 r)) .z0) (fun l r _ _ => g x (fun r => k (.n l r)) r) e

def oV (v : V) : GO := fun k _ _ => k v
def oE (g : GE) : GO := fun k e _ => g k e
def oZ : GO := fun k _ l => List.rec (motive := fun _ => R) none (fun h _ _ => k h) l
def oS (g : GO) : GO := fun k e l => List.rec (motive := fun _ => R) none (fun _ t _ => g k e t) l
def oBad : GO := fun _ _ _ => none

/-- Many operands. -/
abbrev GOs := (List V → R) → ET → List V → R
def aN : GOs := fun k _ _ => k []
def aC (x : GO) (r : GOs) : GOs := fun k e l => x (fun v => r (fun vs => k (v :: vs)) e l) e l
abbrev GPs := (List (Nat × Nat × V) → R) → ET → List V → R
def bN : GPs := fun k _ _ => k []
def bC (o n : Nat) (x : GO) (r : GPs) : GPs := fun k e l => x (fun v => r (fun vs => k ((o, n, v) :: vs)) e l) e l
abbrev GMo := (Option V → R) → ET → List V → R
def mN : GMo := fun k _ _ => k none
def mS (x : GO) : GMo := fun k e l => x (fun v => k (some v)) e l

/-- Where an answer goes. -/
def pN (g : GK) : GOp := fun c k e l s => g c (fun _ s => k e l s) e l s
def pL (g : GK) : GOp := fun c k e l s => g c (fun v s => k e (v :: l) s) e l s
def pE (w : GS) (g : GK) : GOp := fun c k e l s => g c (fun v s => w v (fun e => k e l s) e) e l s
def kUndef : GK := fun _ k _ _ s => k undefV s
def isB (b want : Bool) : Bool := Bool.rec (motive := fun _ => Bool) (Bool.rec (motive := fun _ => Bool) true false want) want b
/-- A guard. -/
def gG (x : GO) (want : Bool) (a b : GOp) : GOp := fun c k e l s => x (fun v => match v with
  | .tr (.sc (.bool u)) => Bool.rec (motive := fun _ => R) (b c k e l s) (a c k e l s) (isB u want)
  | .tr (.tup []) => b c k e l s
  | _ => none) e l
def opBad : GOp := fun _ _ _ _ _ => none
def cs (a b : GOp) : GOp := fun c k => a c (b c k)
def cz : GOp := fun _ k => k

def cSkip : GC := fun _ _ _ k => k
def cReg (o : GOp) : GC := fun c _ _ k e _ s => o c k e [] s
def cSeq (a b : GC) : GC := fun c ex ret k => a c ex ret (b c ex ret k)
def cCond (x : GO) (a b : GC) : GC := fun c ex ret k e l s => x (fun v => match v with
  | .tr (.sc (.bool u)) => Bool.rec (motive := fun _ => R) (b c ex ret k e l s) (a c ex ret k e l s) u
  | _ => none) e l
def cBlock (b : GC) : GC := fun c ex ret k => b c (k :: ex) ret k
def loopFuel : Nat := 100000
def cLoop (b : GC) : GC := fun c ex ret _ => Nat.rec (motive := fun _ => K) (fun _ _ _ => none) (fun _ ih => fun e l s => b c ex ret ih e l s) loopFuel
def xZ : GC := fun _ ex _ _ e l s => List.rec (motive := fun _ => R) none (fun h _ _ => h e l s) ex
def xS (g : GC) : GC := fun c ex ret k e l s => List.rec (motive := fun _ => R) none (fun _ t _ => g c t ret k e l s) ex
def cRet : GC := fun _ _ ret _ => ret
def cBad : GC := fun _ _ _ _ _ _ _ => none

/-- Lists. -/
def nthR {α : Type} (l : List α) : Nat → Option α := List.rec (motive := fun _ => Nat → Option α) (fun _ => none) (fun h _ ih n => Nat.rec (motive := fun _ => Option α) (some h) (fun m _ => ih m) n) l
def dropR {α : Type} (l : List α) : Nat → List α := List.rec (motive := fun _ => Nat → List α) (fun _ => []) (fun h t ih n => Nat.rec (motive := fun _ => List α) (h :: t) (fun m _ => ih m) n) l
def takeR {α : Type} (l : List α) : Nat → Option (List α) := List.rec (motive := fun _ => Nat → Option (List α)) (fun n => Nat.rec (motive := fun _ => Option (List α)) (some []) (fun _ _ => none) n)
  (fun h _ ih n => Nat.rec (motive := fun _ => Option (List α)) (some []) (fun m _ => optR (ih m) (fun r => some (h :: r))) n) l
def setR {β : Type} (l : List V) (v : V) : Nat → (List V → Option β) → Option β := List.rec (motive := fun _ => Nat → (List V → Option β) → Option β) (fun _ _ => none)
  (fun h t ih n k => Nat.rec (motive := fun _ => Option β) (k (v :: t)) (fun m _ => ih m (fun t => k (h :: t))) n) l
def sliceR {α : Type} (l : List α) (off n : Nat) : Option (List α) := takeR (dropR l off) n

/-- What the cells of an object are. -/
def cellsG (s : FS) (id g : Nat) : Option (List V) := match s.getO id with
  | some (.row cs g') => bif2 (Nat.beq g g') (some cs) none
  | some (.fro ts g') => bif2 (Nat.beq g g') (some (ts.map .tr)) none
  | _ => none
def elemsG (s : FS) (size : Nat) (x : V) : Option (List V × Nat) := match x with
  | .own id g off len sz _ => bif2 (Nat.beq sz size) (optR (cellsG s id g) fun cs => optR (sliceR cs off (Nat.mul len size)) fun r => some (r, len)) none
  | x => elems [] size x
def putG (s : FS) (id g off : Nat) (r : List V) : Option FS := match s.getO id with
  | some (.row cs g') => bif2 (Nat.beq g g') (bif2 (Nat.ble (off + r.length) cs.length) (bif2 (r.all oneV) (s.setK id (.row (splice cs off r) g') some) none) none) none
  | _ => none

def ldG1 (a : V) (s : FS) : Option V := match a with
  | .ptr id g off => match s.getO id with
    | some (.row cs g') => bif2 (Nat.beq g g') (nthR cs off) none
    | some (.fro ts g') => bif2 (Nat.beq g g') (optR (nthR ts off) fun t => some (.tr t)) none
    | _ => none
  | .tr (.rptr ts off) => optR (nthR ts off) fun t => some (.tr t)
  | _ => none
def ldG (size : Nat) (agg : Bool) (a : V) (s : FS) : Option V := match a with
  | .ptr id g off => optR (cellsG s id g) fun cs => optR (sliceR cs off size) fun r => ofCells agg r
  | a => opLoad size agg a []
def stG1 (a x : V) (s : FS) (k : FS → R) : R := match a with
  | .ptr id g off => match s.getO id with
    | some (.row cs g') => bif2 (Nat.beq g g') (bif2 (oneV x) (setR cs x off fun cs => s.setK id (.row cs g') k) none) none
    | _ => none
  | _ => none
def stG (size : Nat) (a x : V) (s : FS) (k : FS → R) : R := match a with
  | .ptr id g off => bif2 (Nat.beq (cellsOf x).length size) (optR (putG s id g off (cellsOf x)) k) none
  | _ => none
def asIdxK (i : V) (k : Nat → Option V) : Option V := match i with
  | .tr (.sc (.int _ (.ofNat n))) => k n
  | _ => none
def iaddrG (size : Nat) (x i : V) (s : FS) : Option V := asIdxK i fun i => match x with
  | .own id g off len sz _ => optR (s.getO id) fun ob => bif2 (Nat.blt i len) (bif2 (Nat.beq sz size) (bif2 (Nat.beq g (genOf ob)) (natK (Nat.add off (Nat.mul i size)) fun o => some (.ptr id g o)) none) none) none
  | .tr (.row cs n _) => bif2 (Nat.blt i n) (bif2 cs.isEmpty none (natK (Nat.mul i size) fun o => some (.tr (.rptr cs o)))) none
  | _ => none
def allocG (z : List V) (s : FS) (k : V → FS → R) : R := s.pushK (.row z 0) fun n s => k (.ptr n 0 0) s
def bsliceG (own : Bool) (len size : Nat) (zero : List Tree) (parts : List (Nat × Nat × V)) (s : FS) (k : V → FS → R) : R :=
  optR (fillV ((rep len zero).map .tr) parts) fun cs =>
    bif2 own (s.pushK (.row cs 0) fun n s => k (.own n 0 0 len size (some len)) s) (match allTr cs with
    | some ts => k (.tr (.row ts len (some len))) s
    | none => s.pushK (.row cs 0) fun n s => k (.own n 0 0 len size (some len)) s)
def appendG (size bytes : Nat) (v x : V) (s : FS) (k : V → FS → R) : R := optR (elemsG s size x) fun p => match p with
  | (xs, n) => bif2 (room n bytes) (match v with
    | .tr (.sc (.slice none 0 0)) => Nat.rec (motive := fun _ => R) (k v s) (fun _ _ => s.pushK (.row xs 0) fun id s => k (.own id 0 0 n size none) s) n
    | .own id g off len sz cap => bif2 (Nat.beq sz size) (bif2 (room len bytes) (match s.getO id with
      | some (.row cs g') => bif2 (Nat.beq g g') (optR (sliceR cs off (Nat.mul len size)) fun old => Nat.rec (motive := fun _ => R) (k v s) (fun _ _ => match cap with
        | some c => bif2 (Nat.ble (len + n) c)
          (optR (putG s id g (off + len * size) xs) fun s => k (.own id g off (len + n) size cap) s)
          (s.pushK (.row (old ++ xs) 0) fun i s => k (.own i 0 0 (len + n) size none) s)
        | none => bif2 (Nat.ble (off + (len + n) * size) cs.length && Nat.blt 0 size)
          (optR (putG s id g (off + len * size) xs) fun s => k (.own id g off (len + n) size cap) s)
          (bif2 (xs.all oneV) (natK (len + n) fun m => s.setK id (.row (old ++ xs) (g + 1)) fun s => k (.own id (g + 1) 0 m size none) s) none)) n) none
      | _ => none) none) none
    | .tr (.row cs len cap) => Nat.rec (motive := fun _ => R) (k v s) (fun _ _ => bif2 (Nat.beq cs.length (len * size)) (bif2 (room len bytes) (match cap with
      | some c => bif2 (Nat.ble (len + n) c) none (s.pushK (.row (cs.map .tr ++ xs) 0) fun id s => k (.own id 0 0 (len + n) size none) s)
      | none => none) none) none) n
    | _ => none) none
def lookupG (kind : TypeDesc) (zero : Tree) (ok : Bool) (m k : V) (s : FS) : Option V := match asKey kind k, m with
  | some _, .tr (.sc (.map none)) => some (okTup ok (.tr zero) false)
  | some k, .mp id => match s.getO id with
    | some (.map es _) => match findEnt k es 0 with
      | some (some (_, e)) => some (okTup ok e.val true)
      | some none => some (okTup ok (.tr zero) false)
      | none => none
    | _ => none
  | _, _ => none
def mupdG (kind : TypeDesc) (m k v : V) (s : FS) : Option FS := match asKey kind k, m with
  | some k, .mp id => match s.getO id with
    | some (.map es clock) => match findEnt k es 0 with
      | some (some (i, e)) => s.setK id (.map (es.set i { e with key := k, val := v }) clock) some
      | some none => s.setK id (.map (es ++ [{ key := k, val := v, born := clock }]) (clock + 1)) some
      | none => none
    | _ => none
  | _, _ => none
def mentG (kind : TypeDesc) (zero : Tree) (m k : V) (s : FS) : Option (V × FS) := match asKey kind k, m with
  | some k, .mp id => match s.getO id with
    | some (.map es clock) => match findEnt k es 0 with
      | some (some (i, e)) => s.setK id (.map (es.set i { e with key := k }) clock) fun s => some (mkTup [e.val, int .i64 e.born], s)
      | some none => s.setK id (.map (es ++ [{ key := k, val := .tr zero, born := clock }]) (clock + 1)) fun s => some (mkTup [.tr zero, int .i64 clock], s)
      | none => none
    | _ => none
  | _, _ => none
def estoG (m c v : V) (s : FS) : Option FS := match m, asIdx? c with
  | .mp id, some born => match s.getO id with
    | some (.map es clock) => match setBorn born v es with
      | some es => s.setK id (.map es clock) some
      | none => none
    | _ => none
  | _, _ => none
def mkmapG (s : FS) (k : V → FS → R) : R := s.pushK (.map [] 0) fun n s => k (.mp n) s
def mksliceG (zero : List Tree) (bytes : Nat) (l c : V) (s : FS) (k : V → FS → R) : R := match asIdx? l, asIdx? c with
  | some l, some c => bif2 (Nat.ble l c) (bif2 (room c bytes) (s.pushK (.row ((rep c zero).map .tr) 0) fun n s => k (.own n 0 0 l zero.length (some c)) s) none) none
  | _, _ => none
def lenMapG (v : V) (s : FS) : Option V := match v with
  | .tr (.sc (.map none)) => some (int .i64 0)
  | .mp id => match s.getO id with
    | some (.map es _) => some (int .i64 es.length)
    | _ => none
  | _ => none
def capG (v : V) (s : FS) : Option V := match v with
  | .own id g _ _ _ (some c) => match s.getO id with
    | some ob => bif2 (Nat.beq g (genOf ob)) (some (int .i64 c)) none
    | none => none
  | v => opCap [] v
def sliceG (size : Nat) (x : V) (lo hi mx : Option V) (s : FS) : Option V := match x with
  | .own id g off len sz cap => match optIdx lo, optIdx hi, optIdx mx with
    | some lo, some hi, some mx =>
      bif2 (mx.isSome && hi.isNone) none (bif2 (Nat.beq sz size) (optR (cellsG s id g) fun cs =>
        let h := hi.getD len
        let l := lo.getD 0
        let m := mx.getD h
        bif2 (Nat.ble l h) (bif2 (Nat.ble h m) (bif2 (Nat.ble m len || ((match cap with | none => true | some _ => false) && Nat.ble (off + m * size) cs.length && Nat.blt 0 size) || leCap m cap)
          (natK (off + l * size) fun o => natK (h - l) fun d => some (.own id g o d size (cutCap cap mx l))) none) none) none) none)
    | _, _, _ => none
  | x => opSlice size x lo hi mx []
def bytesStrG (x : V) (s : FS) : Option V := match x with
  | .tr (.sc (.string _)) => none
  | x => optR (elemsG s 1 x) fun p => optR (bytesOf? p.1) fun l => some (.tr (.sc (.string ⟨⟨l⟩⟩)))
def strBytesG (x : V) (s : FS) (k : V → FS → R) : R := match x with
  | .tr (.sc (.string b)) => s.pushK (.row (b.data.toList.map fun b => .tr (.sc (.int .u8 b.toNat))) 0) fun n s => k (.own n 0 0 b.data.toList.length 1 none) s
  | _ => none
/-- By way of a list. -/
def viaG (f : Store → Option (V × Store)) (s : FS) (k : V → FS → R) : R := match f (toL s) with
  | some (v, σ) => k v (ofL σ)
  | none => none

/-- Two whole numbers. -/
def intK (g : IntKind → Int → Int → Option V) (slow : V → V → Option V) (x y : V) : Option V := match x with
  | .tr (.sc (.int k a)) => match y with
    | .tr (.sc (.int k' b)) => Bool.rec (motive := fun _ => Option V) (slow x y) (g k a b) (Nat.beq (kix k) (kix k'))
    | _ => slow x y
  | _ => slow x y
/-- A whole number at its normal form. -/
def normI (k : IntKind) (n : Int) : Option V := Int.rec (motive := fun _ => Option V) (fun m => natK m fun m => some (.tr (.sc (.int k (.ofNat m))))) (fun m => natK m fun m => some (.tr (.sc (.int k (.negSucc m))))) n
def normB (b : Bool) : Option V := Bool.rec (motive := fun _ => Option V) (some (.tr (.sc (.bool false)))) (some (.tr (.sc (.bool true)))) b
def eqI (a b : Int) : Bool := Int.rec (motive := fun _ => Bool) (fun m => Int.rec (motive := fun _ => Bool) (fun n => Nat.beq m n) (fun _ => false) b) (fun m => Int.rec (motive := fun _ => Bool) (fun _ => false) (fun n => Nat.beq m n) b) a
def binAdd (ek : EK) : V → V → Option V := intK (fun k a b => normI k (wrapF k (Int.add a b))) (opBin ek .add)
def binSub (ek : EK) : V → V → Option V := intK (fun k a b => normI k (wrapF k (Int.sub a b))) (opBin ek .sub)
def binLss (ek : EK) : V → V → Option V := intK (fun k a b => normB (ltF a b)) (opBin ek .lss)
def binGtr (ek : EK) : V → V → Option V := intK (fun k a b => normB (ltF b a)) (opBin ek .gtr)
def binLeq (ek : EK) : V → V → Option V := intK (fun k a b => normB (!ltF b a)) (opBin ek .leq)
def binGeq (ek : EK) : V → V → Option V := intK (fun k a b => normB (!ltF a b)) (opBin ek .geq)
def binEql (ek : EK) : V → V → Option V := intK (fun k a b => normB (eqI a b)) (opBin ek .eql)
def binNeq (ek : EK) : V → V → Option V := intK (fun k a b => normB (!eqI a b)) (opBin ek .neq)
def binOther (ek : EK) (op : BinOp) : V → V → Option V := opBin ek op

/-- Kinds. -/
def kMv (x : GO) : GK := fun _ k e l s => x (fun v => k v s) e l
def kPick (x a b : GO) : GK := fun _ k e l s => x (fun v => match v with
  | .tr (.sc (.bool u)) => Bool.rec (motive := fun _ => R) (b (fun v => k v s) e l) (a (fun v => k v s) e l) u
  | _ => none) e l
def kP1 (f : V → Option V) (x : GO) : GK := fun _ k e l s => x (fun a => optR (f a) fun v => k v s) e l
def kP2 (f : V → V → Option V) (x y : GO) : GK := fun _ k e l s => x (fun a => y (fun b => optR (f a b) fun v => k v s) e l) e l
def kR1 (f : V → FS → Option V) (x : GO) : GK := fun _ k e l s => x (fun a => optR (f a s) fun v => k v s) e l
def kR2 (f : V → V → FS → Option V) (x y : GO) : GK := fun _ k e l s => x (fun a => y (fun b => optR (f a b s) fun v => k v s) e l) e l
def kW0 (f : FS → (V → FS → R) → R) : GK := fun _ k e l s => f s k
def kW1 (f : V → FS → (V → FS → R) → R) (x : GO) : GK := fun _ k e l s => x (fun a => f a s k) e l
def kW2 (f : V → V → FS → (V → FS → R) → R) (x y : GO) : GK := fun _ k e l s => x (fun a => y (fun b => f a b s k) e l) e l
def kS2 (f : V → V → FS → (FS → R) → R) (x y : GO) : GK := fun _ k e l s => x (fun a => y (fun b => f a b s (fun s => k undefV s)) e l) e l
def kS3 (f : V → V → V → FS → Option FS) (x y z : GO) : GK := fun _ k e l s => x (fun a => y (fun b => z (fun d => optR (f a b d s) (fun s => k undefV s)) e l) e l) e l
def kT2 (f : V → V → FS → Option (V × FS)) (x y : GO) : GK := fun _ k e l s => x (fun a => y (fun b => optR (f a b s) (fun p => k p.1 p.2)) e l) e l
def kCallf (f : FuncId) (as : GOs) : GK := fun c k e l s => as (fun vs => optR (c f vs s) fun p => k p.1 p.2) e l
def callVG (c : GCall) (f : V) (vs : List V) (s : FS) : R := match f with
  | .fn (.func f) a b => c f (a ++ vs ++ b) s
  | .tr (.fn (.func f) a b) => c f (a.map .tr ++ vs ++ b.map .tr) s
  | _ => none
def kCallv (f : GO) (as : GOs) : GK := fun c k e l s => f (fun f => as (fun vs => optR (callVG c f vs s) fun p => k p.1 p.2) e l) e l
def kBuild (z : List Tree) (ps : GPs) : GK := fun _ k e l s => ps (fun ps => optR (opBuild z ps) fun v => k v s) e l
def kBslice (own : Bool) (len size : Nat) (z : List Tree) (ps : GPs) : GK := fun _ k e l s => ps (fun ps => bsliceG own len size z ps s k) e l
def kMkfn (fn : Fn) (a b : GOs) : GK := fun _ k e l s => a (fun a => b (fun b => match allTr a, allTr b with
  | some a, some b => k (.tr (.fn fn a b)) s
  | _, _ => k (.fn fn a b) s) e l) e l
def kMinmax (mx : Bool) (x : GO) (as : GOs) : GK := fun _ k e l s => x (fun a => as (fun vs => optR (minmaxAll mx a vs) fun v => k v s) e l) e l
def kSlicestr (x : GO) (lo hi : GMo) : GK := fun _ k e l s => x (fun a => lo (fun lo => hi (fun hi => optR (opSliceStr a lo hi) fun v => k v s) e l) e l) e l
def kSlice (size : Nat) (x : GO) (lo hi mx : GMo) : GK := fun _ k e l s => x (fun a => lo (fun lo => hi (fun hi => mx (fun mx => optR (sliceG size a lo hi mx s) fun v => k v s) e l) e l) e l) e l
def kMkiface (t : TypeId) (x : GO) : GK := fun _ k e l s => x (fun v => match v with
  | .tr v => k (.tr (.iface t v)) s
  | v => k (.iface t v) s) e l
def kBadK : GK := fun _ _ _ _ _ => none

/-- Calls that leave the store. -/
def quietG (c : GCall) : GCall := fun f vs s => match snapL (snap (toL s) deepN) vs with
  | none => none
  | some ts => match c f (ts.map .tr) FS.nil with
    | none => none
    | some (v, s1) => match snapF (toL s1) deepN v with
      | some t => some (.tr t, s)
      | none => match snap (toL s1) deepN v with
        | none => none
        | some t => bif2 ((dirs.dirsL vs).isEmpty) (some (.tr t, s)) none
def freshG (s s' : FS) : Bool := match s'.getO s.len with
  | some (.row cs _) => (dirs.dirsL cs).all fun j => Nat.blt j s.len
  | _ => true
/-- In a region whose order is open: operations that leave the store. -/
def kQuiet (g : GK) : GK := fun c k e l s => g (quietG c) (fun v s' => bif2 (freshG s s') (k v s') none) e l s

end

end Go.Proofs.Ytmgjhnengikbhaa.AM
end
section
set_option linter.unusedSimpArgs false
set_option linter.unusedVariables false
/- The store in a tree and the frame in a tree are what they were. -/
set_option linter.unusedVariables false
set_option linter.unusedSimpArgs false
namespace Go.Proofs.Ytmgjhnengikbhaa.AM

theorem bif2_some {α : Type} {b : Bool} {x : Option α} {r : α} (h : bif2 b x none = some r) : b = true ∧ x = some r := by
  cases b with
  | false => cases h
  | true => exact ⟨rfl, h⟩
theorem bif2_or {α : Type} {b : Bool} {x y : Option α} {r : α} (h : bif2 b x y = some r) : (b = true ∧ x = some r) ∨ (b = false ∧ y = some r) := by
  cases b with
  | false => exact .inr ⟨rfl, h⟩
  | true => exact .inl ⟨rfl, h⟩

/-- A tree of so many places. -/
def Br : BT → Nat → Prop
  | .z0, n => n = 0
  | .n _ l r, n => ∃ m, n = m + 1 ∧ Br l ((m + 1) / 2) ∧ Br r (m / 2)

theorem get_e (i : Nat) : BT.get .z0 i = none := rfl
theorem get_0 (v : Ob) (l r : BT) : BT.get (.n v l r) 0 = some v := rfl
theorem get_s (v : Ob) (l r : BT) (j : Nat) : BT.get (.n v l r) (j + 1) = if j % 2 = 0 then l.get (j / 2) else r.get (j / 2) := by
  show Bool.rec (motive := fun _ => Option Ob) (r.get (Nat.div j 2)) (l.get (Nat.div j 2)) (Nat.beq (Nat.mod j 2) 0) = _
  by_cases h : j % 2 = 0
  · have : Nat.beq (Nat.mod j 2) 0 = true := by
      rw [show Nat.mod j 2 = j % 2 from rfl, h]
      rfl
    rw [this, if_pos h]
    rfl
  · have : Nat.beq (Nat.mod j 2) 0 = false := by
      rw [show Nat.mod j 2 = j % 2 from rfl]
      cases hb : Nat.beq (j % 2) 0 with
      | false => rfl
      | true => exact absurd (Nat.eq_of_beq_eq_true hb) h
    rw [this, if_neg h]
    rfl
theorem set_e {β : Type} (i : Nat) (o : Ob) (k : BT → β) : BT.setK .z0 i o k = k (.n o .z0 .z0) := rfl
theorem set_0 {β : Type} (v : Ob) (l r : BT) (o : Ob) (k : BT → β) : BT.setK (.n v l r) 0 o k = k (.n o l r) := rfl
theorem set_s {β : Type} (v : Ob) (l r : BT) (j : Nat) (o : Ob) (k : BT → β) : BT.setK (.n v l r) (j + 1) o k = if j % 2 = 0 then l.setK (j / 2) o (fun l' => k (.n v l' r)) else r.setK (j / 2) o (fun r' => k (.n v l r')) := by
  show Bool.rec (motive := fun _ => β) (r.setK (Nat.div j 2) o (fun r' => k (.n v l r'))) (l.setK (Nat.div j 2) o (fun l' => k (.n v l' r))) (Nat.beq (Nat.mod j 2) 0) = _
  by_cases h : j % 2 = 0
  · have : Nat.beq (Nat.mod j 2) 0 = true := by
      rw [show Nat.mod j 2 = j % 2 from rfl, h]
      rfl
    rw [this, if_pos h]
    rfl
  · have : Nat.beq (Nat.mod j 2) 0 = false := by
      rw [show Nat.mod j 2 = j % 2 from rfl]
      cases hb : Nat.beq (j % 2) 0 with
      | false => rfl
      | true => exact absurd (Nat.eq_of_beq_eq_true hb) h
    rw [this, if_neg h]
    rfl

theorem set_spec : ∀ (t : BT) (n i : Nat) (o : Ob), Br t n → i ≤ n → ∃ t', (∀ {β : Type} (k : BT → β), t.setK i o k = k t') ∧ Br t' (if i = n then n + 1 else n) ∧ ∀ j, t'.get j = if j = i then some o else t.get j
  | .z0, n, i, o, h, hi => by
    have h : n = 0 := h
    subst h
    have : i = 0 := by omega
    subst this
    refine ⟨.n o .z0 .z0, fun k => rfl, ⟨0, rfl, rfl, rfl⟩, fun j => ?_⟩
    cases j with
    | zero => rfl
    | succ j => rw [get_s]; simp [get_e]
  | .n v l r, n, i, o, h, hi => by
    obtain ⟨m, rfl, hl, hr⟩ := h
    cases i with
    | zero =>
      refine ⟨.n o l r, fun k => rfl, ?_, fun j => ?_⟩
      · rw [if_neg (by omega)]
        exact ⟨m, rfl, hl, hr⟩
      · cases j with
        | zero => rfl
        | succ j => rw [get_s, get_s, if_neg (Nat.succ_ne_zero j)]
    | succ j =>
      by_cases hj : j % 2 = 0
      · obtain ⟨l', h1, h2, h3⟩ := set_spec l _ (j / 2) o hl (by omega)
        refine ⟨.n v l' r, fun k => ?_, ?_, fun i => ?_⟩
        · rw [set_s, if_pos hj, h1]
        · by_cases hm : j + 1 = m + 1
          · rw [if_pos hm]
            rw [if_pos (by omega)] at h2
            refine ⟨m + 1, rfl, ?_, ?_⟩
            · have : (m + 1 + 1) / 2 = (m + 1) / 2 + 1 := by omega
              rw [this]; exact h2
            · have : (m + 1) / 2 = m / 2 := by omega
              rw [this]; exact hr
          · rw [if_neg hm]
            rw [if_neg (by omega)] at h2
            exact ⟨m, rfl, h2, hr⟩
        · cases i with
          | zero => rw [get_0, if_neg (by omega), get_0]
          | succ i =>
            rw [get_s, get_s]
            by_cases hi2 : i % 2 = 0
            · rw [if_pos hi2, if_pos hi2, h3]
              by_cases hij : i = j
              · subst hij; simp
              · rw [if_neg (by omega), if_neg (by omega)]
            · rw [if_neg hi2, if_neg hi2, if_neg (by omega)]
      · obtain ⟨r', h1, h2, h3⟩ := set_spec r _ (j / 2) o hr (by omega)
        refine ⟨.n v l r', fun k => ?_, ?_, fun i => ?_⟩
        · rw [set_s, if_neg hj, h1]
        · by_cases hm : j + 1 = m + 1
          · rw [if_pos hm]
            rw [if_pos (by omega)] at h2
            refine ⟨m + 1, rfl, ?_, ?_⟩
            · have : (m + 1 + 1) / 2 = (m + 1) / 2 := by omega
              rw [this]; exact hl
            · have : (m + 1) / 2 = m / 2 + 1 := by omega
              rw [this]; exact h2
          · rw [if_neg hm]
            rw [if_neg (by omega)] at h2
            exact ⟨m, rfl, hl, h2⟩
        · cases i with
          | zero => rw [get_0, if_neg (by omega), get_0]
          | succ i =>
            rw [get_s, get_s]
            by_cases hi2 : i % 2 = 0
            · rw [if_pos hi2, if_pos hi2, if_neg (by omega)]
            · rw [if_neg hi2, if_neg hi2, h3]
              by_cases hij : i = j
              · subst hij; simp
              · rw [if_neg (by omega), if_neg (by omega)]

def SRel (s : FS) (σ : Store) : Prop := s.len = σ.length ∧ Br s.t s.len ∧ ∀ i, s.getO i = σ[i]?

theorem SRel.nil : SRel FS.nil [] := ⟨rfl, rfl, fun i => rfl⟩
theorem setK_ok {s : FS} {σ : Store} (h : SRel s σ) {id : Nat} (hid : id < σ.length) (o : Ob) : ∃ s', SRel s' (σ.set id o) ∧ ∀ {β : Type} (k : FS → β), s.setK id o k = k s' := by
  obtain ⟨h1, h2, h3⟩ := h
  obtain ⟨t', e1, e2, e3⟩ := set_spec s.t s.len id o h2 (by omega)
  refine ⟨⟨t', s.len⟩, ⟨by simpa using h1, ?_, fun i => ?_⟩, fun k => e1 _⟩
  · rw [if_neg (by omega)] at e2
    exact e2
  · have h3i := h3 i
    unfold FS.getO at h3i ⊢
    simp only [e3, List.getElem?_set]
    by_cases hi : i = id
    · subst hi
      rw [if_pos rfl, if_pos rfl, if_pos hid]
    · rw [if_neg hi, if_neg (fun h => hi h.symm), h3i]
theorem pushK_ok {s : FS} {σ : Store} (h : SRel s σ) (o : Ob) : ∃ s', SRel s' (σ ++ [o]) ∧ ∀ {β : Type} (k : Nat → FS → β), s.pushK o k = k σ.length s' := by
  obtain ⟨h1, h2, h3⟩ := h
  obtain ⟨t', e1, e2, e3⟩ := set_spec s.t s.len s.len o h2 (by omega)
  rw [if_pos rfl] at e2
  refine ⟨⟨t', s.len + 1⟩, ⟨by simp [h1], e2, fun i => ?_⟩, fun k => ?_⟩
  · have h3i := h3 i
    unfold FS.getO at h3i ⊢
    simp only [e3]
    by_cases hi : i = s.len
    · rw [if_pos hi, hi, h1]
      simp
    · rw [if_neg hi, h3i]
      by_cases hlt : i < σ.length
      · rw [List.getElem?_append_left hlt]
      · rw [List.getElem?_append_right (by omega), List.getElem?_eq_none (by omega), List.getElem?_eq_none]
        simp; omega
  · unfold FS.pushK
    rw [natK_eq, e1, h1]
theorem toL_eq {s : FS} {σ : Store} (h : SRel s σ) : toL s = σ := by
  obtain ⟨h1, h2, h3⟩ := h
  unfold toL
  apply List.ext_getElem?
  intro i
  simp only [List.getElem?_map]
  by_cases hi : i < σ.length
  · rw [List.getElem?_range (by omega)]
    simp [h3, hi]
  · rw [List.getElem?_eq_none (by simp; omega), List.getElem?_eq_none (by omega)]
    rfl
theorem ofL_go : ∀ (τ : Store) (s : FS) (σ : Store), SRel s σ → SRel (τ.foldl (fun s o => s.pushK o (fun _ s => s)) s) (σ ++ τ)
  | [], s, σ, h => by simpa using h
  | o :: τ, s, σ, h => by
    obtain ⟨s', h1, h2⟩ := pushK_ok h o
    simp only [List.foldl_cons]
    rw [h2]
    have := ofL_go τ s' (σ ++ [o]) h1
    simpa [List.append_assoc] using this
theorem ofL_ok (σ : Store) : SRel (ofL σ) σ := by simpa [ofL] using ofL_go σ FS.nil [] SRel.nil

theorem lt_of_get {σ : Store} {id : Nat} {o : Ob} (h : σ[id]? = some o) : id < σ.length := by
  by_cases hl : id < σ.length
  · exact hl
  · rw [List.getElem?_eq_none (by omega)] at h
    cases h

/-- Frames. -/
def getE : List Bool → ET → Option V
  | [], .v x => some x
  | false :: p, .n l r => getE p l
  | true :: p, .n l r => getE p r
  | _, _ => none
def setE : List Bool → V → ET → ET
  | [], x, _ => .v x
  | false :: p, x, .n l r => .n (setE p x l) r
  | true :: p, x, .n l r => .n l (setE p x r)
  | false :: p, x, _ => .n (setE p x .z0) .z0
  | true :: p, x, _ => .n .z0 (setE p x .z0)
noncomputable section
def eP : List Bool → GE
  | [] => eV
  | false :: p => eL (eP p)
  | true :: p => eR (eP p)
def sP : List Bool → GS
  | [] => sV
  | false :: p => sL (sP p)
  | true :: p => sR (sP p)
end
theorem eP_some : ∀ {p : List Bool} {k : V → R} {e : ET} {r : V × FS}, eP p k e = some r → ∃ v, getE p e = some v ∧ k v = some r
  | [], k, e, r, h => by
    cases e with
    | v x => exact ⟨x, rfl, h⟩
    | z0 => cases h
    | n l r => cases h
  | false :: p, k, e, r, h => by
    cases e with
    | v x => cases h
    | z0 => cases h
    | n l r => exact eP_some (p := p) h
  | true :: p, k, e, r, h => by
    cases e with
    | v x => cases h
    | z0 => cases h
    | n l r => exact eP_some (p := p) h
theorem sP_eq : ∀ (p : List Bool) (x : V) (k : ET → R) (e : ET), sP p x k e = k (setE p x e)
  | [], x, k, e => rfl
  | false :: p, x, k, e => by
    cases e with
    | v y => exact sP_eq p x _ _
    | z0 => exact sP_eq p x _ _
    | n l r => exact sP_eq p x _ _
  | true :: p, x, k, e => by
    cases e with
    | v y => exact sP_eq p x _ _
    | z0 => exact sP_eq p x _ _
    | n l r => exact sP_eq p x _ _
theorem getE_e : ∀ p : List Bool, getE p .z0 = none
  | [] => rfl
  | false :: _ => rfl
  | true :: _ => rfl
theorem getE_v : ∀ (b : Bool) (p : List Bool) (y : V), getE (b :: p) (.v y) = none
  | false, _, _ => rfl
  | true, _, _ => rfl
theorem getE_set : ∀ (p q : List Bool) (x : V) (e : ET), p.length = q.length → getE p (setE q x e) = if p = q then some x else getE p e
  | [], [], x, e, _ => by simp [setE, getE]
  | a :: p, b :: q, x, e, h => by
    have hl : p.length = q.length := by simpa using h
    cases e with
    | n l r =>
      cases a <;> cases b <;> simp only [setE, getE, getE_set p q _ _ hl, List.cons.injEq, true_and, false_and, if_false, reduceCtorEq]
    | v y =>
      rw [getE_v]
      cases a <;> cases b <;> simp only [setE, getE, getE_set p q _ _ hl, List.cons.injEq, true_and, false_and, if_false, reduceCtorEq, getE_e]
    | z0 =>
      rw [getE_e]
      cases a <;> cases b <;> simp only [setE, getE, getE_set p q _ _ hl, List.cons.injEq, true_and, false_and, if_false, reduceCtorEq, getE_e]
  | [], _ :: _, _, _, h => by simp at h
  | _ :: _, [], _, _, h => by simp at h

def bits : Nat → Nat → List Bool
  | 0, _ => []
  | D + 1, k => Nat.beq (k % 2) 1 :: bits D (k / 2)
theorem bits_len : ∀ D k, (bits D k).length = D
  | 0, _ => rfl
  | D + 1, k => by simp [bits, bits_len D]
theorem bits_inj : ∀ D a b, a < 2 ^ D → b < 2 ^ D → bits D a = bits D b → a = b
  | 0, a, b, ha, hb, _ => by simp at ha hb; omega
  | D + 1, a, b, ha, hb, h => by
    simp only [bits, List.cons.injEq] at h
    have h2 := bits_inj D (a / 2) (b / 2) (by omega) (by omega) h.2
    have h1 := h.1
    rw [Bool.eq_iff_iff, Nat.beq_eq, Nat.beq_eq] at h1
    omega

/-- A frame in a tree is the frame. -/
def ERel (D : Nat) (e : ET) (env : List (Nat × V)) : Prop := ∀ k, k < 2 ^ D → getE (bits D k) e = look env k
theorem ERel.put {D : Nat} {e : ET} {env : List (Nat × V)} (h : ERel D e env) {d : Nat} (hd : d < 2 ^ D) (v : V) : ERel D (setE (bits D d) v e) (put env d v) := by
  intro k hk
  rw [getE_set _ _ _ _ (by rw [bits_len, bits_len]), look_put, h k hk]
  by_cases hkd : k = d
  · subst hkd; simp
  · rw [if_neg hkd, if_neg]
    intro hb
    exact hkd (bits_inj D k d hk hd hb)

/-- A region's slots. -/
def ix (k : Nat) : List Nat → Option Nat
  | [] => none
  | a :: r => match Nat.beq k a with | true => some 0 | false => match ix k r with | some i => some (i + 1) | none => none
def LRel (names : List Nat) (l : List V) (loc : List (Nat × V)) : Prop := ∀ k i, ix k names = some i → ∃ v, l[i]? = some v ∧ look loc k = some v
theorem LRel.nil (l : List V) (loc : List (Nat × V)) : LRel [] l loc := fun k i h => by cases h
theorem LRel.push {names : List Nat} {l : List V} {loc : List (Nat × V)} (h : LRel names l loc) (d : Nat) (v : V) : LRel (d :: names) (v :: l) ((d, v) :: loc) := by
  intro k i hi
  unfold ix at hi
  unfold look
  split at hi
  · rename_i hb
    cases hi
    rw [hb]
    exact ⟨v, rfl, rfl⟩
  · rename_i hb
    rw [hb]
    split at hi
    · rename_i j hj
      cases hi
      obtain ⟨u, h1, h2⟩ := h k j hj
      exact ⟨u, by simpa using h1, by simpa using h2⟩
    · cases hi
noncomputable section
def oLoc : Nat → GO
  | 0 => oZ
  | i + 1 => oS (oLoc i)
end
theorem oLoc_some : ∀ {i : Nat} {k : V → R} {e : ET} {l : List V} {r : V × FS}, oLoc i k e l = some r → ∃ v, l[i]? = some v ∧ k v = some r
  | 0, k, e, l, r, h => by
    cases l with
    | nil => cases h
    | cons a t => exact ⟨a, rfl, h⟩
  | i + 1, k, e, l, r, h => by
    cases l with
    | nil => cases h
    | cons a t =>
      obtain ⟨v, h1, h2⟩ := oLoc_some (i := i) (e := e) (l := t) h
      exact ⟨v, by simpa using h1, h2⟩

end Go.Proofs.Ytmgjhnengikbhaa.AM
end
section
set_option linter.unusedSimpArgs false
set_option linter.unusedVariables false
/- Operations on the store in a tree say what those on the list say. -/
set_option linter.unusedVariables false
set_option linter.unusedSimpArgs false
namespace Go.Proofs.Ytmgjhnengikbhaa.AM

theorem nthR_eq {α : Type} : ∀ (l : List α) (i : Nat), nthR l i = l[i]?
  | [], i => by simp [nthR]
  | a :: t, 0 => rfl
  | a :: t, i + 1 => by
    have : nthR (a :: t) (i + 1) = nthR t i := rfl
    rw [this, nthR_eq t i]
    simp
theorem dropR_eq {α : Type} : ∀ (l : List α) (i : Nat), dropR l i = l.drop i
  | [], i => by simp [dropR]
  | a :: t, 0 => rfl
  | a :: t, i + 1 => by
    have : dropR (a :: t) (i + 1) = dropR t i := rfl
    rw [this, dropR_eq t i]
    simp
theorem takeR_some {α : Type} : ∀ {l : List α} {i : Nat} {r : List α}, takeR l i = some r → l.take i = r ∧ r.length = i
  | [], 0, r, h => by cases h; exact ⟨rfl, rfl⟩
  | [], i + 1, r, h => by cases h
  | a :: t, 0, r, h => by cases h; exact ⟨rfl, rfl⟩
  | a :: t, i + 1, r, h => by
    have h : optR (takeR t i) (fun r => some (a :: r)) = some r := h
    obtain ⟨u, h1, h2⟩ := optR_some h
    cases h2
    obtain ⟨h3, h4⟩ := takeR_some h1
    exact ⟨by simp [h3], by simp [h4]⟩
theorem sliceR_some {α : Type} {l : List α} {off n : Nat} {r : List α} (h : sliceR l off n = some r) : slice? l off n = some r := by
  unfold sliceR at h
  obtain ⟨h1, h2⟩ := takeR_some h
  rw [dropR_eq] at h1
  unfold slice?
  simp only [h1, h2, if_true]
theorem setR_some {β : Type} : ∀ {l : List V} {v : V} {i : Nat} {k : List V → Option β} {r : β}, setR l v i k = some r → i < l.length ∧ k (l.set i v) = some r
  | [], v, i, k, r, h => by cases h
  | a :: t, v, 0, k, r, h => ⟨by simp, h⟩
  | a :: t, v, i + 1, k, r, h => by
    have h : setR t v i (fun t => k (a :: t)) = some r := h
    obtain ⟨h1, h2⟩ := setR_some h
    exact ⟨by simp; omega, by simpa using h2⟩

variable {s : FS} {σ : Store}

theorem cellsG_some (hs : SRel s σ) {id g : Nat} {cs : List V} (h : cellsG s id g = some cs) : obCells σ id g = some cs := by
  unfold cellsG at h
  rw [hs.2.2] at h
  unfold obCells
  split at h
  · rename_i cs' g' ho
    obtain ⟨h1, h2⟩ := bif2_some h
    rw [ho]
    simp only [Nat.eq_of_beq_eq_true h1, if_true, h2]
  · rename_i cs' g' ho
    obtain ⟨h1, h2⟩ := bif2_some h
    rw [ho]
    simp only [Nat.eq_of_beq_eq_true h1, if_true, h2]
  · cases h
theorem elems_nil {size : Nat} {x : V} {r : List V × Nat} (h : elems [] size x = some r) : elems σ size x = some r := by
  unfold elems at h ⊢
  split at h
  · exact h
  · exact h
  · exact h
  · simp only [obCells, List.getElem?_nil, ite_self] at h
    cases h
  · cases h
theorem elemsG_some (hs : SRel s σ) {size : Nat} {x : V} {r : List V × Nat} (h : elemsG s size x = some r) : elems σ size x = some r := by
  unfold elemsG at h
  split at h
  · obtain ⟨h1, h2⟩ := bif2_some h
    obtain ⟨cs, h3, h4⟩ := optR_some h2
    obtain ⟨q, h5, h6⟩ := optR_some h4
    have h5 := sliceR_some h5
    have hh : Nat.mul = fun a b : Nat => a * b := rfl
    rw [hh] at h5
    simp only at h5
    simp only [elems, Nat.eq_of_beq_eq_true h1, if_true, cellsG_some hs h3, h5]
    exact h6
  · exact elems_nil h
theorem putG_some (hs : SRel s σ) {id g off : Nat} {r : List V} {s' : FS} (h : putG s id g off r = some s') : ∃ σ', obPut σ id g off r = some σ' ∧ SRel s' σ' := by
  unfold putG at h
  rw [hs.2.2] at h
  unfold obPut
  split at h
  · rename_i cs' g' ho
    obtain ⟨h1, h2⟩ := bif2_some h
    obtain ⟨h3, h4⟩ := bif2_some h2
    obtain ⟨h5, h6⟩ := bif2_some h4
    obtain ⟨s2, h7, h8⟩ := setK_ok hs (lt_of_get ho) (.row (splice cs' off r) g')
    rw [h8] at h6
    cases h6
    rw [ho]
    simp only
    rw [if_pos ⟨Nat.eq_of_beq_eq_true h1, Nat.le_of_ble_eq_true h3, h5⟩]
    exact ⟨_, rfl, h7⟩
  · cases h

theorem ofCells_one (c : V) : ofCells false [c] = some c := rfl
theorem slice_one {α : Type} {l : List α} {i : Nat} {a : α} (h : l[i]? = some a) : slice? l i 1 = some [a] := by
  unfold slice?
  have : (l.drop i).take 1 = [a] := by
    rw [List.take_one, List.head?_drop, h]
    rfl
  simp only [this, List.length_singleton, if_true]
theorem ldG1_some (hs : SRel s σ) {a v : V} (h : ldG1 a s = some v) : opLoad 1 false a σ = some v := by
  unfold ldG1 at h
  split at h
  · rw [hs.2.2] at h
    split at h
    · rename_i ho
      obtain ⟨h1, h2⟩ := bif2_some h
      rw [nthR_eq] at h2
      simp only [opLoad, obCells, ho, Nat.eq_of_beq_eq_true h1, if_true, slice_one h2, ofCells_one]
    · rename_i ts g' ho
      obtain ⟨h1, h2⟩ := bif2_some h
      obtain ⟨t, h3, h4⟩ := optR_some h2
      rw [nthR_eq] at h3
      have h5 : (ts.map V.tr)[_]? = some (V.tr t) := (List.getElem?_map ..).trans (by rw [h3]; rfl)
      simp only [opLoad, obCells, ho, Nat.eq_of_beq_eq_true h1, if_true, slice_one h5, ofCells_one]
      exact h4
    · cases h
  · obtain ⟨t, h3, h4⟩ := optR_some h
    rw [nthR_eq] at h3
    simp only [opLoad, slice_one h3, List.map_cons, List.map_nil, ofCells_one]
    exact h4
  · cases h
theorem ldG_some (hs : SRel s σ) {size : Nat} {agg : Bool} {a v : V} (h : ldG size agg a s = some v) : opLoad size agg a σ = some v := by
  unfold ldG at h
  split at h
  · obtain ⟨cs, h1, h2⟩ := optR_some h
    obtain ⟨q, h3, h4⟩ := optR_some h2
    simp only [opLoad, cellsG_some hs h1, sliceR_some h3]
    exact h4
  · unfold opLoad at h ⊢
    split at h
    · simp [obCells] at h
    · exact h
    · cases h
theorem oneV_cells {x : V} (h : oneV x = true) : cellsOf x = [x] := by
  unfold oneV at h
  unfold cellsOf
  split at h
  all_goals first | (cases h; done) | skip
  split
  all_goals first | rfl | (simp_all; done)
theorem splice_set : ∀ (l : List V) (i : Nat) (v : V), i < l.length → splice l i [v] = l.set i v
  | [], i, v, h => by simp at h
  | a :: t, 0, v, h => by simp [splice]
  | a :: t, i + 1, v, h => by
    have := splice_set t i v (by simpa using h)
    simp only [splice, List.length_singleton] at this ⊢
    simp [this]
theorem stG1_some (hs : SRel s σ) {a x : V} {k : FS → R} {r : V × FS} (h : stG1 a x s k = some r) : ∃ s' σ', opStore 1 a x σ = some σ' ∧ SRel s' σ' ∧ k s' = some r := by
  unfold stG1 at h
  split at h
  · rw [hs.2.2] at h
    split at h
    · rename_i cs g' ho
      obtain ⟨h1, h2⟩ := bif2_some h
      obtain ⟨h3, h4⟩ := bif2_some h2
      obtain ⟨h5, h6⟩ := setR_some h4
      obtain ⟨s2, h7, h8⟩ := setK_ok hs (lt_of_get ho) (.row (cs.set _ x) g')
      rw [h8] at h6
      refine ⟨s2, _, ?_, h7, h6⟩
      simp only [opStore, oneV_cells h3, List.length_singleton, if_true, obPut, ho]
      rw [if_pos ⟨Nat.eq_of_beq_eq_true h1, h5, by simp [h3]⟩, splice_set _ _ _ h5]
    · cases h
  · cases h
theorem stG_some (hs : SRel s σ) {size : Nat} {a x : V} {k : FS → R} {r : V × FS} (h : stG size a x s k = some r) : ∃ s' σ', opStore size a x σ = some σ' ∧ SRel s' σ' ∧ k s' = some r := by
  unfold stG at h
  split at h
  · obtain ⟨h1, h2⟩ := bif2_some h
    obtain ⟨s2, h3, h4⟩ := optR_some h2
    obtain ⟨σ', h5, h6⟩ := putG_some hs h3
    refine ⟨s2, σ', ?_, h6, h4⟩
    simp only [opStore, Nat.eq_of_beq_eq_true h1, if_true]
    exact h5
  · cases h
theorem asIdxK_some {i : V} {k : Nat → Option V} {v : V} (h : asIdxK i k = some v) : ∃ n, asIdx? i = some n ∧ k n = some v := by
  unfold asIdxK at h
  split at h
  · rename_i n
    refine ⟨n, ?_, h⟩
    simp [asIdx?]
  · cases h
theorem iaddrG_some (hs : SRel s σ) {size : Nat} {x i v : V} (h : iaddrG size x i s = some v) : opIaddr size x i σ = some v := by
  unfold iaddrG at h
  obtain ⟨n, h1, h2⟩ := asIdxK_some h
  unfold opIaddr
  rw [h1]
  simp only
  split at h2
  · obtain ⟨ob, h3, h4⟩ := optR_some h2
    rw [hs.2.2] at h3
    obtain ⟨h5, h6⟩ := bif2_some h4
    obtain ⟨h7, h8⟩ := bif2_some h6
    obtain ⟨h9, h10⟩ := bif2_some h8
    rw [natK_eq] at h10
    simp only [h3]
    rw [if_pos ⟨by simpa [Nat.blt_eq] using h5, Nat.eq_of_beq_eq_true h7, Nat.eq_of_beq_eq_true h9⟩]
    exact h10
  · obtain ⟨h5, h6⟩ := bif2_some h2
    rename_i cs m cap
    cases hc : cs.isEmpty with
    | true => rw [hc] at h6; cases h6
    | false =>
      rw [hc] at h6
      have h6 : natK (Nat.mul n size) (fun o => some (V.tr (.rptr cs o))) = some v := h6
      rw [natK_eq] at h6
      simp only
      rw [if_pos ⟨by simpa [Nat.blt_eq] using h5, hc⟩]
      exact h6
  · cases h2
theorem allocG_some (hs : SRel s σ) {z : List V} {k : V → FS → R} {r : V × FS} (h : allocG z s k = some r) : ∃ s', SRel s' (σ ++ [.row z 0]) ∧ k (.ptr σ.length 0 0) s' = some r := by
  unfold allocG at h
  obtain ⟨s', h1, h2⟩ := pushK_ok hs (.row z 0)
  rw [h2] at h
  exact ⟨s', h1, h⟩
theorem bsliceG_some (hs : SRel s σ) {own : Bool} {len size : Nat} {zero : List Tree} {parts : List (Nat × Nat × V)} {k : V → FS → R} {r : V × FS} (h : bsliceG own len size zero parts s k = some r) :
    ∃ v s' σ', opBslice own len size zero parts σ = some (v, σ') ∧ SRel s' σ' ∧ k v s' = some r := by
  unfold bsliceG at h
  obtain ⟨cs, h1, h2⟩ := optR_some h
  unfold opBslice
  rw [h1]
  simp only
  obtain ⟨s', h3, h4⟩ := pushK_ok hs (.row cs 0)
  cases own with
  | true =>
    have h2 : s.pushK (.row cs 0) (fun n s => k (.own n 0 0 len size (some len)) s) = some r := h2
    rw [h4] at h2
    exact ⟨_, s', _, rfl, h3, h2⟩
  | false =>
    have h2 : (match allTr cs with
      | some ts => k (.tr (.row ts len (some len))) s
      | none => s.pushK (.row cs 0) fun n s => k (.own n 0 0 len size (some len)) s) = some r := h2
    simp only [Bool.false_eq_true, if_false]
    split at h2
    · rename_i ts hts
      rw [hts]
      exact ⟨_, s, _, rfl, hs, h2⟩
    · rename_i hts
      rw [hts]
      rw [h4] at h2
      exact ⟨_, s', _, rfl, h3, h2⟩
theorem appendG_some (hs : SRel s σ) {size bytes : Nat} {v x : V} {k : V → FS → R} {r : V × FS} (h : appendG size bytes v x s k = some r) :
    ∃ u s' σ', opAppend size bytes v x σ = some (u, σ') ∧ SRel s' σ' ∧ k u s' = some r := by
  unfold appendG at h
  obtain ⟨⟨xs, n⟩, h1, h2⟩ := optR_some h
  unfold opAppend
  rw [elemsG_some hs h1]
  simp only at h2 ⊢
  obtain ⟨h3, h4⟩ := bif2_some h2
  simp only [h3, Bool.not_true, Bool.false_eq_true, if_false]
  split at h4
  · cases n with
    | zero => exact ⟨_, s, σ, by simp, hs, h4⟩
    | succ n =>
      obtain ⟨s', h5, h6⟩ := pushK_ok hs (.row xs 0)
      have h4 : s.pushK (.row xs 0) (fun id s => k (.own id 0 0 (n + 1) size none) s) = some r := h4
      rw [h6] at h4
      exact ⟨_, s', _, by simp, h5, h4⟩
  · rename_i id g off len sz cap
    obtain ⟨h5, h6⟩ := bif2_some h4
    obtain ⟨h7, h8⟩ := bif2_some h6
    have h5 := Nat.eq_of_beq_eq_true h5
    subst h5
    rw [hs.2.2] at h8
    split at h8
    · rename_i cs g' ho
      obtain ⟨h9, h10⟩ := bif2_some h8
      have h9 := Nat.eq_of_beq_eq_true h9
      subst h9
      obtain ⟨old, h11, h12⟩ := optR_some h10
      have h11 := sliceR_some h11
      have hh : Nat.mul = fun a b : Nat => a * b := rfl
      rw [hh] at h11
      simp only at h11
      simp only [ne_eq, not_true_eq_false, if_false, h7, Bool.not_true, Bool.false_eq_true, ho, h11]
      cases n with
      | zero => exact ⟨_, s, σ, by simp, hs, h12⟩
      | succ n =>
        simp only [Nat.succ_ne_zero, if_false]
        cases cap with
        | some c =>
          have h12 : bif2 (Nat.ble (len + (n + 1)) c) (optR (putG s id g (off + len * sz) xs) fun s => k (.own id g off (len + (n + 1)) sz (some c)) s) (s.pushK (.row (old ++ xs) 0) fun i s => k (.own i 0 0 (len + (n + 1)) sz none) s) = some r := h12
          rcases bif2_or h12 with ⟨hb, h13⟩ | ⟨hb, h13⟩
          · obtain ⟨s', h14, h15⟩ := optR_some h13
            obtain ⟨σ', h16, h17⟩ := putG_some hs h14
            simp only
            rw [if_pos (Nat.le_of_ble_eq_true hb), h16]
            exact ⟨_, s', σ', rfl, h17, h15⟩
          · obtain ⟨s', h14, h15⟩ := pushK_ok hs (.row (old ++ xs) 0)
            rw [h15] at h13
            have hb : ¬ len + (n + 1) ≤ c := fun h => by rw [Nat.ble_eq_true_of_le h] at hb; cases hb
            simp only
            rw [if_neg hb]
            exact ⟨_, s', _, rfl, h14, h13⟩
        | none =>
          have h12 : bif2 (Nat.ble (off + (len + (n + 1)) * sz) cs.length && Nat.blt 0 sz) (optR (putG s id g (off + len * sz) xs) fun s => k (.own id g off (len + (n + 1)) sz none) s)
            (bif2 (xs.all oneV) (natK (len + (n + 1)) fun m => s.setK id (.row (old ++ xs) (g + 1)) fun s => k (.own id (g + 1) 0 m sz none) s) none) = some r := h12
          rcases bif2_or h12 with ⟨hb, h13⟩ | ⟨hb, h13⟩
          · obtain ⟨s', h14, h15⟩ := optR_some h13
            obtain ⟨σ', h16, h17⟩ := putG_some hs h14
            simp only [Bool.and_eq_true, Nat.blt_eq] at hb
            simp only
            rw [if_pos ⟨Nat.le_of_ble_eq_true hb.1, hb.2⟩, h16]
            exact ⟨_, s', σ', rfl, h17, h15⟩
          · obtain ⟨ho1, h14⟩ := bif2_some h13
            rw [natK_eq] at h14
            obtain ⟨s', h15, h16⟩ := setK_ok hs (lt_of_get ho) (.row (old ++ xs) (g + 1))
            rw [h16] at h14
            have hb : ¬ (off + (len + (n + 1)) * sz ≤ cs.length ∧ 0 < sz) := fun h => by
              rw [Nat.ble_eq_true_of_le h.1, (Nat.blt_eq).mpr h.2] at hb
              cases hb
            simp only
            rw [if_neg hb, if_pos ho1]
            exact ⟨_, s', _, rfl, h15, h14⟩
    · cases h8
  · rename_i cs len cap
    cases n with
    | zero => exact ⟨_, s, σ, by simp, hs, h4⟩
    | succ n =>
      have h4 : bif2 (Nat.beq cs.length (len * size)) (bif2 (room len bytes) (match cap with
        | some c => bif2 (Nat.ble (len + (n + 1)) c) none (s.pushK (.row (cs.map .tr ++ xs) 0) fun id s => k (.own id 0 0 (len + (n + 1)) size none) s)
        | none => none) none) none = some r := h4
      obtain ⟨h5, h6⟩ := bif2_some h4
      obtain ⟨h7, h8⟩ := bif2_some h6
      simp only [Nat.succ_ne_zero, if_false, Nat.eq_of_beq_eq_true h5, h7, and_self, if_true]
      cases cap with
      | none => cases h8
      | some c =>
        rcases bif2_or h8 with ⟨hb, h13⟩ | ⟨hb, h13⟩
        · cases h13
        · obtain ⟨s', h14, h15⟩ := pushK_ok hs (.row (cs.map .tr ++ xs) 0)
          rw [h15] at h13
          have hb : ¬ len + (n + 1) ≤ c := fun h => by rw [Nat.ble_eq_true_of_le h] at hb; cases hb
          simp only
          rw [if_neg hb]
          exact ⟨_, s', _, rfl, h14, h13⟩
  · cases h4
theorem lookupG_eq (hs : SRel s σ) (kind : TypeDesc) (zero : Tree) (ok : Bool) (m k : V) : lookupG kind zero ok m k s = opLookup kind zero ok m k σ := by
  unfold lookupG opLookup
  simp only [hs.2.2]
  rfl
theorem mupdG_some (hs : SRel s σ) {kind : TypeDesc} {m k v : V} {s' : FS} (h : mupdG kind m k v s = some s') : ∃ σ', opMapUpdate kind m k v σ = some σ' ∧ SRel s' σ' := by
  unfold mupdG at h
  simp only [hs.2.2] at h
  unfold opMapUpdate
  split at h
  · rename_i hk
    split at h
    · rename_i es clock ho
      simp only [hk, ho]
      split at h
      · rename_i hf
        obtain ⟨s2, h1, h2⟩ := setK_ok hs (lt_of_get ho) _
        rw [h2] at h
        cases h
        rw [hf]
        exact ⟨_, rfl, h1⟩
      · rename_i hf
        obtain ⟨s2, h1, h2⟩ := setK_ok hs (lt_of_get ho) _
        rw [h2] at h
        cases h
        rw [hf]
        exact ⟨_, rfl, h1⟩
      · cases h
    · cases h
  · cases h
theorem mentG_some (hs : SRel s σ) {kind : TypeDesc} {zero : Tree} {m k : V} {p : V × FS} (h : mentG kind zero m k s = some p) : ∃ σ', opMapEntry kind zero m k σ = some (p.1, σ') ∧ SRel p.2 σ' := by
  unfold mentG at h
  simp only [hs.2.2] at h
  unfold opMapEntry
  split at h
  · rename_i hk
    split at h
    · rename_i es clock ho
      simp only [hk, ho]
      split at h
      · rename_i hf
        obtain ⟨s2, h1, h2⟩ := setK_ok hs (lt_of_get ho) _
        rw [h2] at h
        cases h
        rw [hf]
        exact ⟨_, rfl, h1⟩
      · rename_i hf
        obtain ⟨s2, h1, h2⟩ := setK_ok hs (lt_of_get ho) _
        rw [h2] at h
        cases h
        rw [hf]
        exact ⟨_, rfl, h1⟩
      · cases h
    · cases h
  · cases h
theorem estoG_some (hs : SRel s σ) {m c v : V} {s' : FS} (h : estoG m c v s = some s') : ∃ σ', opEntryStore m c v σ = some σ' ∧ SRel s' σ' := by
  unfold estoG at h
  simp only [hs.2.2] at h
  unfold opEntryStore
  split at h
  · rename_i hi
    split at h
    · rename_i es clock ho
      simp only [hi, ho]
      split at h
      · rename_i hf
        obtain ⟨s2, h1, h2⟩ := setK_ok hs (lt_of_get ho) _
        rw [h2] at h
        cases h
        rw [hf]
        exact ⟨_, rfl, h1⟩
      · cases h
    · cases h
  · cases h
theorem mkmapG_some (hs : SRel s σ) {k : V → FS → R} {r : V × FS} (h : mkmapG s k = some r) : ∃ s', SRel s' (σ ++ [.map [] 0]) ∧ k (.mp σ.length) s' = some r := by
  unfold mkmapG at h
  obtain ⟨s', h1, h2⟩ := pushK_ok hs (.map [] 0)
  rw [h2] at h
  exact ⟨s', h1, h⟩
theorem mksliceG_some (hs : SRel s σ) {zero : List Tree} {bytes : Nat} {l c : V} {k : V → FS → R} {r : V × FS} (h : mksliceG zero bytes l c s k = some r) :
    ∃ v s' σ', opMkslice zero bytes l c σ = some (v, σ') ∧ SRel s' σ' ∧ k v s' = some r := by
  unfold mksliceG at h
  unfold opMkslice
  split at h
  · rename_i l' c' h1 h2
    obtain ⟨h3, h4⟩ := bif2_some h
    obtain ⟨h5, h6⟩ := bif2_some h4
    obtain ⟨s', h7, h8⟩ := pushK_ok hs (.row ((rep c' zero).map .tr) 0)
    rw [h8] at h6
    simp only [h1, h2]
    rw [if_pos ⟨Nat.le_of_ble_eq_true h3, h5⟩]
    exact ⟨_, s', _, rfl, h7, h6⟩
  · cases h
theorem lenMapG_eq (hs : SRel s σ) (v : V) : lenMapG v s = opLenMap σ v := by
  unfold lenMapG opLenMap
  simp only [hs.2.2]
  rfl
theorem capG_some (hs : SRel s σ) {x v : V} (h : capG x s = some v) : opCap σ x = some v := by
  unfold capG at h
  split at h
  · rw [hs.2.2] at h
    split at h
    · rename_i ho
      obtain ⟨h1, h2⟩ := bif2_some h
      simp only [opCap, ho]
      rw [if_pos (Nat.eq_of_beq_eq_true h1)]
      exact h2
    · cases h
  · unfold opCap at h ⊢
    split at h
    · exact h
    · exact h
    · simp at h
    · cases h
theorem sliceG_some (hs : SRel s σ) {size : Nat} {x v : V} {lo hi mx : Option V} (h : sliceG size x lo hi mx s = some v) : opSlice size x lo hi mx σ = some v := by
  unfold sliceG at h
  split at h
  · rename_i id g off len sz cap
    split at h
    · rename_i lo' hi' mx' h1 h2 h3
      unfold opSlice
      rw [h1, h2, h3]
      simp only
      rcases bif2_or h with ⟨hb, h⟩ | ⟨hb, h⟩
      · cases h
      simp only [hb, Bool.false_eq_true, if_false]
      obtain ⟨h4, h5⟩ := bif2_some h
      have h4 := Nat.eq_of_beq_eq_true h4
      subst h4
      obtain ⟨cs, h6, h7⟩ := optR_some h5
      simp only [ne_eq, not_true_eq_false, if_false, cellsG_some hs h6]
      simp only at h7
      obtain ⟨h8, h9⟩ := bif2_some h7
      obtain ⟨h10, h11⟩ := bif2_some h9
      obtain ⟨h12, h13⟩ := bif2_some h11
      rw [natK_eq, natK_eq] at h13
      rw [if_pos]
      · exact h13
      · refine ⟨Nat.le_of_ble_eq_true h8, Nat.le_of_ble_eq_true h10, ?_⟩
        simp only [Bool.or_eq_true, Bool.and_eq_true, Nat.blt_eq] at h12
        rcases h12 with (h12 | ⟨⟨h12, h14⟩, h15⟩) | h12
        · exact .inl (Nat.le_of_ble_eq_true h12)
        · refine .inr (.inl ⟨?_, Nat.le_of_ble_eq_true h14, h15⟩)
          cases cap with
          | none => rfl
          | some c => cases h12
        · exact .inr (.inr h12)
    · cases h
  · unfold opSlice at h ⊢
    split at h
    · simp only at h ⊢
      split at h
      · cases h
      · rename_i hb
        rw [if_neg hb]
        split at h
        · split at h
          · cases h
          · simp [obCells] at h
        · exact h
        · exact h
        · cases h
    · cases h
theorem bytesStrG_some (hs : SRel s σ) {x v : V} (h : bytesStrG x s = some v) : opConv .bytesStr x σ = some (v, σ) := by
  unfold bytesStrG at h
  split at h
  · cases h
  · rename_i hno
    obtain ⟨⟨cs, n⟩, h1, h2⟩ := optR_some h
    obtain ⟨l, h3, h4⟩ := optR_some h2
    simp only [opConv, elemsG_some hs h1]
    simp only at h3
    split
    · rename_i hl
      rw [h3] at hl
      cases hl
      cases h4
      rfl
    · rename_i hl
      rw [h3] at hl
      cases hl
theorem strBytesG_some (hs : SRel s σ) {x : V} {k : V → FS → R} {r : V × FS} (h : strBytesG x s k = some r) : ∃ v s' σ', opConv .strBytes x σ = some (v, σ') ∧ SRel s' σ' ∧ k v s' = some r := by
  unfold strBytesG at h
  split at h
  · obtain ⟨s', h1, h2⟩ := pushK_ok hs _
    rw [h2] at h
    exact ⟨_, s', _, rfl, h1, h⟩
  · cases h
theorem viaG_some (hs : SRel s σ) {f : Store → Option (V × Store)} {k : V → FS → R} {r : V × FS} (h : viaG f s k = some r) : ∃ v s' σ', f σ = some (v, σ') ∧ SRel s' σ' ∧ k v s' = some r := by
  unfold viaG at h
  rw [toL_eq hs] at h
  split at h
  · rename_i v σ' hf
    exact ⟨v, _, σ', hf, ofL_ok σ', h⟩
  · cases h

theorem eqI_eq (a b : Int) : eqI a b = (a == b) := by
  rw [Bool.eq_iff_iff, beq_iff_eq]
  cases a with
  | ofNat m =>
    cases b with
    | ofNat n =>
      show Nat.beq m n = true ↔ Int.ofNat m = Int.ofNat n
      rw [Nat.beq_eq]
      exact ⟨fun h => by rw [h], fun h => by cases h; rfl⟩
    | negSucc n =>
      show false = true ↔ _
      simp
  | negSucc m =>
    cases b with
    | ofNat n =>
      show false = true ↔ _
      simp
    | negSucc n =>
      show Nat.beq m n = true ↔ _
      rw [Nat.beq_eq]
      simp
theorem normI_eq (k : IntKind) (n : Int) : normI k n = some (.tr (.sc (.int k n))) := by
  cases n with
  | ofNat m => exact natK_eq m fun m => some (V.tr (.sc (.int k (.ofNat m))))
  | negSucc m => exact natK_eq m fun m => some (V.tr (.sc (.int k (.negSucc m))))
theorem normB_eq (b : Bool) : normB b = some (.tr (.sc (.bool b))) := by cases b <;> rfl
theorem opBin_int {ek : EK} {op : BinOp} {k : IntKind} {a b : Int} (hop : sh op = false) : opBin ek op (.tr (.sc (.int k a))) (.tr (.sc (.int k b))) = match intF op k a b with | some v => some (.tr (.sc v)) | none => none := by
  rw [← opBinF_eq]
  have hk : Nat.beq (kix k) (kix k) = true := by cases k <;> rfl
  simp only [opBinF, asI?, hop, hk]
  rfl
theorem intK_eq {ek : EK} {op : BinOp} {g : IntKind → Int → Int → Option V} (hop : sh op = false) (hg : ∀ k a b, g k a b = match intF op k a b with | some v => some (.tr (.sc v)) | none => none) (x y : V) :
    intK g (opBin ek op) x y = opBin ek op x y := by
  unfold intK
  split
  · split
    · rename_i k a _ k' b
      cases hk : Nat.beq (kix k) (kix k') with
      | false => rfl
      | true =>
        have hk := kix_inj hk
        subst hk
        rw [opBin_int hop, ← hg]
    · rfl
  · rfl
noncomputable section
def binG (ek : EK) : BinOp → V → V → Option V
  | .add => binAdd ek
  | .sub => binSub ek
  | .lss => binLss ek
  | .gtr => binGtr ek
  | .leq => binLeq ek
  | .geq => binGeq ek
  | .eql => binEql ek
  | .neq => binNeq ek
  | op => binOther ek op
end
theorem binG_eq (ek : EK) (op : BinOp) (x y : V) : binG ek op x y = opBin ek op x y := by
  cases op
  case add => exact intK_eq rfl (fun k a b => by rw [normI_eq]; rfl) x y
  case sub => exact intK_eq rfl (fun k a b => by rw [normI_eq]; rfl) x y
  case lss => exact intK_eq rfl (fun k a b => by rw [normB_eq]; rfl) x y
  case gtr => exact intK_eq rfl (fun k a b => by rw [normB_eq]; rfl) x y
  case leq => exact intK_eq rfl (fun k a b => by rw [normB_eq]; rfl) x y
  case geq => exact intK_eq rfl (fun k a b => by rw [normB_eq]; rfl) x y
  case eql => exact intK_eq rfl (fun k a b => by rw [normB_eq, eqI_eq]; rfl) x y
  case neq => exact intK_eq rfl (fun k a b => by rw [normB_eq, eqI_eq]; rfl) x y
  all_goals rfl

end Go.Proofs.Ytmgjhnengikbhaa.AM
end
section
set_option linter.unusedSimpArgs false
set_option linter.unusedVariables false
/- Faster forms: case distinctions whose branches hold no variables. -/
set_option linter.unusedVariables false
set_option linter.unusedSimpArgs false
namespace Go.Proofs.Ytmgjhnengikbhaa.AM
noncomputable section

abbrev EI (β : Type) := (IntKind → Int → β) → β → β
/-- Whole numbers. -/
def xI (x : Value) : EI (Option V) := Value.rec (motive_1 := fun _ => EI (Option V)) (motive_2 := fun _ => EI (Option V)) (motive_3 := fun _ => EI (Option V)) (fun _ _ d => d) (fun k n f _ => f k n) (fun _ _ _ d => d) (fun _ _ _ _ d => d) (fun _ _ d => d) (fun _ _ d => d)
  (fun _ _ _ _ d => d) (fun _ _ d => d) (fun _ _ d => d) (fun _ _ _ _ _ _ d => d) (fun _ d => d) (fun _ _ _ _ d => d) (fun _ d => d) (fun _ _ _ d => d) (fun _ _ _ d => d) (fun _ _ _ d => d) (fun _ d => d) (fun _ _ _ _ _ d => d) x
def tI (t : Tree) : EI (Option V) := Tree.rec (motive_1 := fun _ => EI (Option V)) (motive_2 := fun _ => EI (Option V)) (fun v f d => xI v f d) (fun _ _ _ d => d) (fun _ _ _ d => d) (fun _ _ _ _ _ d => d) (fun _ _ _ _ d => d) (fun _ _ _ _ _ _ d => d) (fun _ _ _ _ d => d) (fun _ d => d) (fun _ _ _ _ _ d => d) t
def vI (v : V) : EI (Option V) := V.rec (motive_1 := fun _ => EI (Option V)) (motive_2 := fun _ => EI (Option V)) (fun t f d => tI t f d) (fun _ _ _ d => d) (fun _ _ _ d => d) (fun _ _ _ _ _ _ _ d => d) (fun _ _ _ _ d => d) (fun _ _ _ _ _ _ d => d) (fun _ _ d => d) (fun _ _ _ _ d => d) (fun _ d => d) (fun _ _ _ _ _ d => d) v
/-- Strings. -/
abbrev ES (β : Type) := (ByteArray → β) → β → β
def xS' (x : Value) : ES (Option V) := Value.rec (motive_1 := fun _ => ES (Option V)) (motive_2 := fun _ => ES (Option V)) (motive_3 := fun _ => ES (Option V)) (fun _ _ d => d) (fun _ _ _ d => d) (fun _ _ _ d => d) (fun _ _ _ _ d => d) (fun s f _ => f s) (fun _ _ d => d)
  (fun _ _ _ _ d => d) (fun _ _ d => d) (fun _ _ d => d) (fun _ _ _ _ _ _ d => d) (fun _ d => d) (fun _ _ _ _ d => d) (fun _ d => d) (fun _ _ _ d => d) (fun _ _ _ d => d) (fun _ _ _ d => d) (fun _ d => d) (fun _ _ _ _ _ d => d) x
def tS (t : Tree) : ES (Option V) := Tree.rec (motive_1 := fun _ => ES (Option V)) (motive_2 := fun _ => ES (Option V)) (fun v f d => xS' v f d) (fun _ _ _ d => d) (fun _ _ _ d => d) (fun _ _ _ _ _ d => d) (fun _ _ _ _ d => d) (fun _ _ _ _ _ _ d => d) (fun _ _ _ _ d => d) (fun _ d => d) (fun _ _ _ _ _ d => d) t
def vS (v : V) : ES (Option V) := V.rec (motive_1 := fun _ => ES (Option V)) (motive_2 := fun _ => ES (Option V)) (fun t f d => tS t f d) (fun _ _ _ d => d) (fun _ _ _ d => d) (fun _ _ _ _ _ _ _ d => d) (fun _ _ _ _ d => d) (fun _ _ _ _ _ _ d => d) (fun _ _ d => d) (fun _ _ _ _ d => d) (fun _ d => d) (fun _ _ _ _ _ d => d) v
/-- Truths: if true, if false, else. -/
abbrev EB (β : Type) := β → β → β → β
def xB (x : Value) : EB R := Value.rec (motive_1 := fun _ => EB R) (motive_2 := fun _ => EB R) (motive_3 := fun _ => EB R) (fun b t f _ => Bool.rec (motive := fun _ => R) f t b) (fun _ _ _ _ d => d) (fun _ _ _ _ d => d) (fun _ _ _ _ _ d => d) (fun _ _ _ d => d) (fun _ _ _ d => d)
  (fun _ _ _ _ _ d => d) (fun _ _ _ d => d) (fun _ _ _ d => d) (fun _ _ _ _ _ _ _ d => d) (fun _ _ d => d) (fun _ _ _ _ _ d => d) (fun _ _ d => d) (fun _ _ _ _ d => d) (fun _ _ _ _ d => d) (fun _ _ _ _ d => d) (fun _ _ d => d) (fun _ _ _ _ _ _ d => d) x
def tB (t : Tree) : EB R := Tree.rec (motive_1 := fun _ => EB R) (motive_2 := fun _ => EB R) (fun v t f d => xB v t f d) (fun _ _ _ _ d => d) (fun _ _ _ _ d => d) (fun _ _ _ _ _ _ d => d) (fun _ _ _ _ _ d => d) (fun _ _ _ _ _ _ _ d => d) (fun _ _ _ _ _ d => d) (fun _ _ d => d) (fun _ _ _ _ _ _ d => d) t
def vB (v : V) : EB R := V.rec (motive_1 := fun _ => EB R) (motive_2 := fun _ => EB R) (fun v t f d => tB v t f d) (fun _ _ _ _ d => d) (fun _ _ _ _ d => d) (fun _ _ _ _ _ _ _ _ d => d) (fun _ _ _ _ _ d => d) (fun _ _ _ _ _ _ _ d => d) (fun _ _ _ d => d) (fun _ _ _ _ _ d => d) (fun _ _ d => d) (fun _ _ _ _ _ _ d => d) v
/-- Pointers. -/
abbrev EP (β : Type) := (Nat → Nat → Nat → β) → β → β
def vP (v : V) : EP (Option V) := V.rec (motive_1 := fun _ => EP (Option V)) (motive_2 := fun _ => EP (Option V)) (fun _ _ d => d) (fun _ _ _ d => d) (fun _ _ _ d => d) (fun _ _ _ _ _ _ _ d => d) (fun i g o f _ => f i g o) (fun _ _ _ _ _ _ d => d) (fun _ _ d => d) (fun _ _ _ _ d => d) (fun _ d => d) (fun _ _ _ _ _ d => d) v
def vPR (v : V) : EP R := V.rec (motive_1 := fun _ => EP R) (motive_2 := fun _ => EP R) (fun _ _ d => d) (fun _ _ _ d => d) (fun _ _ _ d => d) (fun _ _ _ _ _ _ _ d => d) (fun i g o f _ => f i g o) (fun _ _ _ _ _ _ d => d) (fun _ _ d => d) (fun _ _ _ _ d => d) (fun _ d => d) (fun _ _ _ _ _ d => d) v
/-- Slices with a place. -/
abbrev EO (β : Type) := (Nat → Nat → Nat → Nat → Nat → β) → β → β
def vO (v : V) : EO (Option V) := V.rec (motive_1 := fun _ => EO (Option V)) (motive_2 := fun _ => EO (Option V)) (fun _ _ d => d) (fun _ _ _ d => d) (fun _ _ _ d => d) (fun i g o l z _ f _ => f i g o l z) (fun _ _ _ _ d => d) (fun _ _ _ _ _ _ d => d) (fun _ _ d => d) (fun _ _ _ _ d => d) (fun _ d => d) (fun _ _ _ _ _ d => d) v
/-- Objects that are rows. -/
def oRow (o : Ob) : (List V → Nat → Option V) → Option V → Option V := Ob.rec (motive := fun _ => (List V → Nat → Option V) → Option V → Option V) (fun cs g f _ => f cs g) (fun _ _ _ d => d) (fun _ _ _ d => d) o
def oRowR (o : Ob) : (List V → Nat → R) → R → R := Ob.rec (motive := fun _ => (List V → Nat → R) → R → R) (fun cs g f _ => f cs g) (fun _ _ _ d => d) (fun _ _ _ d => d) o
def oGen (o : Ob) : Nat := Ob.rec (motive := fun _ => Nat) (fun _ g => g) (fun _ g => g) (fun _ _ => 0) o

theorem vI_eq (v : V) (f : IntKind → Int → Option V) (d : Option V) : vI v f d = match v with | .tr (.sc (.int k n)) => f k n | _ => d := by
  cases v with
  | tr t => cases t with
    | sc x => cases x <;> rfl
    | _ => rfl
  | _ => rfl
theorem vS_eq (v : V) (f : ByteArray → Option V) (d : Option V) : vS v f d = match v with | .tr (.sc (.string k)) => f k | _ => d := by
  cases v with
  | tr t => cases t with
    | sc x => cases x <;> rfl
    | _ => rfl
  | _ => rfl
theorem vB_eq (v : V) (a b d : R) : vB v a b d = match v with | .tr (.sc (.bool u)) => Bool.rec (motive := fun _ => R) b a u | _ => d := by
  cases v with
  | tr t => cases t with
    | sc x => cases x <;> rfl
    | _ => rfl
  | _ => rfl
theorem vP_eq (v : V) (f : Nat → Nat → Nat → Option V) (d : Option V) : vP v f d = match v with | .ptr i g o => f i g o | _ => d := by cases v <;> rfl
theorem vPR_eq (v : V) (f : Nat → Nat → Nat → R) (d : R) : vPR v f d = match v with | .ptr i g o => f i g o | _ => d := by cases v <;> rfl
theorem vO_eq (v : V) (f : Nat → Nat → Nat → Nat → Nat → Option V) (d : Option V) : vO v f d = match v with | .own i g o l z _ => f i g o l z | _ => d := by cases v <;> rfl
theorem oGen_eq (o : Ob) : oGen o = genOf o := by cases o <;> rfl

/-- Guards, tests, picks. -/
def gGF (x : GO) (want : Bool) (a b : GOp) : GOp := fun c k e l s => x (fun v => Bool.rec (motive := fun _ => R) (vB v (b c k e l s) (a c k e l s) (match v with | .tr (.tup []) => b c k e l s | _ => none)) (vB v (a c k e l s) (b c k e l s) (match v with | .tr (.tup []) => b c k e l s | _ => none)) want) e l
theorem gGF_eq (x : GO) (want : Bool) (a b : GOp) : gGF x want a b = gG x want a b := by
  funext c k e l s
  unfold gGF gG
  congr 1
  funext v
  rw [vB_eq, vB_eq]
  cases want with
  | true =>
    cases v with
    | tr t => cases t with
      | sc x => cases x with
        | bool u => cases u <;> rfl
        | _ => rfl
      | tup vs => cases vs <;> rfl
      | _ => rfl
    | _ => rfl
  | false =>
    cases v with
    | tr t => cases t with
      | sc x => cases x with
        | bool u => cases u <;> rfl
        | _ => rfl
      | tup vs => cases vs <;> rfl
      | _ => rfl
    | _ => rfl
def cCondF (x : GO) (a b : GC) : GC := fun c ex ret k e l s => x (fun v => vB v (a c ex ret k e l s) (b c ex ret k e l s) none) e l
theorem cCondF_eq (x : GO) (a b : GC) : cCondF x a b = cCond x a b := by
  funext c ex ret k e l s
  unfold cCondF cCond
  congr 1
  funext v
  rw [vB_eq]
  try rfl
def kPickF (x a b : GO) : GK := fun _ k e l s => x (fun v => vB v (a (fun v => k v s) e l) (b (fun v => k v s) e l) none) e l
theorem kPickF_eq (x a b : GO) : kPickF x a b = kPick x a b := by
  funext c k e l s
  unfold kPickF kPick
  congr 1
  funext v
  rw [vB_eq]
  try rfl

/-- Loads and stores of one cell. -/
def ldF1 (a : V) (s : FS) : Option V := vP a (fun id g off => optR (s.getO id) fun ob => oRow ob (fun cs g' => Bool.rec (motive := fun _ => Option V) none (nthR cs off) (Nat.beq g g')) (ldG1 a s)) (ldG1 a s)
theorem ldF1_eq (a : V) (s : FS) : ldF1 a s = ldG1 a s := by
  unfold ldF1
  rw [vP_eq]
  cases a with
  | ptr id g off =>
    simp only [ldG1]
    cases h : s.getO id with
    | none => rfl
    | some ob => cases ob <;> rfl
  | _ => rfl
def stF1 (a x : V) (s : FS) (k : FS → R) : R := vPR a (fun id g off => optR (s.getO id) fun ob => oRowR ob (fun cs g' => bif2 (Nat.beq g g') (bif2 (oneV x) (setR cs x off fun cs => s.setK id (.row cs g') k) none) none) none) none
theorem stF1_eq (a x : V) (s : FS) (k : FS → R) : stF1 a x s k = stG1 a x s k := by
  unfold stF1
  rw [vPR_eq]
  cases a with
  | ptr id g off =>
    simp only [stG1]
    cases h : s.getO id with
    | none => rfl
    | some ob => cases ob <;> rfl
  | _ => rfl
def stA (a x : V) (s : FS) (k : FS → R) : R := bif2 (oneV x) (stF1 a x s k) (stG 1 a x s k)
theorem stA_some {s : FS} {σ : Store} (hs : SRel s σ) {a x : V} {k : FS → R} {r : V × FS} (h : stA a x s k = some r) : ∃ s' σ', opStore 1 a x σ = some σ' ∧ SRel s' σ' ∧ k s' = some r := by
  rcases bif2_or h with ⟨_, h⟩ | ⟨_, h⟩
  · exact stG1_some hs (by rwa [stF1_eq] at h)
  · exact stG_some hs h
def idxF (i : V) (f : Nat → Option V) : Option V := vI i (fun _ n => Int.rec (motive := fun _ => Option V) f (fun _ => none) n) none
theorem idxF_eq (i : V) (f : Nat → Option V) : idxF i f = asIdxK i f := by
  unfold idxF asIdxK
  rw [vI_eq]
  cases i with
  | tr t => cases t with
    | sc x => cases x with
      | int k n => cases n <;> rfl
      | _ => rfl
    | _ => rfl
  | _ => rfl
def iaddrF (size : Nat) (x i : V) (s : FS) : Option V := vO x (fun id g off len sz => idxF i fun i => optR (s.getO id) fun ob => bif2 (Nat.blt i len) (bif2 (Nat.beq sz size) (bif2 (Nat.beq g (oGen ob)) (natK (Nat.add off (Nat.mul i size)) fun o => some (.ptr id g o)) none) none) none) (iaddrG size x i s)
theorem iaddrF_eq (size : Nat) (x i : V) (s : FS) : iaddrF size x i s = iaddrG size x i s := by
  unfold iaddrF
  rw [vO_eq]
  cases x with
  | own id g off len sz cap => simp only [idxF_eq, oGen_eq, iaddrG]
  | _ => rfl

/-- Whole numbers. -/
def halfR (k : IntKind) : Nat := IntKind.rec (motive := fun _ => Nat) 128 32768 2147483648 9223372036854775808 256 65536 4294967296 18446744073709551616 k
def kixR (k : IntKind) : Nat := IntKind.rec (motive := fun _ => Nat) 0 1 2 3 4 5 6 7 k
def intKF (g : Int → Int → IntKind → Option V) (slow : V → V → Option V) (x y : V) : Option V := vI x (fun k a => vI y (fun k' b => Bool.rec (motive := fun _ => Option V) (slow x y) (g a b k) (Nat.beq (kixR k) (kixR k'))) (slow x y)) (slow x y)
theorem intKF_eq {g : Int → Int → IntKind → Option V} {g' : IntKind → Int → Int → Option V} (hg : ∀ k a b, g a b k = g' k a b) (slow : V → V → Option V) (x y : V) : intKF g slow x y = intK g' slow x y := by
  cases x with
  | tr t => cases t with
    | sc u => cases u with
      | int k a => cases y with
        | tr t' => cases t' with
          | sc u' => cases u' with
            | int k' b =>
              show Bool.rec (motive := fun _ => Option V) _ (g a b k) (Nat.beq (kixR k) (kixR k')) = Bool.rec (motive := fun _ => Option V) _ (g' k a b) (Nat.beq (kix k) (kix k'))
              rw [hg, show kixR k = kix k by cases k <;> rfl, show kixR k' = kix k' by cases k' <;> rfl]
            | _ => rfl
          | _ => rfl
        | _ => rfl
      | _ => rfl
    | _ => rfl
  | _ => rfl
def natI (k : IntKind) (r : Nat) : Option V := Bool.rec (motive := fun _ => Option V) (some (.tr (.sc (.int k (k.wrap (.ofNat r)))))) (some (.tr (.sc (.int k (.ofNat r))))) (Nat.blt r (halfR k))
theorem natI_eq (k : IntKind) (r : Nat) : natI k r = some (.tr (.sc (.int k (k.wrap (.ofNat r))))) := by
  unfold natI
  have h : halfR k = half k := by cases k <;> rfl
  rw [h]
  cases hb : Nat.blt r (half k) with
  | false => rfl
  | true =>
    have := wrap_in_pos k r (by simpa only [Nat.blt_eq] using hb)
    show some (V.tr (.sc (.int k (.ofNat r)))) = _
    rw [this]
def addF (a b : Int) : IntKind → Option V := Int.rec (motive := fun _ => Int → IntKind → Option V)
  (fun m b k => Int.rec (motive := fun _ => Nat → IntKind → Option V) (fun n m k => natK (Nat.add m n) fun r => natI k r) (fun n m k => normI k (wrapF k (Int.add (.ofNat m) (.negSucc n)))) b m k)
  (fun m b k => normI k (wrapF k (Int.add (.negSucc m) b))) a b
theorem addF_eq (k : IntKind) (a b : Int) : addF a b k = normI k (wrapF k (Int.add a b)) := by
  cases a with
  | negSucc m => rfl
  | ofNat m => cases b with
    | negSucc n => rfl
    | ofNat n =>
      show natK (Nat.add m n) (fun r => natI k r) = _
      rw [natK_eq, natI_eq, normI_eq, wrapF_eq]
      rfl
def subF (a b : Int) : IntKind → Option V := Int.rec (motive := fun _ => Int → IntKind → Option V)
  (fun m b k => Int.rec (motive := fun _ => Nat → IntKind → Option V) (fun n m k => Bool.rec (motive := fun _ => Option V) (normI k (wrapF k (Int.sub (.ofNat m) (.ofNat n)))) (natK (Nat.sub m n) fun r => natI k r) (Nat.ble n m)) (fun n m k => normI k (wrapF k (Int.sub (.ofNat m) (.negSucc n)))) b m k)
  (fun m b k => normI k (wrapF k (Int.sub (.negSucc m) b))) a b
theorem subF_eq (k : IntKind) (a b : Int) : subF a b k = normI k (wrapF k (Int.sub a b)) := by
  cases a with
  | negSucc m => rfl
  | ofNat m => cases b with
    | negSucc n => rfl
    | ofNat n =>
      show Bool.rec (motive := fun _ => Option V) (normI k (wrapF k (Int.sub (.ofNat m) (.ofNat n)))) (natK (Nat.sub m n) fun r => natI k r) (Nat.ble n m) = _
      cases hb : Nat.ble n m with
      | false => rfl
      | true =>
        show natK (Nat.sub m n) (fun r => natI k r) = _
        have hle := Nat.le_of_ble_eq_true hb
        have : Int.sub (.ofNat m) (.ofNat n) = Int.ofNat (m - n) := by
          show (m : Int) - (n : Int) = ((m - n : Nat) : Int)
          omega
        rw [natK_eq, natI_eq, normI_eq, wrapF_eq, this]
        rfl
def ltR (a b : Int) : Bool := Int.rec (motive := fun _ => Int → Bool) (fun m b => Int.rec (motive := fun _ => Nat → Bool) (fun n m => Nat.blt m n) (fun _ _ => false) b m) (fun m b => Int.rec (motive := fun _ => Nat → Bool) (fun _ _ => true) (fun n m => Nat.blt n m) b m) a b
theorem ltR_eq (a b : Int) : ltR a b = ltF a b := by cases a <;> cases b <;> rfl
def tV : Option V := some (.tr (.sc (.bool true)))
def fV : Option V := some (.tr (.sc (.bool false)))
def boolR (b : Bool) : Option V := Bool.rec (motive := fun _ => Option V) fV tV b
theorem boolR_eq (b : Bool) : boolR b = normB b := rfl
def beqL (a : List UInt8) : List UInt8 → Bool := List.rec (motive := fun _ => List UInt8 → Bool) (fun b => List.rec (motive := fun _ => Bool) true (fun _ _ _ => false) b) (fun x _ ih b => List.rec (motive := fun _ => Bool) false (fun y t _ => Bool.rec (motive := fun _ => Bool) false (ih t) (Nat.beq x.toNat y.toNat)) b) a
theorem beqL_eq : ∀ a b, beqL a b = bytesEq a b
  | [], [] => rfl
  | [], _ :: _ => rfl
  | _ :: _, [] => rfl
  | x :: a, y :: b => by
    show Bool.rec (motive := fun _ => Bool) false (beqL a b) (Nat.beq x.toNat y.toNat) = _
    rw [beqL_eq a b, show bytesEq (x :: a) (y :: b) = (Nat.beq x.toNat y.toNat && bytesEq a b) from rfl]
    cases Nat.beq x.toNat y.toNat <;> cases bytesEq a b <;> rfl
def strF (neg : Bool) (slow : V → V → Option V) (x y : V) : Option V := vS x (fun a => vS y (fun b => boolR (Bool.rec (motive := fun _ => Bool) (beqL a.data.toList b.data.toList) (!beqL a.data.toList b.data.toList) neg)) (slow x y)) (slow x y)
theorem opBin_str (ek : EK) (op : BinOp) (a b : ByteArray) : opBin ek op (.tr (.sc (.string a))) (.tr (.sc (.string b))) = match binStr op a b with | some v => some (.tr (.sc v)) | none => none := by
  cases ek <;> rfl
theorem strF_eql (ek : EK) (x y : V) : strF false (opBin ek .eql) x y = opBin ek .eql x y := by
  cases x with
  | tr t => cases t with
    | sc u => cases u with
      | string a => cases y with
        | tr t' => cases t' with
          | sc u' => cases u' with
            | string b =>
              rw [opBin_str]
              show boolR (Bool.rec (motive := fun _ => Bool) (beqL a.data.toList b.data.toList) (!beqL a.data.toList b.data.toList) false) = _
              rw [boolR_eq, normB_eq, beqL_eq]
              rfl
            | _ => rfl
          | _ => rfl
        | _ => rfl
      | _ => rfl
    | _ => rfl
  | _ => rfl
theorem strF_neq (ek : EK) (x y : V) : strF true (opBin ek .neq) x y = opBin ek .neq x y := by
  cases x with
  | tr t => cases t with
    | sc u => cases u with
      | string a => cases y with
        | tr t' => cases t' with
          | sc u' => cases u' with
            | string b =>
              rw [opBin_str]
              show boolR (Bool.rec (motive := fun _ => Bool) (beqL a.data.toList b.data.toList) (!beqL a.data.toList b.data.toList) true) = _
              rw [boolR_eq, normB_eq, beqL_eq]
              rfl
            | _ => rfl
          | _ => rfl
        | _ => rfl
      | _ => rfl
    | _ => rfl
  | _ => rfl
def addB (ek : EK) : V → V → Option V := intKF addF (opBin ek .add)
def subB (ek : EK) : V → V → Option V := intKF subF (opBin ek .sub)
def lssB (ek : EK) : V → V → Option V := intKF (fun a b _ => boolR (ltR a b)) (opBin ek .lss)
def gtrB (ek : EK) : V → V → Option V := intKF (fun a b _ => boolR (ltR b a)) (opBin ek .gtr)
def leqB (ek : EK) : V → V → Option V := intKF (fun a b _ => boolR (!ltR b a)) (opBin ek .leq)
def geqB (ek : EK) : V → V → Option V := intKF (fun a b _ => boolR (!ltR a b)) (opBin ek .geq)
def eqlB (ek : EK) : V → V → Option V := intKF (fun a b _ => boolR (eqI a b)) (strF false (opBin ek .eql))
def neqB (ek : EK) : V → V → Option V := intKF (fun a b _ => boolR (!eqI a b)) (strF true (opBin ek .neq))
def binH (ek : EK) : BinOp → V → V → Option V
  | .add => addB ek
  | .sub => subB ek
  | .lss => lssB ek
  | .gtr => gtrB ek
  | .leq => leqB ek
  | .geq => geqB ek
  | .eql => eqlB ek
  | .neq => neqB ek
  | op => binOther ek op
theorem binH_eq (ek : EK) (op : BinOp) (x y : V) : binH ek op x y = opBin ek op x y := by
  rw [← binG_eq]
  cases op
  case add => exact intKF_eq addF_eq _ _ _
  case sub => exact intKF_eq subF_eq _ _ _
  case lss => exact intKF_eq (fun k a b => by rw [boolR_eq, ltR_eq]) _ _ _
  case gtr => exact intKF_eq (fun k a b => by rw [boolR_eq, ltR_eq]) _ _ _
  case leq => exact intKF_eq (fun k a b => by rw [boolR_eq, ltR_eq]) _ _ _
  case geq => exact intKF_eq (fun k a b => by rw [boolR_eq, ltR_eq]) _ _ _
  case eql =>
    show intKF (fun a b _ => boolR (eqI a b)) (strF false (opBin ek .eql)) x y = binEql ek x y
    rw [show strF false (opBin ek .eql) = opBin ek .eql from funext fun x => funext fun y => strF_eql ek x y]
    exact intKF_eq (fun k a b => rfl) _ _ _
  case neq =>
    show intKF (fun a b _ => boolR (!eqI a b)) (strF true (opBin ek .neq)) x y = binNeq ek x y
    rw [show strF true (opBin ek .neq) = opBin ek .neq from funext fun x => funext fun y => strF_neq ek x y]
    exact intKF_eq (fun k a b => rfl) _ _ _
  all_goals rfl

/-- Entries of maps. -/
def findS (a : List UInt8) (es : List Ent) : Nat → Option (Option (Nat × Ent)) := List.rec (motive := fun _ => Nat → Option (Option (Nat × Ent))) (fun _ => some none)
  (fun e _ ih i => match e.key with
    | .string b => Bool.rec (motive := fun _ => Option (Option (Nat × Ent))) (ih (Nat.succ i)) (some (some (i, e))) (beqL a b.data.toList)
    | _ => none) es
def findF (k : Value) (es : List Ent) (i : Nat) : Option (Option (Nat × Ent)) := match k with
  | .string a => findS a.data.toList es i
  | k => findEnt k es i
theorem findS_eq (a : ByteArray) : ∀ (es : List Ent) (i : Nat), findS a.data.toList es i = findEnt (.string a) es i
  | [], i => rfl
  | e :: es, i => by
    have ih := findS_eq a es (i + 1)
    show (match e.key with
      | .string b => Bool.rec (motive := fun _ => Option (Option (Nat × Ent))) (findS a.data.toList es (i + 1)) (some (some (i, e))) (beqL a.data.toList b.data.toList)
      | _ => none) = _
    rw [ih]
    have hf : findEnt (.string a) (e :: es) i = match keyEq (.string a) e.key with
      | some true => some (some (i, e))
      | some false => findEnt (.string a) es (i + 1)
      | none => none := rfl
    rw [hf]
    cases hk : e.key with
    | string b =>
      rw [show keyEq (.string a) (.string b) = some (bytesEq a.data.toList b.data.toList) from rfl]
      simp only [beqL_eq]
      cases bytesEq a.data.toList b.data.toList <;> rfl
    | _ => rfl
theorem findF_eq (k : Value) (es : List Ent) (i : Nat) : findF k es i = findEnt k es i := by
  unfold findF
  split
  · exact findS_eq _ _ _
  · rfl

def lookupF (kind : TypeDesc) (zero : Tree) (ok : Bool) (m k : V) (s : FS) : Option V := match asKey kind k, m with
  | some _, .tr (.sc (.map none)) => some (okTup ok (.tr zero) false)
  | some k, .mp id => match s.getO id with
    | some (.map es _) => match findF k es 0 with
      | some (some (_, e)) => some (okTup ok e.val true)
      | some none => some (okTup ok (.tr zero) false)
      | none => none
    | _ => none
  | _, _ => none
theorem lookupF_eq (kind : TypeDesc) (zero : Tree) (ok : Bool) (m k : V) (s : FS) : lookupF kind zero ok m k s = lookupG kind zero ok m k s := by
  unfold lookupF lookupG
  simp only [findF_eq]
  try rfl
def mupdF (kind : TypeDesc) (m k v : V) (s : FS) : Option FS := match asKey kind k, m with
  | some k, .mp id => match s.getO id with
    | some (.map es clock) => match findF k es 0 with
      | some (some (i, e)) => s.setK id (.map (es.set i { e with key := k, val := v }) clock) some
      | some none => s.setK id (.map (es ++ [{ key := k, val := v, born := clock }]) (clock + 1)) some
      | none => none
    | _ => none
  | _, _ => none
theorem mupdF_eq (kind : TypeDesc) (m k v : V) (s : FS) : mupdF kind m k v s = mupdG kind m k v s := by
  unfold mupdF mupdG
  simp only [findF_eq]
  try rfl
def mentF (kind : TypeDesc) (zero : Tree) (m k : V) (s : FS) : Option (V × FS) := match asKey kind k, m with
  | some k, .mp id => match s.getO id with
    | some (.map es clock) => match findF k es 0 with
      | some (some (i, e)) => s.setK id (.map (es.set i { e with key := k }) clock) fun s => some (mkTup [e.val, int .i64 e.born], s)
      | some none => s.setK id (.map (es ++ [{ key := k, val := .tr zero, born := clock }]) (clock + 1)) fun s => some (mkTup [.tr zero, int .i64 clock], s)
      | none => none
    | _ => none
  | _, _ => none
theorem mentF_eq (kind : TypeDesc) (zero : Tree) (m k : V) (s : FS) : mentF kind zero m k s = mentG kind zero m k s := by
  unfold mentF mentG
  simp only [findF_eq]
  try rfl

def qappendG (size bytes : Nat) (v x : V) (s : FS) (k : V → FS → R) : R := match v with
  | .tr t => appendG size bytes (.tr t) x s k
  | _ => none
def sameG (x : V) (s : FS) : Option V := match x with
  | .own id g off len sz cap => match s.getO id with
    | some (.row _ g') => if g = g' ∧ 0 < len ∧ sz = 1 then some (.own id g off len sz cap) else none
    | _ => none
  | _ => none
theorem sameG_some {s : FS} {σ : Store} (hs : SRel s σ) {x v : V} (h : sameG x s = some v) : opConv .same x σ = some (v, σ) := by
  have : opSame x σ = some v := by
    unfold sameG at h
    unfold opSame
    simp only [hs.2.2] at h
    exact h
  simp only [opConv, this]
/-- Copies and clearings. -/
def copyG (size : Nat) (d x : V) (s : FS) (k : V → FS → R) : R := optR (elemsG s size x) fun p => match d with
  | .tr (.sc (.slice none 0 0)) => k (int .i64 0) s
  | .own id g off len sz _ => bif2 (Nat.beq sz size) (Nat.rec (motive := fun _ => R) (k (int .i64 0) s) (fun _ _ => optR (putG s id g off (p.1.take (Nat.min p.2 len * size))) fun s => k (int .i64 (Nat.min p.2 len : Nat)) s) (Nat.min p.2 len)) none
  | .tr (.row _ len _) => Nat.rec (motive := fun _ => R) (k (int .i64 0) s) (fun _ _ => none) (Nat.min p.2 len)
  | _ => none
theorem copyG_some {s : FS} {σ : Store} (hs : SRel s σ) {size : Nat} {d x : V} {k : V → FS → R} {r : V × FS} (h : copyG size d x s k = some r) : ∃ v s' σ', opCopy size d x σ = some (v, σ') ∧ SRel s' σ' ∧ k v s' = some r := by
  unfold copyG at h
  obtain ⟨⟨xs, n⟩, h1, h2⟩ := optR_some h
  unfold opCopy
  rw [elemsG_some hs h1]
  simp only at h2 ⊢
  split at h2
  · exact ⟨_, s, σ, rfl, hs, h2⟩
  · rename_i id g off len sz cap
    obtain ⟨h3, h4⟩ := bif2_some h2
    simp only [Nat.eq_of_beq_eq_true h3, ne_eq, not_true_eq_false, if_false]
    cases hm : Nat.min n len with
    | zero =>
      rw [hm] at h4
      exact ⟨_, s, σ, by simp, hs, h4⟩
    | succ m =>
      rw [hm] at h4
      obtain ⟨s', h5, h6⟩ := optR_some h4
      obtain ⟨σ', h7, h8⟩ := putG_some hs h5
      exact ⟨_, s', σ', by simp [h7], h8, h6⟩
  · rename_i len cap
    cases hm : Nat.min n len with
    | zero =>
      rw [hm] at h2
      exact ⟨_, s, σ, by simp only [hm, if_true], hs, h2⟩
    | succ m =>
      rw [hm] at h2
      cases h2
  · cases h2
def clearG (zero : List Tree) (x : V) (s : FS) (k : V → FS → R) : R := match x with
  | .tr (.sc (.slice none 0 0)) => k (.tr (.tup [])) s
  | .tr (.row _ 0 _) => k (.tr (.tup [])) s
  | .own _ _ _ 0 _ _ => k (.tr (.tup [])) s
  | .own id g off len sz _ => bif2 (Nat.beq sz zero.length) (optR (putG s id g off ((rep len zero).map .tr)) fun s => k (.tr (.tup [])) s) none
  | _ => none
theorem clearG_some {s : FS} {σ : Store} (hs : SRel s σ) {zero : List Tree} {x : V} {k : V → FS → R} {r : V × FS} (h : clearG zero x s k = some r) : ∃ v s' σ', opClear zero x σ = some (v, σ') ∧ SRel s' σ' ∧ k v s' = some r := by
  unfold clearG at h
  unfold opClear
  split at h
  · exact ⟨_, s, σ, rfl, hs, h⟩
  · exact ⟨_, s, σ, rfl, hs, h⟩
  · exact ⟨_, s, σ, rfl, hs, h⟩
  · rename_i id g off len sz cap hno
    obtain ⟨h3, h4⟩ := bif2_some h
    obtain ⟨s', h5, h6⟩ := optR_some h4
    obtain ⟨σ', h7, h8⟩ := putG_some hs h5
    simp only [Nat.eq_of_beq_eq_true h3, ne_eq, not_true_eq_false, if_false, h7]
    exact ⟨_, s', σ', rfl, h8, h6⟩
  · cases h
end
end Go.Proofs.Ytmgjhnengikbhaa.AM
end
section
set_option linter.unusedSimpArgs false
set_option linter.unusedVariables false
/- Code in continuation form, and that it says what the code says: operands and operations. -/
set_option linter.unusedVariables false
set_option linter.unusedSimpArgs false
namespace Go.Proofs.Ytmgjhnengikbhaa.AM

noncomputable section
def gO (D : Nat) (names : List Nat) : HO → GO
  | .val v => oV v
  | .loc k => match ix k names with | some i => oLoc i | none => oBad
  | .env k => match Nat.blt k (2 ^ D) with | true => oE (eP (bits D k)) | false => oBad
def gOs (D : Nat) (names : List Nat) : List HO → GOs
  | [] => aN
  | x :: r => aC (gO D names x) (gOs D names r)
def gPs (D : Nat) (names : List Nat) : List (Nat × Nat × HO) → GPs
  | [] => bN
  | (o, n, x) :: r => bC o n (gO D names x) (gPs D names r)
def gMo (D : Nat) (names : List Nat) : Option HO → GMo
  | none => mN
  | some x => mS (gO D names x)
def convG (c : Conv) (x : V) : Option V := match opConv c x [] with | some (v, _) => some v | none => none
/-- A kind of operation. -/
def gK (D : Nat) (names : List Nat) : HK → GK
  | .mv x => kMv (gO D names x)
  | .pick c a b => kPickF (gO D names c) (gO D names a) (gO D names b)
  | .alloc z => kW0 (allocG (z.map .tr))
  | .box x => kW1 (fun v => allocG (cellsOf v)) (gO D names x)
  | .build z ps => kBuild z (gPs D names ps)
  | .bslice own len size z ps => kBslice own len size z (gPs D names ps)
  | .load size agg a => match size, agg with | 1, false => kR1 ldF1 (gO D names a) | size, agg => kR1 (ldG size agg) (gO D names a)
  | .store size a x => match size with | 1 => kS2 stA (gO D names a) (gO D names x) | size => kS2 (stG size) (gO D names a) (gO D names x)
  | .nilchk x => kP1 opNilCheck (gO D names x)
  | .bin ek op x y => kP2 (binH ek op) (gO D names x) (gO D names y)
  | .eqs neg offs x y => kP2 (opEqs neg offs) (gO D names x) (gO D names y)
  | .un op x => kP1 (opUn op) (gO D names x)
  | .conv c x => match c with
    | .bytesStr => kR1 bytesStrG (gO D names x)
    | .same => kR1 sameG (gO D names x)
    | .strBytes => kW1 strBytesG (gO D names x)
    | c => kP1 (convG c) (gO D names x)
  | .mkfn fn a b => kMkfn fn (gOs D names a) (gOs D names b)
  | .mkmap => kW0 mkmapG
  | .mkslice z bytes l c => kW2 (mksliceG z bytes) (gO D names l) (gO D names c)
  | .faddr off x => kP1 (opFaddr off) (gO D names x)
  | .field off size agg x => kP1 (opField off size agg) (gO D names x)
  | .iaddr size x i => kR2 (iaddrF size) (gO D names x) (gO D names i)
  | .istr x i => kP2 opIndexStr (gO D names x) (gO D names i)
  | .lookup kind z ok m k => kR2 (lookupF kind z ok) (gO D names m) (gO D names k)
  | .mupd kind m k v => kS3 (mupdF kind) (gO D names m) (gO D names k) (gO D names v)
  | .ment kind z m k => kT2 (mentF kind z) (gO D names m) (gO D names k)
  | .esto m c v => kS3 estoG (gO D names m) (gO D names c) (gO D names v)
  | .delete kind m k => kW2 (fun m k => viaG (opDelete kind m k)) (gO D names m) (gO D names k)
  | .extract x i => kP1 (fun v => opExtract v i) (gO D names x)
  | .mkiface t x => kMkiface t (gO D names x)
  | .callf f args => kCallf f (gOs D names args)
  | .callv f args => kCallv (gO D names f) (gOs D names args)
  | .len k x => match k with | 0 => kP1 opLenStr (gO D names x) | 1 => kP1 opLenSl (gO D names x) | _ => kR1 lenMapG (gO D names x)
  | .cap x => kR1 capG (gO D names x)
  | .append size bytes s x => kW2 (appendG size bytes) (gO D names s) (gO D names x)
  | .qappend size bytes s x => kW2 (qappendG size bytes) (gO D names s) (gO D names x)
  | .copy size d x => kW2 (copyG size) (gO D names d) (gO D names x)
  | .clear z x => kW1 (clearG z) (gO D names x)
  | .minmax mx x l => kMinmax mx (gO D names x) (gOs D names l)
  | .slicestr x lo hi => kSlicestr (gO D names x) (gMo D names lo) (gMo D names hi)
  | .slice size x lo hi mx => kSlice size (gO D names x) (gMo D names lo) (gMo D names hi) (gMo D names mx)
  | .bad => kBadK

def gW (D : Nat) (o : HOp) : GK → GOp := match o.dst with
  | none => pN
  | some d => match o.inK with
    | false => pL
    | true => match Nat.blt d (2 ^ D) with | true => pE (sP (bits D d)) | false => fun _ => opBad
def gN (names : List Nat) (o : HOp) : List Nat := match o.dst with
  | none => names
  | some d => match o.inK with | false => d :: names | true => names
def gOp (D : Nat) (names : List Nat) (o : HOp) (g : GK) : GOp := match o.guard with
  | none => gW D o g
  | some (x, want) => gGF (gO D names x) want (gW D o g) (gW D o kUndef)
end

/-- A call in the tree says what calls in the list say. -/
def CallEx (c : GCall) (cas : Nat → CallA) : Prop := ∀ f vs s v s' σ, c f vs s = some (v, s') → SRel s σ → ∃ m σ', cas m f vs σ = some (v, σ') ∧ SRel s' σ'

section
variable {D : Nat} {names : List Nat} {e : ET} {l : List V} {st : St}

theorem gO_some (he : ERel D e st.env) (hl : LRel names l st.loc) {x : HO} {k : V → R} {r : V × FS} (h : gO D names x k e l = some r) : ∃ v, st.get x = some v ∧ k v = some r := by
  cases x with
  | val v => exact ⟨v, rfl, h⟩
  | loc j =>
    cases hi : ix j names with
    | some i =>
      simp only [gO, hi] at h
      obtain ⟨v, h1, h2⟩ := oLoc_some h
      obtain ⟨u, h3, h4⟩ := hl j i hi
      rw [h1] at h3
      cases h3
      exact ⟨v, h4, h2⟩
    | none =>
      simp only [gO, hi] at h
      cases h
  | env j =>
    cases hb : Nat.blt j (2 ^ D) with
    | true =>
      simp only [gO, hb] at h
      obtain ⟨v, h1, h2⟩ := eP_some (k := k) (e := e) h
      rw [he j (by simpa only [Nat.blt_eq] using hb)] at h1
      exact ⟨v, h1, h2⟩
    | false =>
      simp only [gO, hb] at h
      cases h
theorem gOs_some (he : ERel D e st.env) (hl : LRel names l st.loc) : ∀ {xs : List HO} {k : List V → R} {r : V × FS}, gOs D names xs k e l = some r → ∃ vs, st.gets xs = some vs ∧ k vs = some r
  | [], k, r, h => ⟨[], rfl, h⟩
  | x :: xs, k, r, h => by
    obtain ⟨v, h1, h2⟩ := gO_some he hl (x := x) h
    obtain ⟨vs, h3, h4⟩ := gOs_some he hl (xs := xs) h2
    exact ⟨v :: vs, by simp only [St.gets, h1, h3], h4⟩
theorem gPs_some (he : ERel D e st.env) (hl : LRel names l st.loc) : ∀ {xs : List (Nat × Nat × HO)} {k : List (Nat × Nat × V) → R} {r : V × FS}, gPs D names xs k e l = some r → ∃ vs, st.getp xs = some vs ∧ k vs = some r
  | [], k, r, h => ⟨[], rfl, h⟩
  | (o, n, x) :: xs, k, r, h => by
    obtain ⟨v, h1, h2⟩ := gO_some he hl (x := x) h
    obtain ⟨vs, h3, h4⟩ := gPs_some he hl (xs := xs) h2
    exact ⟨(o, n, v) :: vs, by simp only [St.getp, h1, h3], h4⟩
theorem gMo_some (he : ERel D e st.env) (hl : LRel names l st.loc) {x : Option HO} {k : Option V → R} {r : V × FS} (h : gMo D names x k e l = some r) : ∃ v, st.geto x = some v ∧ k v = some r := by
  cases x with
  | none => exact ⟨none, rfl, h⟩
  | some x =>
    obtain ⟨v, h1, h2⟩ := gO_some he hl (x := x) h
    exact ⟨some v, by simp only [St.geto, h1], h2⟩

theorem opConv_st {c : Conv} (x : V) (hc : match c with | .bytesStr => False | .same => False | .strBytes => False | _ => True) (σ : Store) : opConv c x σ = match opConv c x [] with | some (v, _) => some (v, σ) | none => none := by
  cases c with
  | bytesStr => cases hc
  | same => cases hc
  | strBytes => cases hc
  | strStr =>
    cases x with
    | tr t => cases t with
      | sc v => cases v <;> rfl
      | _ => rfl
    | _ => rfl
  | toInt k =>
    cases x with
    | tr t => cases t with
      | sc v => cases v with
        | float f b =>
          simp only [opConv]
          split
          · split <;> rfl
          · rfl
        | _ => rfl
      | _ => rfl
    | _ => rfl
  | toFloat k =>
    cases x with
    | tr t => cases t with
      | sc v => cases v with
        | float f b =>
          simp only [opConv]
          split
          · rfl
          · split
            · rfl
            · rfl
            · split <;> rfl
        | _ => rfl
      | _ => rfl
    | _ => rfl
theorem convG_some {c : Conv} {x v : V} (hc : match c with | .bytesStr => False | .same => False | .strBytes => False | _ => True) (h : convG c x = some v) (σ : Store) : opConv c x σ = some (v, σ) := by
  unfold convG at h
  rw [opConv_st x hc σ]
  split at h
  · cases h
    rfl
  · cases h

variable {s : FS} {c : GCall} {cas : Nat → CallA}

theorem gK_some (he : ERel D e st.env) (hl : LRel names l st.loc) (hs : SRel s st.σ) (hc : CallEx c cas) {hk : HK} {k : V → FS → R} {r : V × FS} (h : gK D names hk c k e l s = some r) :
    ∃ m v s' σ', opA (cas m) hk st = some (v, σ') ∧ SRel s' σ' ∧ k v s' = some r := by
  cases hk with
  | mv x =>
    obtain ⟨v, h1, h2⟩ := gO_some he hl (x := x) h
    exact ⟨0, v, s, _, by simp only [opA, o_mv, h1, pure1], hs, h2⟩
  | pick x a b =>
    simp only [gK, kPickF_eq] at h
    obtain ⟨v, h1, h2⟩ := gO_some he hl (x := x) h
    simp only [opA, o_pick, h1, bind1]
    split at h2
    · rename_i u
      cases u with
      | true =>
        obtain ⟨v, h3, h4⟩ := gO_some he hl (x := a) h2
        exact ⟨0, v, s, _, by simp only [asBool?, h3, pure1], hs, h4⟩
      | false =>
        obtain ⟨v, h3, h4⟩ := gO_some he hl (x := b) h2
        exact ⟨0, v, s, _, by simp only [asBool?, h3, pure1], hs, h4⟩
    · cases h2
  | alloc z =>
    obtain ⟨s', h1, h2⟩ := allocG_some hs h
    exact ⟨0, _, s', _, rfl, h1, h2⟩
  | box x =>
    obtain ⟨v, h1, h2⟩ := gO_some he hl (x := x) h
    obtain ⟨s', h3, h4⟩ := allocG_some hs h2
    exact ⟨0, _, s', _, by simp only [opA, o_box, h1, bind1, opBox], h3, h4⟩
  | build z ps =>
    obtain ⟨vs, h1, h2⟩ := gPs_some he hl h
    obtain ⟨v, h3, h4⟩ := optR_some h2
    exact ⟨0, v, s, _, by simp only [opA, o_build, h1, h3, pure1], hs, h4⟩
  | bslice own len size z ps =>
    obtain ⟨vs, h1, h2⟩ := gPs_some he hl h
    obtain ⟨v, s', σ', h3, h4, h5⟩ := bsliceG_some hs h2
    exact ⟨0, v, s', σ', by simp only [opA, o_bslice, h1, h3], h4, h5⟩
  | load size agg a =>
    have key : ∀ {f : V → FS → Option V}, (∀ a v, f a s = some v → opLoad size agg a st.σ = some v) → kR1 f (gO D names a) c k e l s = some r → ∃ m v s' σ', opA (cas m) (.load size agg a) st = some (v, σ') ∧ SRel s' σ' ∧ k v s' = some r := by
      intro f hf h
      obtain ⟨v, h1, h2⟩ := gO_some he hl (x := a) h
      obtain ⟨u, h3, h4⟩ := optR_some h2
      exact ⟨0, u, s, _, by simp only [opA, o_load, h1, bind1, hf _ _ h3, pure1], hs, h4⟩
    simp only [gK] at h
    split at h
    · exact key (fun a v h => ldG1_some hs (by rwa [ldF1_eq] at h)) h
    · exact key (fun a v h => ldG_some hs h) h
  | store size a x =>
    have key : ∀ {f : V → V → FS → (FS → R) → R}, (∀ a x k r, f a x s k = some r → ∃ s' σ', opStore size a x st.σ = some σ' ∧ SRel s' σ' ∧ k s' = some r) → kS2 f (gO D names a) (gO D names x) c k e l s = some r → ∃ m v s' σ', opA (cas m) (.store size a x) st = some (v, σ') ∧ SRel s' σ' ∧ k v s' = some r := by
      intro f hf h
      obtain ⟨v, h1, h2⟩ := gO_some he hl (x := a) h
      obtain ⟨u, h3, h4⟩ := gO_some he hl (x := x) h2
      obtain ⟨s', σ', h5, h6, h7⟩ := hf _ _ _ _ h4
      exact ⟨0, _, s', _, by simp only [opA, o_store, h1, h3, bind1, h5, skip1], h6, h7⟩
    simp only [gK] at h
    split at h
    · exact key (fun a x k r h => stA_some hs h) h
    · exact key (fun a x k r h => stG_some hs h) h
  | nilchk x =>
    obtain ⟨v, h1, h2⟩ := gO_some he hl (x := x) h
    obtain ⟨u, h3, h4⟩ := optR_some h2
    exact ⟨0, u, s, _, by simp only [opA, o_nilchk, h1, bind1, h3, pure1], hs, h4⟩
  | bin ek op x y =>
    obtain ⟨v, h1, h2⟩ := gO_some he hl (x := x) h
    obtain ⟨u, h3, h4⟩ := gO_some he hl (x := y) h2
    obtain ⟨w, h5, h6⟩ := optR_some h4
    rw [binH_eq] at h5
    exact ⟨0, w, s, _, by simp only [opA, o_bin, h1, h3, bind1, h5, pure1], hs, h6⟩
  | eqs neg offs x y =>
    obtain ⟨v, h1, h2⟩ := gO_some he hl (x := x) h
    obtain ⟨u, h3, h4⟩ := gO_some he hl (x := y) h2
    obtain ⟨w, h5, h6⟩ := optR_some h4
    exact ⟨0, w, s, _, by simp only [opA, o_eqs, h1, h3, bind1, h5, pure1], hs, h6⟩
  | un op x =>
    obtain ⟨v, h1, h2⟩ := gO_some he hl (x := x) h
    obtain ⟨u, h3, h4⟩ := optR_some h2
    exact ⟨0, u, s, _, by simp only [opA, o_un, h1, bind1, h3, pure1], hs, h4⟩
  | conv cv x =>
    simp only [gK] at h
    split at h
    · obtain ⟨v, h1, h2⟩ := gO_some he hl (x := x) h
      obtain ⟨u, h3, h4⟩ := optR_some h2
      exact ⟨0, u, s, _, by simp only [opA, o_conv, h1, bind1, bytesStrG_some hs h3], hs, h4⟩
    · obtain ⟨v, h1, h2⟩ := gO_some he hl (x := x) h
      obtain ⟨u, h3, h4⟩ := optR_some h2
      exact ⟨0, u, s, _, by simp only [opA, o_conv, h1, bind1, sameG_some hs h3], hs, h4⟩
    · obtain ⟨v, h1, h2⟩ := gO_some he hl (x := x) h
      obtain ⟨u, s', σ', h3, h4, h5⟩ := strBytesG_some hs h2
      exact ⟨0, u, s', _, by simp only [opA, o_conv, h1, bind1, h3], h4, h5⟩
    · rename_i h1 h1' h2
      obtain ⟨v, h3, h4⟩ := gO_some he hl (x := x) h
      obtain ⟨u, h5, h6⟩ := optR_some h4
      refine ⟨0, u, s, _, ?_, hs, h6⟩
      simp only [opA, o_conv, h3, bind1]
      refine convG_some ?_ h5 _
      cases cv <;> first | trivial | (exact h1 rfl) | (exact h1' rfl) | (exact h2 rfl)
  | mkfn fn a b =>
    obtain ⟨va, h1, h2⟩ := gOs_some he hl (xs := a) h
    obtain ⟨vb, h3, h4⟩ := gOs_some he hl (xs := b) h2
    simp only [opA, o_mkfn, h1, h3]
    split at h4
    · rename_i ta tb h5 h6
      exact ⟨0, _, s, _, by simp only [h5, h6], hs, h4⟩
    · rename_i hno
      refine ⟨0, _, s, _, ?_, hs, h4⟩
      split
      · rename_i ta tb h5 h6
        exact absurd h6 (hno _ _ h5)
      · rfl
  | mkmap =>
    obtain ⟨s', h1, h2⟩ := mkmapG_some hs h
    exact ⟨0, _, s', _, rfl, h1, h2⟩
  | mkslice z bytes x y =>
    obtain ⟨v, h1, h2⟩ := gO_some he hl (x := x) h
    obtain ⟨u, h3, h4⟩ := gO_some he hl (x := y) h2
    obtain ⟨w, s', σ', h5, h6, h7⟩ := mksliceG_some hs h4
    exact ⟨0, w, s', σ', by simp only [opA, o_mkslice, h1, h3, bind1, h5], h6, h7⟩
  | faddr off x =>
    obtain ⟨v, h1, h2⟩ := gO_some he hl (x := x) h
    obtain ⟨u, h3, h4⟩ := optR_some h2
    exact ⟨0, u, s, _, by simp only [opA, o_faddr, h1, bind1, h3, pure1], hs, h4⟩
  | field off size agg x =>
    obtain ⟨v, h1, h2⟩ := gO_some he hl (x := x) h
    obtain ⟨u, h3, h4⟩ := optR_some h2
    exact ⟨0, u, s, _, by simp only [opA, o_field, h1, bind1, h3, pure1], hs, h4⟩
  | iaddr size x y =>
    obtain ⟨v, h1, h2⟩ := gO_some he hl (x := x) h
    obtain ⟨u, h3, h4⟩ := gO_some he hl (x := y) h2
    obtain ⟨w, h5, h6⟩ := optR_some h4
    rw [iaddrF_eq] at h5
    exact ⟨0, w, s, _, by simp only [opA, o_iaddr, h1, h3, bind1, iaddrG_some hs h5, pure1], hs, h6⟩
  | istr x y =>
    obtain ⟨v, h1, h2⟩ := gO_some he hl (x := x) h
    obtain ⟨u, h3, h4⟩ := gO_some he hl (x := y) h2
    obtain ⟨w, h5, h6⟩ := optR_some h4
    exact ⟨0, w, s, _, by simp only [opA, o_istr, h1, h3, bind1, h5, pure1], hs, h6⟩
  | lookup kind z ok x y =>
    obtain ⟨v, h1, h2⟩ := gO_some he hl (x := x) h
    obtain ⟨u, h3, h4⟩ := gO_some he hl (x := y) h2
    obtain ⟨w, h5, h6⟩ := optR_some h4
    rw [lookupF_eq, lookupG_eq hs] at h5
    exact ⟨0, w, s, _, by simp only [opA, o_lookup, h1, h3, bind1, h5, pure1], hs, h6⟩
  | mupd kind x y z =>
    obtain ⟨v, h1, h2⟩ := gO_some he hl (x := x) h
    obtain ⟨u, h3, h4⟩ := gO_some he hl (x := y) h2
    obtain ⟨w, h5, h6⟩ := gO_some he hl (x := z) h4
    obtain ⟨s', h7, h8⟩ := optR_some h6
    rw [mupdF_eq] at h7
    obtain ⟨σ', h9, h10⟩ := mupdG_some hs h7
    exact ⟨0, _, s', _, by simp only [opA, o_mupd, h1, h3, h5, bind1, h9, skip1], h10, h8⟩
  | ment kind z x y =>
    obtain ⟨v, h1, h2⟩ := gO_some he hl (x := x) h
    obtain ⟨u, h3, h4⟩ := gO_some he hl (x := y) h2
    obtain ⟨p, h5, h6⟩ := optR_some h4
    rw [mentF_eq] at h5
    obtain ⟨σ', h7, h8⟩ := mentG_some hs h5
    exact ⟨0, _, _, _, by simp only [opA, o_ment, h1, h3, bind1, h7], h8, h6⟩
  | esto x y z =>
    obtain ⟨v, h1, h2⟩ := gO_some he hl (x := x) h
    obtain ⟨u, h3, h4⟩ := gO_some he hl (x := y) h2
    obtain ⟨w, h5, h6⟩ := gO_some he hl (x := z) h4
    obtain ⟨s', h7, h8⟩ := optR_some h6
    obtain ⟨σ', h9, h10⟩ := estoG_some hs h7
    exact ⟨0, _, s', _, by simp only [opA, o_esto, h1, h3, h5, bind1, h9, skip1], h10, h8⟩
  | delete kind x y =>
    obtain ⟨v, h1, h2⟩ := gO_some he hl (x := x) h
    obtain ⟨u, h3, h4⟩ := gO_some he hl (x := y) h2
    obtain ⟨w, s', σ', h5, h6, h7⟩ := viaG_some hs h4
    exact ⟨0, w, s', σ', by simp only [opA, o_delete, h1, h3, bind1, h5], h6, h7⟩
  | extract x i =>
    obtain ⟨v, h1, h2⟩ := gO_some he hl (x := x) h
    obtain ⟨u, h3, h4⟩ := optR_some h2
    exact ⟨0, u, s, _, by simp only [opA, o_extract, h1, bind1, h3, pure1], hs, h4⟩
  | mkiface t x =>
    obtain ⟨v, h1, h2⟩ := gO_some he hl (x := x) h
    simp only [opA, o_mkiface, h1, bind1]
    split at h2
    · exact ⟨0, _, s, _, rfl, hs, h2⟩
    · rename_i hno
      refine ⟨0, _, s, _, ?_, hs, h2⟩
      split
      · rename_i t' 
        exact (hno _ rfl).elim
      · rfl
  | callf f args =>
    obtain ⟨vs, h1, h2⟩ := gOs_some he hl (xs := args) h
    obtain ⟨⟨v, s'⟩, h3, h4⟩ := optR_some h2
    obtain ⟨m, σ', h5, h6⟩ := hc _ _ _ _ _ _ h3 hs
    exact ⟨m, v, s', σ', by simp only [opA, o_callf, h1, h5], h6, h4⟩
  | callv f args =>
    obtain ⟨vf, h0, h00⟩ := gO_some he hl (x := f) h
    obtain ⟨vs, h1, h2⟩ := gOs_some he hl (xs := args) h00
    obtain ⟨⟨v, s'⟩, h3, h4⟩ := optR_some h2
    unfold callVG at h3
    simp only [opA, o_callv, h0, h1, bind1, callV]
    split at h3
    · obtain ⟨m, σ', h5, h6⟩ := hc _ _ _ _ _ _ h3 hs
      exact ⟨m, v, s', σ', h5, h6, h4⟩
    · obtain ⟨m, σ', h5, h6⟩ := hc _ _ _ _ _ _ h3 hs
      exact ⟨m, v, s', σ', h5, h6, h4⟩
    · cases h3
  | len j x =>
    have key : ∀ {f : V → FS → Option V}, (∀ a v, f a s = some v → opLen j a st.σ = some v) → kR1 f (gO D names x) c k e l s = some r → ∃ m v s' σ', opA (cas m) (.len j x) st = some (v, σ') ∧ SRel s' σ' ∧ k v s' = some r := by
      intro f hf h
      obtain ⟨v, h1, h2⟩ := gO_some he hl (x := x) h
      obtain ⟨u, h3, h4⟩ := optR_some h2
      exact ⟨0, u, s, _, by simp only [opA, o_len, h1, bind1, hf _ _ h3, pure1], hs, h4⟩
    simp only [gK] at h
    split at h
    · exact key (f := fun v _ => opLenStr v) (fun a v h => h) h
    · exact key (f := fun v _ => opLenSl v) (fun a v h => h) h
    · rename_i h0 h1
      refine key (fun a v h => ?_) h
      rw [lenMapG_eq hs] at h
      match j, h0, h1 with
      | 0, h0, _ => exact absurd rfl h0
      | 1, _, h1 => exact absurd rfl h1
      | j + 2, _, _ => exact h
  | cap x =>
    obtain ⟨v, h1, h2⟩ := gO_some he hl (x := x) h
    obtain ⟨u, h3, h4⟩ := optR_some h2
    exact ⟨0, u, s, _, by simp only [opA, o_cap, h1, bind1, capG_some hs h3, pure1], hs, h4⟩
  | append size bytes x y =>
    obtain ⟨v, h1, h2⟩ := gO_some he hl (x := x) h
    obtain ⟨u, h3, h4⟩ := gO_some he hl (x := y) h2
    obtain ⟨w, s', σ', h5, h6, h7⟩ := appendG_some hs h4
    exact ⟨0, w, s', σ', by simp only [opA, o_append, h1, h3, bind1, h5], h6, h7⟩
  | qappend size bytes x y =>
    obtain ⟨v, h1, h2⟩ := gO_some he hl (x := x) h
    obtain ⟨u, h3, h4⟩ := gO_some he hl (x := y) h2
    unfold qappendG at h4
    split at h4
    · obtain ⟨w, s', σ', h5, h6, h7⟩ := appendG_some hs h4
      exact ⟨0, w, s', σ', by simp only [opA, o_qappend, h1, h3, bind1, h5], h6, h7⟩
    · cases h4
  | copy size x y =>
    obtain ⟨v, h1, h2⟩ := gO_some he hl (x := x) h
    obtain ⟨u, h3, h4⟩ := gO_some he hl (x := y) h2
    obtain ⟨w, s', σ', h5, h6, h7⟩ := copyG_some hs h4
    exact ⟨0, w, s', σ', by simp only [opA, o_copy, h1, h3, bind1, h5], h6, h7⟩
  | clear z x =>
    obtain ⟨v, h1, h2⟩ := gO_some he hl (x := x) h
    obtain ⟨w, s', σ', h5, h6, h7⟩ := clearG_some hs h2
    exact ⟨0, w, s', σ', by simp only [opA, o_clear, h1, bind1, h5], h6, h7⟩
  | minmax mx x xs =>
    obtain ⟨v, h1, h2⟩ := gO_some he hl (x := x) h
    obtain ⟨vs, h3, h4⟩ := gOs_some he hl (xs := xs) h2
    obtain ⟨u, h5, h6⟩ := optR_some h4
    exact ⟨0, u, s, _, by simp only [opA, o_minmax, h1, h3, bind1, h5, pure1], hs, h6⟩
  | slicestr x lo hi =>
    obtain ⟨v, h1, h2⟩ := gO_some he hl (x := x) h
    obtain ⟨v1, h3, h4⟩ := gMo_some he hl (x := lo) h2
    obtain ⟨v2, h5, h6⟩ := gMo_some he hl (x := hi) h4
    obtain ⟨u, h7, h8⟩ := optR_some h6
    exact ⟨0, u, s, _, by simp only [opA, o_slicestr, h1, h3, h5, bind1, h7, pure1], hs, h8⟩
  | slice size x lo hi mx =>
    obtain ⟨v, h1, h2⟩ := gO_some he hl (x := x) h
    obtain ⟨v1, h3, h4⟩ := gMo_some he hl (x := lo) h2
    obtain ⟨v2, h5, h6⟩ := gMo_some he hl (x := hi) h4
    obtain ⟨v3, h9, h10⟩ := gMo_some he hl (x := mx) h6
    obtain ⟨u, h7, h8⟩ := optR_some h10
    exact ⟨0, u, s, _, by simp only [opA, o_slice, h1, h3, h5, h9, bind1, sliceG_some hs h7, pure1], hs, h8⟩
  | bad => cases h
end

end Go.Proofs.Ytmgjhnengikbhaa.AM
end
section
set_option linter.unusedSimpArgs false
set_option linter.unusedVariables false
/- Code in continuation form: regions, code, functions, calls. -/
set_option linter.unusedVariables false
set_option linter.unusedSimpArgs false
namespace Go.Proofs.Ytmgjhnengikbhaa.AM

noncomputable section
def gOps (D : Nat) : List Nat → List HOp → GOp × List Nat
  | names, [] => (cz, names)
  | names, o :: r => (cs (gOp D names o (gK D names o.k)) (gOps D (gN names o) r).1, (gOps D (gN names o) r).2)

def hoIn (ns : List Nat) : HO → Bool
  | .val _ => true
  | .loc k => memN k ns
  | .env k => memN k ns
def hosIn (ns : List Nat) : List HO → Bool
  | [] => true
  | x :: r => hoIn ns x && hosIn ns r
def hpsIn (ns : List Nat) : List (Nat × Nat × HO) → Bool
  | [] => true
  | (_, _, x) :: r => hoIn ns x && hpsIn ns r
def hmIn (ns : List Nat) : Option HO → Bool
  | none => true
  | some x => hoIn ns x
def hkIn (ns : List Nat) : HK → Bool
  | .mv x => hoIn ns x
  | .pick c a b => hoIn ns c && hoIn ns a && hoIn ns b
  | .alloc z => true
  | .box x => hoIn ns x
  | .build z ps => hpsIn ns ps
  | .bslice own len size z ps => hpsIn ns ps
  | .load size agg a => hoIn ns a
  | .store size a x => hoIn ns a && hoIn ns x
  | .nilchk x => hoIn ns x
  | .bin ek op x y => hoIn ns x && hoIn ns y
  | .eqs neg offs x y => hoIn ns x && hoIn ns y
  | .un op x => hoIn ns x
  | .conv c x => hoIn ns x
  | .mkfn fn a b => hosIn ns a && hosIn ns b
  | .mkmap => true
  | .mkslice z bytes l c => hoIn ns l && hoIn ns c
  | .faddr off x => hoIn ns x
  | .field off size agg x => hoIn ns x
  | .iaddr size x i => hoIn ns x && hoIn ns i
  | .istr x i => hoIn ns x && hoIn ns i
  | .lookup kind z ok m k => hoIn ns m && hoIn ns k
  | .mupd kind m k v => hoIn ns m && hoIn ns k && hoIn ns v
  | .ment kind z m k => hoIn ns m && hoIn ns k
  | .esto m c v => hoIn ns m && hoIn ns c && hoIn ns v
  | .delete kind m k => hoIn ns m && hoIn ns k
  | .extract x i => hoIn ns x
  | .mkiface t x => hoIn ns x
  | .callf f args => hosIn ns args
  | .callv f args => hoIn ns f && hosIn ns args
  | .len k x => hoIn ns x
  | .cap x => hoIn ns x
  | .append size bytes s x => hoIn ns s && hoIn ns x
  | .qappend size bytes s x => hoIn ns s && hoIn ns x
  | .copy size d x => hoIn ns d && hoIn ns x
  | .clear z x => hoIn ns x
  | .minmax mx x l => hoIn ns x && hosIn ns l
  | .slicestr x lo hi => hoIn ns x && hmIn ns lo && hmIn ns hi
  | .slice size x lo hi mx => hoIn ns x && hmIn ns lo && hmIn ns hi && hmIn ns mx
  | .bad => true
def hgIn (ns : List Nat) : Option (HO × Bool) → Bool
  | none => true
  | some (x, _) => hoIn ns x

/-- In a region whose order is open: readings that must come out the same at later moments. -/
abbrev Chk := Nat × (FS → Bool)
abbrev GOpD := GCall → K → ET → List V → FS → List Chk → R
def pAll (i : Nat) (s : FS) (ps : List Chk) : Bool := List.rec (motive := fun _ => Bool) true (fun p _ ih => Bool.rec (motive := fun _ => Bool) (Bool.rec (motive := fun _ => Bool) false ih (p.2 s)) ih (Nat.blt p.1 i)) ps
def isR (r : R) : Bool := Option.rec (motive := fun _ => Bool) false (fun _ => true) r
def dz (i : Nat) : GOpD := fun _ k e l s ps => Bool.rec (motive := fun _ => R) none (k e l s) (pAll i s ps)
def d2 (i : Nat) (o : GOp) (r : GOpD) : GOpD := fun c k e l s ps => Bool.rec (motive := fun _ => R) none (o c (fun e l s => r c k e l s ps) e l s) (pAll i s ps)
def d1 (o : GOp) (r : GOpD) : GOpD := fun c k e l s ps => o c (fun e l s => r c k e l s ps) e l s
def again (g : GK) (c : GCall) (e : ET) (l : List V) (s s2 : FS) : Bool := isR (g c (fun v _ => g c (fun v2 _ => bif2 (eqV v2 v) (some (undefV, s2)) none) e l s2) e l s)
def d3 (h : Nat) (g : GK) (o : GOp) (r : GOpD) : GOpD := fun c k e l s ps => o c (fun e' l' s' => r c k e' l' s' ((h, again g c e l s) :: ps)) e l s
def dBad : GOpD := fun _ _ _ _ _ _ => none
def gOpD (D : Nat) (names : List Nat) (i c : Nat) (ns : List Nat) (o : HOp) (r : GOpD) : GOpD :=
  match hkIn ns o.k && hgIn ns o.guard with
  | false => dBad
  | true => match c with
    | 0 => d1 (gOp D names o (gK D names o.k)) r
    | 1 => d1 (gOp D names o (kQuiet (gK D names o.k))) r
    | 2 => d2 i (gOp D names o (gK D names o.k)) r
    | h + 3 => match o.guard with
      | none => d3 h (gK D names o.k) (gOp D names o (gK D names o.k)) r
      | some _ => dBad
def gOpsD (D : Nat) : Nat → List Nat → List (Nat × List Nat) → List HOp → GOpD × List Nat
  | i, names, [], [] => (dz i, names)
  | i, names, (c, ns) :: is, o :: os => (gOpD D names i c ns o (gOpsD D (i + 1) (gN names o) is os).1, (gOpsD D (i + 1) (gN names o) is os).2)
  | _, names, _, _ => (dBad, names)
def cRegD (o : GOpD) : GC := fun c _ _ k e _ s => o c k e [] s []

def xit : Nat → GC
  | 0 => xZ
  | i + 1 => xS (xit i)
def gC (D : Nat) : List Nat → List Nat → HCode → GC × List Nat
  | ids, names, .skip => (cSkip, names)
  | ids, names, .region ops dr => match dr with
    | none => (cReg (gOps D [] ops).1, (gOps D [] ops).2)
    | some is => (cRegD (gOpsD D 0 [] is ops).1, (gOpsD D 0 [] is ops).2)
  | ids, names, .seq a b => (cSeq (gC D ids names a).1 (gC D ids (gC D ids names a).2 b).1, (gC D ids (gC D ids names a).2 b).2)
  | ids, names, .cond x a b => (cCondF (gO D names x) (gC D ids names a).1 (gC D ids names b).1, [])
  | ids, names, .block id b => (cBlock (gC D (id :: ids) names b).1, [])
  | ids, names, .loop b => (cLoop (gC D ids [] b).1, [])
  | ids, names, .exit id => (match ix id ids with | some i => xit i | none => cBad, [])
  | ids, names, .ret => (cRet, [])
  | ids, names, .bad => (cBad, [])

abbrev GR := (List V → R) → ET → FS → R
def rN : GR := fun k _ _ => k []
def rT (g : GE) (r : GR) : GR := fun k e s => g (fun v => r (fun vs => k (v :: vs)) e s) e
def rC (g : GE) (size : Nat) (agg : Bool) (r : GR) : GR := fun k e s => g (fun a => optR (ldG size agg a s) fun v => r (fun vs => k (v :: vs)) e s) e
def rBad : GR := fun _ _ _ => none
def gRs (D : Nat) : List HRes → GR
  | [] => rN
  | .tmp x :: r => match Nat.blt x (2 ^ D) with | true => rT (eP (bits D x)) (gRs D r) | false => rBad
  | .cell x size agg :: r => match Nat.blt x (2 ^ D) with | true => rC (eP (bits D x)) size agg (gRs D r) | false => rBad
def fin (r : GR) : K := fun e _ s => r (fun vs => match vs with | [v] => some (v, s) | vs => some (mkTup vs, s)) e s
abbrev GA := (ET → R) → ET → List V → R
def gaN : GA := fun k e vs => List.rec (motive := fun _ => R) (k e) (fun _ _ _ => none) vs
def gaC (w : GS) (r : GA) : GA := fun k e vs => List.rec (motive := fun _ => R) none (fun v t _ => w v (fun e => r k e t) e) vs
def gaBad : GA := fun _ _ _ => none
def gArgs (D : Nat) : Nat → Nat → GA
  | 0, _ => gaN
  | n + 1, i => match Nat.blt i (2 ^ D) with | true => gaC (sP (bits D i)) (gArgs D n (i + 1)) | false => gaBad
abbrev GFn := GCall → List V → FS → R
def fnB (a : GA) (c : GC) (k : K) : GFn := fun call vs s => a (fun e => c call [] k k e [] s) .z0 vs
def gFn (D : Nat) (fn : HFn) : GFn := fnB (gArgs D fn.nargs 0) (gC D [] [] fn.code).1 (fin (gRs D fn.results))
def gExt (n k : Nat) : GFn := fun _ vs s => bif2 (Nat.beq n vs.length) (optR (extV k vs (toL s)) fun v => some (v, s)) none
abbrev TabG := FuncId → Option GFn
def callG (TG : TabG) (n : Nat) : GCall := Nat.rec (motive := fun _ => GCall) (fun _ _ _ => none) (fun _ ih f vs s => optR (TG f) (fun g => g ih vs s)) n
end

def Rel (D : Nat) (names : List Nat) (e : ET) (l : List V) (s : FS) (st : St) : Prop := ERel D e st.env ∧ LRel names l st.loc ∧ SRel s st.σ

section
variable {D : Nat} {names : List Nat} {e : ET} {l : List V} {st : St} {s : FS} {c : GCall} {cas : Nat → CallA}

theorem isB_eq (b w : Bool) : isB b w = (b == w) := by cases b <;> cases w <;> rfl
theorem gW_some (hr : Rel D names e l s st) {o : HOp} {g : GK} {k : K} {r : V × FS} {X : Nat → V → Store → Prop}
    (hg : ∀ (k : V → FS → R) (r : V × FS), g c k e l s = some r → ∃ m v s' σ', X m v σ' ∧ SRel s' σ' ∧ k v s' = some r) (h : gW D o g c k e l s = some r) :
    ∃ e' l' s' st' m v σ', Rel D (gN names o) e' l' s' st' ∧ k e' l' s' = some r ∧ X m v σ' ∧ st' = ({ st with σ := σ' } : St).set o.dst o.inK v := by
  unfold gW at h
  unfold gN
  cases hd : o.dst with
  | none =>
    rw [hd] at h
    obtain ⟨m, v, s', σ', h1, h2, h3⟩ := hg _ _ h
    exact ⟨e, l, s', ⟨st.env, st.loc, σ'⟩, m, v, σ', ⟨hr.1, hr.2.1, h2⟩, h3, h1, rfl⟩
  | some d =>
    rw [hd] at h
    cases hk : o.inK with
    | false =>
      rw [hk] at h
      obtain ⟨m, v, s', σ', h1, h2, h3⟩ := hg _ _ h
      exact ⟨e, v :: l, s', ⟨st.env, (d, v) :: st.loc, σ'⟩, m, v, σ', ⟨hr.1, hr.2.1.push d v, h2⟩, h3, h1, rfl⟩
    | true =>
      rw [hk] at h
      cases hb : Nat.blt d (2 ^ D) with
      | false =>
        simp only [hb] at h
        cases h
      | true =>
        simp only [hb] at h
        obtain ⟨m, v, s', σ', h1, h2, h3⟩ := hg _ _ h
        rw [sP_eq] at h3
        exact ⟨_, l, s', ⟨put st.env d v, st.loc, σ'⟩, m, v, σ', ⟨hr.1.put (by simpa only [Nat.blt_eq] using hb) v, hr.2.1, h2⟩, h3, h1, rfl⟩
theorem gOp_some (hr : Rel D names e l s st) {o : HOp} {g : GK} {k : K} {r : V × FS} {X : Nat → V → Store → Prop}
    (hg : ∀ (k : V → FS → R) (r : V × FS), g c k e l s = some r → ∃ m v s' σ', X m v σ' ∧ SRel s' σ' ∧ k v s' = some r) (h : gOp D names o g c k e l s = some r) :
    ∃ e' l' s' st', Rel D (gN names o) e' l' s' st' ∧ k e' l' s' = some r ∧
      ((guardA st o.guard = some true ∧ ∃ m v σ', X m v σ' ∧ st' = ({ st with σ := σ' } : St).set o.dst o.inK v) ∨ (guardA st o.guard = some false ∧ st' = st.set o.dst o.inK undefV)) := by
  have hu : ∀ {k : K} {r : V × FS}, gW D o kUndef c k e l s = some r → ∃ e' l' s' st', Rel D (gN names o) e' l' s' st' ∧ k e' l' s' = some r ∧ st' = st.set o.dst o.inK undefV := by
    intro k r h
    obtain ⟨e', l', s', st', m, v, σ', h1, h2, ⟨h3, h4⟩, h5⟩ := gW_some (X := fun _ v σ' => v = undefV ∧ σ' = st.σ) hr (fun k r h => ⟨0, undefV, s, st.σ, ⟨rfl, rfl⟩, hr.2.2, h⟩) h
    subst h3
    subst h4
    exact ⟨e', l', s', st', h1, h2, h5⟩
  unfold gOp at h
  cases hgd : o.guard with
  | none =>
    rw [hgd] at h
    obtain ⟨e', l', s', st', m, v, σ', h1, h2, h3, h4⟩ := gW_some hr hg h
    exact ⟨e', l', s', st', h1, h2, .inl ⟨rfl, m, v, σ', h3, h4⟩⟩
  | some p =>
    obtain ⟨x, want⟩ := p
    rw [hgd] at h
    simp only [gGF_eq] at h
    obtain ⟨v, h1, h2⟩ := gO_some hr.1 hr.2.1 (x := x) h
    simp only [guardA, h1]
    split at h2
    · rename_i u
      rw [isB_eq] at h2
      cases hb : (u == want) with
      | true =>
        rw [hb] at h2
        obtain ⟨e', l', s', st', m, v, σ', h1, h2, h3, h4⟩ := gW_some hr hg h2
        exact ⟨e', l', s', st', h1, h2, .inl ⟨by simp only [hb], m, v, σ', h3, h4⟩⟩
      | false =>
        rw [hb] at h2
        obtain ⟨e', l', s', st', h1, h2, h3⟩ := hu h2
        exact ⟨e', l', s', st', h1, h2, .inr ⟨by simp only [hb], h3⟩⟩
    · obtain ⟨e', l', s', st', h1, h2, h3⟩ := hu h2
      exact ⟨e', l', s', st', h1, h2, .inr ⟨rfl, h3⟩⟩
    · cases h2

def MonoC (cas : Nat → CallA) : Prop := ∀ m m', m ≤ m' → CallLe (cas m) (cas m')

theorem gOps_some (hc : CallEx c cas) (hm : MonoC cas) : ∀ {ops : List HOp} {names : List Nat} {e : ET} {l : List V} {s : FS} {st : St} {k : K} {r : V × FS}, Rel D names e l s st → (gOps D names ops).1 c k e l s = some r →
    ∃ m e' l' s' st', opsRun (cas m) ops st = some st' ∧ Rel D (gOps D names ops).2 e' l' s' st' ∧ k e' l' s' = some r
  | [], names, e, l, s, st, k, r, hr, h => ⟨0, e, l, s, st, rfl, hr, h⟩
  | o :: os, names, e, l, s, st, k, r, hr, h => by
    obtain ⟨e1, l1, s1, st1, h1, h2, h3⟩ := gOp_some (X := fun m v σ' => opA (cas m) o.k st = some (v, σ')) hr (fun k r h => gK_some hr.1 hr.2.1 hr.2.2 hc h) h
    obtain ⟨m2, e2, l2, s2, st2, h4, h5, h6⟩ := gOps_some hc hm (ops := os) h1 h2
    rcases h3 with ⟨hg, m, v, σ', h7, h8⟩ | ⟨hg, h8⟩
    · refine ⟨max m m2, e2, l2, s2, st2, ?_, h5, h6⟩
      simp only [opsRun, opStep, hg, opA_le (hm m _ (Nat.le_max_left ..)) h7, ← h8]
      exact opsRun_le (hm m2 _ (Nat.le_max_right ..)) h4
    · refine ⟨m2, e2, l2, s2, st2, ?_, h5, h6⟩
      simp only [opsRun, opStep, hg, ← h8]
      exact h4

theorem look_only {k : Nat} (env : List (Nat × V)) : ∀ {ns : List Nat}, memN k ns = true → look (onlyL env ns) k = look env k
  | [], h => by cases h
  | t :: r, h => by
    simp only [memN, Bool.or_eq_true] at h
    simp only [onlyL]
    cases ht : look env t with
    | some v =>
      simp only [look]
      by_cases hk : Nat.beq k t = true
      · rw [if_pos hk, Nat.eq_of_beq_eq_true hk, ht]
      · rw [if_neg hk]
        rcases h with h | h
        · rw [Nat.eq_of_beq_eq_true h] at hk
          simp at hk
        · exact look_only env h
    | none =>
      simp only
      rcases h with h | h
      · have := Nat.eq_of_beq_eq_true h
        subst this
        by_cases hr : memN t r = true
        · exact look_only env hr
        · rw [ht]
          have : ∀ (r : List Nat), ¬ memN t r = true → look (onlyL env r) t = none := by
            intro r
            induction r with
            | nil => intro _; rfl
            | cons a r ih =>
              intro h
              simp only [memN, Bool.or_eq_true, not_or] at h
              simp only [onlyL]
              cases ha : look env a with
              | some u =>
                simp only [look]
                rw [if_neg (fun hh => h.1 (by rw [Nat.eq_of_beq_eq_true hh]; simp))]
                exact ih h.2
              | none => exact ih h.2
          exact this r hr
      · exact look_only env h
theorem get_only {ns : List Nat} {x : HO} (h : hoIn ns x = true) (st : St) : (st.only ns).get x = st.get x := by
  cases x with
  | val v => rfl
  | loc k => exact look_only _ h
  | env k => exact look_only _ h
theorem gets_only {ns : List Nat} (st : St) : ∀ {xs : List HO}, hosIn ns xs = true → (st.only ns).gets xs = st.gets xs
  | [], _ => rfl
  | x :: xs, h => by
    simp only [hosIn, Bool.and_eq_true] at h
    simp only [St.gets, get_only h.1, gets_only st h.2]
theorem getp_only {ns : List Nat} (st : St) : ∀ {xs : List (Nat × Nat × HO)}, hpsIn ns xs = true → (st.only ns).getp xs = st.getp xs
  | [], _ => rfl
  | (_, _, x) :: xs, h => by
    simp only [hpsIn, Bool.and_eq_true] at h
    simp only [St.getp, get_only h.1, getp_only st h.2]
theorem geto_only {ns : List Nat} (st : St) {x : Option HO} (h : hmIn ns x = true) : (st.only ns).geto x = st.geto x := by
  cases x with
  | none => rfl
  | some x => simp only [St.geto, get_only (show hoIn ns x = true from h)]
theorem only_σ (st : St) (ns : List Nat) : (st.only ns).σ = st.σ := rfl
theorem opA_only {ns : List Nat} {hk : HK} (h : hkIn ns hk = true) (call : CallA) (st : St) : opA call hk (st.only ns) = opA call hk st := by
  cases hk <;> simp only [hkIn, Bool.and_eq_true] at h <;>
    simp only [opA, o_mv, o_pick, o_alloc, o_box, o_build, o_bslice, o_load, o_store, o_nilchk, o_bin, o_eqs, o_un, o_conv, o_mkfn, o_mkmap, o_mkslice, o_faddr, o_field, o_iaddr, o_istr, o_lookup, o_mupd, o_ment, o_esto, o_delete,
      o_extract, o_mkiface, o_callf, o_callv, o_len, o_cap, o_append, o_qappend, o_copy, o_clear, o_minmax, o_slicestr, o_slice, only_σ, get_only, gets_only, getp_only, geto_only, h]
theorem guard_only {ns : List Nat} {g : Option (HO × Bool)} (h : hgIn ns g = true) (st : St) : guardA (st.only ns) g = guardA st g := by
  cases g with
  | none => rfl
  | some p =>
    obtain ⟨x, w⟩ := p
    simp only [guardA, get_only (show hoIn ns x = true from h)]

theorem quietG_ex (hc : CallEx c cas) : CallEx (quietG c) (fun m => quietCall (cas m)) := by
  intro f vs s v s' σ h hs
  unfold quietG at h
  rw [toL_eq hs] at h
  unfold quietCall
  split at h
  · cases h
  · rename_i ts hts
    split at h
    · cases h
    · rename_i u s1 hu
      split at h
      · rename_i t ht
        cases h
        obtain ⟨m, σ1, h3, h4⟩ := hc _ _ _ _ _ _ hu SRel.nil
        rw [toL_eq h4] at ht
        refine ⟨m, σ, ?_, hs⟩
        simp only [hts, h3, ht]
      · rename_i hF
        split at h
        · cases h
        · rename_i t ht
          obtain ⟨h1, h2⟩ := bif2_some h
          cases h2
          obtain ⟨m, σ1, h3, h4⟩ := hc _ _ _ _ _ _ hu SRel.nil
          rw [toL_eq h4] at ht hF
          refine ⟨m, σ, ?_, hs⟩
          simp only [hts, h3, hF, ht, h1, if_true]
theorem freshG_eq {s s' : FS} {σ σ' : Store} (hs : SRel s σ) (hs' : SRel s' σ') : freshG s s' = freshOk σ σ' := by
  unfold freshG freshOk obVs
  rw [hs'.2.2, hs.1]
  split
  · rename_i cs g h
    rw [h]
  · rename_i hno
    split
    · rename_i cs g h
      exact absurd h (hno cs g)
    · rfl

def PRel (cas : Nat → CallA) : List Chk → List Pend → Prop
  | [], [] => True
  | g :: gs, p :: ps => g.1 = p.h ∧ (∀ s σ, SRel s σ → g.2 s = true → ∃ m, pendOk (cas m) σ p = true) ∧ PRel cas gs ps
  | _, _ => False
theorem pAll_some (hm : MonoC cas) {i : Nat} {s : FS} {σ : Store} (hs : SRel s σ) : ∀ {gs : List Chk} {ps : List Pend}, PRel cas gs ps → pAll i s gs = true → ∃ m, pendAll (cas m) i σ ps = true
  | [], [], _, _ => ⟨0, rfl⟩
  | g :: gs, p :: ps, h, e => by
    obtain ⟨h1, h2, h3⟩ := h
    have e : Bool.rec (motive := fun _ => Bool) (Bool.rec (motive := fun _ => Bool) false (pAll i s gs) (g.2 s)) (pAll i s gs) (Nat.blt g.1 i) = true := e
    have key : ∃ m, (Nat.blt p.h i || pendOk (cas m) σ p) = true := by
      cases hb : Nat.blt g.1 i with
      | true => exact ⟨0, by rw [← h1, hb]; rfl⟩
      | false =>
        rw [hb] at e
        cases hg : g.2 s with
        | false => rw [hg] at e; cases e
        | true =>
          obtain ⟨m, hm⟩ := h2 s σ hs hg
          exact ⟨m, by rw [hm, Bool.or_true]⟩
    have hr : pAll i s gs = true := by
      cases hb : Nat.blt g.1 i with
      | true => rw [hb] at e; exact e
      | false =>
        rw [hb] at e
        cases hg : g.2 s with
        | false => rw [hg] at e; cases e
        | true => rw [hg] at e; exact e
    obtain ⟨m1, k1⟩ := key
    obtain ⟨m2, k2⟩ := pAll_some hm hs h3 hr
    refine ⟨max m1 m2, ?_⟩
    have k2' := pendAll_le (hm m2 (max m1 m2) (Nat.le_max_right ..)) k2
    unfold pendAll at k2' ⊢
    rw [List.all_cons, k2', Bool.and_true]
    simp only [Bool.or_eq_true] at k1 ⊢
    rcases k1 with k1 | k1
    · exact .inl k1
    · exact .inr (pendOk_le (hm m1 (max m1 m2) (Nat.le_max_left ..)) k1)
  | [], _ :: _, h, _ => h.elim
  | _ :: _, [], h, _ => h.elim

theorem isR_some {r : R} (h : isR r = true) : ∃ p, r = some p := by
  cases r with
  | none => cases h
  | some p => exact ⟨p, rfl⟩

theorem gOpsD_some (hc : CallEx c cas) (hm : MonoC cas) : ∀ {is : List (Nat × List Nat)} {ops : List HOp} {i : Nat} {names : List Nat} {e : ET} {l : List V} {s : FS} {st : St} {gs : List Chk} {ps : List Pend} {k : K} {r : V × FS},
    Rel D names e l s st → PRel cas gs ps → (gOpsD D i names is ops).1 c k e l s gs = some r →
    ∃ m e' l' s' st', opsRunD (cas m) i ps is ops st = some st' ∧ Rel D (gOpsD D i names is ops).2 e' l' s' st' ∧ k e' l' s' = some r
  | [], [], i, names, e, l, s, st, gs, ps, k, r, hr, hp, h => by
    have h : Bool.rec (motive := fun _ => R) none (k e l s) (pAll i s gs) = some r := h
    cases hb : pAll i s gs with
    | false => rw [hb] at h; cases h
    | true =>
      rw [hb] at h
      obtain ⟨m, k1⟩ := pAll_some hm hr.2.2 hp hb
      exact ⟨m, e, l, s, st, by simp only [opsRunD, k1, if_true], hr, h⟩
  | (n, ns) :: is, o :: os, i, names, e, l, s, st, gs, ps, k, r, hr, hp, h => by
    have h : gOpD D names i n ns o (gOpsD D (i + 1) (gN names o) is os).1 c k e l s gs = some r := h
    unfold gOpD at h
    cases hin : hkIn ns o.k && hgIn ns o.guard with
    | false => rw [hin] at h; cases h
    | true =>
      rw [hin] at h
      simp only [Bool.and_eq_true] at hin
      -- what one operation gives
      have step : ∀ (g : GK) (gs' : List Chk), (∀ (k : V → FS → R) (r : V × FS), g c k e l s = some r →
            ∃ m v s' σ', (opA (if Nat.beq n 1 = true then quietCall (cas m) else cas m) o.k st = some (v, σ') ∧ (Nat.beq n 1 = true → freshOk st.σ σ' = true)) ∧ SRel s' σ' ∧ k v s' = some r) →
          gOp D names o g c (fun e l s => (gOpsD D (i + 1) (gN names o) is os).1 c k e l s gs') e l s = some r → (Nat.beq n 2 = true → ∃ m, pendAll (cas m) i st.σ ps = true) →
          (∀ m st', opStepD (cas m) n ns o st = some st' → PRel cas gs' (pendAdd (cas m) n ns o st ps)) →
          ∃ m e' l' s' st', opsRunD (cas m) i ps ((n, ns) :: is) (o :: os) st = some st' ∧ Rel D (gOpsD D (i + 1) (gN names o) is os).2 e' l' s' st' ∧ k e' l' s' = some r := by
        intro g gs' hg h hpa hpr
        obtain ⟨e1, l1, s1, st1, h1, h2, h3⟩ := gOp_some (X := fun m v σ' => opA (if Nat.beq n 1 = true then quietCall (cas m) else cas m) o.k st = some (v, σ') ∧ (Nat.beq n 1 = true → freshOk st.σ σ' = true)) hr hg h
        have hst : ∃ m, opStepD (cas m) n ns o st = some st1 := by
          rcases h3 with ⟨hgd, m, v, σ', ⟨h7, h9⟩, h8⟩ | ⟨hgd, h8⟩
          · refine ⟨m, ?_⟩
            have h11 : ¬ (Nat.beq n 1 && !freshOk st.σ σ') = true := by
              cases hi : Nat.beq n 1 with
              | true => simp [h9 hi]
              | false => simp
            simp only [opStepD, guard_only hin.2, hgd, opA_only hin.1, h7, if_neg h11, ← h8]
          · exact ⟨0, by simp only [opStepD, guard_only hin.2, hgd, ← h8]⟩
        obtain ⟨m1, hst⟩ := hst
        obtain ⟨m2, e2, l2, s2, st2, h4, h5, h6⟩ := gOpsD_some hc hm (is := is) (ops := os) h1 (hpr m1 st1 hst) h2
        obtain ⟨m0, hpa'⟩ : ∃ m0, Nat.beq n 2 = true → pendAll (cas m0) i st.σ ps = true := by
          cases hb : Nat.beq n 2 with
          | true =>
            obtain ⟨m0, h⟩ := hpa hb
            exact ⟨m0, fun _ => h⟩
          | false => exact ⟨0, fun h => by cases h⟩
        have l0 : m0 ≤ max m0 (max m1 m2) := Nat.le_max_left ..
        have l1' : m1 ≤ max m0 (max m1 m2) := Nat.le_trans (Nat.le_max_left ..) (Nat.le_max_right ..)
        have l2' : m2 ≤ max m0 (max m1 m2) := Nat.le_trans (Nat.le_max_right ..) (Nat.le_max_right ..)
        refine ⟨max m0 (max m1 m2), e2, l2, s2, st2, ?_, h5, h6⟩
        simp only [opsRunD]
        have hno : ¬ (Nat.beq n 2 && !pendAll (cas (max m0 (max m1 m2))) i st.σ ps) = true := by
          intro hh
          simp only [Bool.and_eq_true, Bool.not_eq_true'] at hh
          rw [pendAll_le (hm _ _ l0) (hpa' hh.1)] at hh
          cases hh.2
        rw [if_neg hno, opStepD_le (hm _ _ l1') hst]
        simp only
        rw [pendAdd_le (hm _ _ l1') hst]
        exact opsRunD_le (hm _ _ l2') h4
      match n, h, step with
      | 0, h, step => exact step _ _ (fun k r h => by
          obtain ⟨m, v, s', σ', h1, h2, h3⟩ := gK_some hr.1 hr.2.1 hr.2.2 hc h
          exact ⟨m, v, s', σ', ⟨h1, fun h => by cases h⟩, h2, h3⟩) h (fun h => by cases h) (fun m st' _ => hp)
      | 1, h, step => exact step _ _ (fun k r h => by
          obtain ⟨m, v, s', σ', h1, h2, h3⟩ := gK_some hr.1 hr.2.1 hr.2.2 (quietG_ex hc) (k := fun v s' => bif2 (freshG s s') (k v s') none) h
          obtain ⟨h4, h5⟩ := bif2_some h3
          rw [freshG_eq hr.2.2 h2] at h4
          exact ⟨m, v, s', σ', ⟨h1, fun _ => h4⟩, h2, h5⟩) h (fun h => by cases h) (fun m st' _ => hp)
      | 2, h, step =>
        have h : Bool.rec (motive := fun _ => R) none (gOp D names o (gK D names o.k) c (fun e l s => (gOpsD D (i + 1) (gN names o) is os).1 c k e l s gs) e l s) (pAll i s gs) = some r := h
        cases hb : pAll i s gs with
        | false => rw [hb] at h; cases h
        | true =>
          rw [hb] at h
          exact step _ _ (fun k r h => by
            obtain ⟨m, v, s', σ', h1, h2, h3⟩ := gK_some hr.1 hr.2.1 hr.2.2 hc h
            exact ⟨m, v, s', σ', ⟨h1, fun h => by cases h⟩, h2, h3⟩) h (fun _ => pAll_some hm hr.2.2 hp hb) (fun m st' _ => hp)
      | n + 3, h, step =>
        cases hgd : o.guard with
        | some x => simp only [hgd] at h; cases h
        | none =>
          simp only [hgd] at h
          have hb1 : Nat.beq (n + 3) 1 = false := rfl
          refine step _ _ (fun k r h => by
            obtain ⟨m, v, s', σ', h1, h2, h3⟩ := gK_some hr.1 hr.2.1 hr.2.2 hc h
            exact ⟨m, v, s', σ', ⟨by rw [hb1]; exact h1, fun h => by rw [hb1] at h; cases h⟩, h2, h3⟩) h (fun h => by cases h) (fun m st' hst => ?_)
          have hop : ∃ v σ', opA (cas m) o.k (st.only ns) = some (v, σ') := by
            unfold opStepD at hst
            rw [hgd] at hst
            simp only [guardA, hb1, Bool.false_eq_true, if_false] at hst
            split at hst
            · rename_i v σ' h
              exact ⟨v, σ', h⟩
            · cases hst
          obtain ⟨v, σ', hop⟩ := hop
          have hadd : pendAdd (cas m) (n + 3) ns o st ps = ⟨n, o.k, st.only ns, v⟩ :: ps := by
            simp only [pendAdd, hgd, guardA, hop]
          rw [hadd]
          refine ⟨rfl, fun s2 σ2 hs2 hag => ?_, hp⟩
          obtain ⟨p, hag⟩ := isR_some hag
          obtain ⟨m1, v1, s1, σ1, g1, _, g2⟩ := gK_some hr.1 hr.2.1 hr.2.2 hc hag
          obtain ⟨m2, v2, s3, σ3, g3, _, g4⟩ := gK_some (st := { st with σ := σ2 }) hr.1 hr.2.1 hs2 hc g2
          obtain ⟨g5, _⟩ := bif2_some g4
          have h1 := opA_le (hm m1 (max m m1) (Nat.le_max_right ..)) g1
          have h2 := opA_le (hm m (max m m1) (Nat.le_max_left ..)) hop
          rw [opA_only hin.1] at h2
          rw [h1] at h2
          cases h2
          refine ⟨m2, ?_⟩
          unfold pendOk
          have h3 : opA (cas m2) o.k { (st.only ns) with σ := σ2 } = some (v2, σ3) := by
            rw [← g3]
            exact opA_only hin.1 (cas m2) { st with σ := σ2 }
          simp only [h3]
          exact g5
  | [], _ :: _, i, names, e, l, s, st, gs, ps, k, r, hr, hp, h => by cases h
  | _ :: _, [], i, names, e, l, s, st, gs, ps, k, r, hr, hp, h => by cases h
end

end Go.Proofs.Ytmgjhnengikbhaa.AM
end
section
set_option linter.unusedSimpArgs false
set_option linter.unusedVariables false
/- Code in continuation form says what the code says. -/
set_option linter.unusedVariables false
set_option linter.unusedSimpArgs false
namespace Go.Proofs.Ytmgjhnengikbhaa.AM

/-- More fuel says no less. -/
theorem mono1 (T : FTab) : ∀ n,
    (∀ c st r, exec T n c st = some r → exec T (n + 1) c st = some r) ∧ (∀ fn args σ r, runA T n fn args σ = some r → runA T (n + 1) fn args σ = some r) ∧ CallLe (callA T n) (callA T (n + 1))
  | 0 => ⟨fun _ _ _ e => by simp [exec] at e, fun _ _ _ _ e => by simp [runA] at e, fun _ _ _ _ e => by simp [callA] at e⟩
  | n + 1 => by
    obtain ⟨h1, h2, h3⟩ := mono1 T n
    refine ⟨fun c st r e => ?_, fun fn args σ r e => ?_, fun f args σ r e => ?_⟩
    · cases c with
      | skip => simpa only [exec] using e
      | region ops dr =>
        rw [exec] at e ⊢
        split at e
        · rename_i s hs
          have : regionRun (callA T (n + 1)) ops dr st = some s := by
            unfold regionRun at hs ⊢
            cases dr with
            | none => exact opsRun_le h3 hs
            | some is => exact opsRunD_le h3 hs
          rw [this]
          exact e
        · cases e
      | seq a b =>
        rw [exec] at e ⊢
        split at e
        · rename_i s hs
          rw [h1 _ _ _ hs]
          exact h1 _ _ _ e
        · rename_i hno
          rw [h1 _ _ _ e]
          split
          · rename_i s hs
            rw [Option.some.inj hs] at e
            exact absurd e (hno s)
          · rfl
      | cond x a b =>
        rw [exec] at e ⊢
        cases hv : st.get x with
        | none => simp only [hv] at e; cases e
        | some v =>
          simp only [hv] at e ⊢
          cases hb : asBool? v with
          | none => simp only [hb] at e; cases e
          | some u =>
            simp only [hb] at e ⊢
            cases u with
            | true => exact h1 _ _ _ e
            | false => exact h1 _ _ _ e
      | block id b =>
        rw [exec] at e ⊢
        split at e
        · rename_i id' s hs
          rw [h1 _ _ _ hs]
          exact e
        · rename_i hno
          rw [h1 _ _ _ e]
          split
          · rename_i id' s hs
            rw [Option.some.inj hs] at e
            exact absurd e (hno id' s)
          · rfl
      | loop b =>
        rw [exec] at e ⊢
        split at e
        · rename_i s hs
          rw [h1 _ _ _ hs]
          exact h1 (.loop b) _ _ e
        · rename_i hno
          rw [h1 _ _ _ e]
          split
          · rename_i s hs
            rw [Option.some.inj hs] at e
            exact absurd e (hno s)
          · rfl
      | exit id => simpa only [exec] using e
      | ret => simpa only [exec] using e
      | bad => simp [exec] at e
    · rw [runA] at e ⊢
      split at e
      · rename_i s hs
        rw [h1 _ _ _ hs]
        exact e
      · rename_i s hs
        rw [h1 _ _ _ hs]
        exact e
      · cases e
    · rw [callA] at e ⊢
      split at e
      · cases e
      · rename_i fn hf
        split at e
        · rename_i hlen
          rw [if_pos hlen]
          split at e
          · exact e
          · exact h2 _ _ _ _ e
          · split at e
            · cases e
            · rename_i ts hts
              split at e
              · cases e
              · rename_i v σ1 hr
                rw [h2 _ _ _ _ hr]
                exact e
        · cases e
theorem exec_mono (T : FTab) {c : HCode} {st : St} {r : Out × St} {n m : Nat} (h : n ≤ m) (e : exec T n c st = some r) : exec T m c st = some r := by
  induction h with
  | refl => exact e
  | step _ ih => exact (mono1 T _).1 _ _ _ ih
theorem callA_mono (T : FTab) : MonoC (callA T) := by
  intro n m h
  induction h with
  | refl => exact fun _ _ _ _ e => e
  | step _ ih => exact fun f vs σ r e => (mono1 T _).2.2 _ _ _ _ (ih f vs σ r e)

section
variable {D : Nat} {T : FTab} {c : GCall}

/-- How code in continuation form ends. -/
def Ends (D : Nat) (ids names' : List Nat) (ex : List K) (ret k : K) (r : V × FS) (out : Out) (st' : St) : Prop :=
  match out with
  | .normal => ∃ e l s, Rel D names' e l s st' ∧ k e l s = some r
  | .exit id => ∃ i kx e l s, ix id ids = some i ∧ ex[i]? = some kx ∧ Rel D [] e l s st' ∧ kx e l s = some r
  | .ret => ∃ e l s, Rel D [] e l s st' ∧ ret e l s = some r

theorem Rel.weak {names : List Nat} {e : ET} {l : List V} {s : FS} {st : St} (h : Rel D names e l s st) : Rel D [] e l s st := ⟨h.1, LRel.nil _ _, h.2.2⟩
theorem Rel.nilLoc {names : List Nat} {e : ET} {l : List V} {s : FS} {st : St} (h : Rel D names e l s st) : Rel D [] e [] s { st with loc := [] } := ⟨h.1, LRel.nil _ _, h.2.2⟩

theorem xit_some {ret k : K} : ∀ {i : Nat} {ex : List K} {e : ET} {l : List V} {s : FS} {r : V × FS}, xit i c ex ret k e l s = some r → ∃ kx, ex[i]? = some kx ∧ kx e l s = some r
  | 0, [], _, _, _, _, h => by cases h
  | 0, kx :: _, _, _, _, _, h => ⟨kx, rfl, h⟩
  | i + 1, [], _, _, _, _, h => by cases h
  | i + 1, _ :: ex, e, l, s, r, h => by
    obtain ⟨kx, h1, h2⟩ := xit_some (i := i) (ex := ex) h
    exact ⟨kx, by simpa using h1, h2⟩

theorem gC_some (hc : CallEx c (callA T)) : ∀ (co : HCode) {ids names : List Nat} {ex : List K} {ret k : K} {e : ET} {l : List V} {s : FS} {st : St} {r : V × FS}, Rel D names e l s st → (gC D ids names co).1 c ex ret k e l s = some r →
    ∃ n out st', exec T n co st = some (out, st') ∧ Ends D ids (gC D ids names co).2 ex ret k r out st' := by
  intro co
  induction co with
  | skip =>
    intro ids names ex ret k e l s st r hr h
    exact ⟨1, .normal, st, by simp only [exec], e, l, s, hr, h⟩
  | region ops dr =>
    intro ids names ex ret k e l s st r hr h
    cases dr with
    | none =>
      obtain ⟨m, e', l', s', st', h1, h2, h3⟩ := gOps_some hc (callA_mono T) (ops := ops) hr.nilLoc (k := k) h
      exact ⟨m + 1, .normal, st', by simp only [exec, regionRun, h1], e', l', s', h2, h3⟩
    | some is =>
      obtain ⟨m, e', l', s', st', h1, h2, h3⟩ := gOpsD_some hc (callA_mono T) (is := is) (ops := ops) (gs := []) (ps := []) hr.nilLoc trivial (k := k) h
      exact ⟨m + 1, .normal, st', by simp only [exec, regionRun, h1], e', l', s', h2, h3⟩
  | seq a b iha ihb =>
    intro ids names ex ret k e l s st r hr h
    obtain ⟨n1, out, st1, h1, h2⟩ := iha hr (k := (gC D ids (gC D ids names a).2 b).1 c ex ret k) h
    cases out with
    | normal =>
      obtain ⟨e1, l1, s1, h3, h4⟩ := h2
      obtain ⟨n2, out, st2, h5, h6⟩ := ihb h3 h4
      refine ⟨max n1 n2 + 1, out, st2, ?_, h6⟩
      rw [exec]
      simp only [exec_mono T (Nat.le_max_left n1 n2) h1]
      exact exec_mono T (Nat.le_max_right n1 n2) h5
    | exit id => exact ⟨n1 + 1, .exit id, st1, by rw [exec]; simp only [h1], h2⟩
    | ret => exact ⟨n1 + 1, .ret, st1, by rw [exec]; simp only [h1], h2⟩
  | cond x a b iha ihb =>
    intro ids names ex ret k e l s st r hr h
    simp only [gC, cCondF_eq] at h
    obtain ⟨v, h1, h2⟩ := gO_some hr.1 hr.2.1 (x := x) h
    have hw : ∀ {names' : List Nat} {out : Out} {st' : St}, Ends D ids names' ex ret k r out st' → Ends D ids [] ex ret k r out st' := by
      intro names' out st' h
      cases out with
      | normal =>
        obtain ⟨e', l', s', h3, h4⟩ := h
        exact ⟨e', l', s', h3.weak, h4⟩
      | exit id => exact h
      | ret => exact h
    split at h2
    · rename_i u
      cases u with
      | true =>
        obtain ⟨n, out, st', h3, h4⟩ := iha hr h2
        exact ⟨n + 1, out, st', by rw [exec]; simp only [h1, asBool?, h3], hw h4⟩
      | false =>
        obtain ⟨n, out, st', h3, h4⟩ := ihb hr h2
        exact ⟨n + 1, out, st', by rw [exec]; simp only [h1, asBool?, h3], hw h4⟩
    · cases h2
  | block id b ih =>
    intro ids names ex ret k e l s st r hr h
    obtain ⟨n, out, st', h1, h2⟩ := ih hr (ids := id :: ids) (ex := k :: ex) (ret := ret) (k := k) h
    cases out with
    | normal =>
      obtain ⟨e', l', s', h3, h4⟩ := h2
      exact ⟨n + 1, .normal, st', by rw [exec]; simp only [h1], e', l', s', h3.weak, h4⟩
    | exit id' =>
      obtain ⟨i, kx, e', l', s', h3, h4, h5, h6⟩ := h2
      unfold ix at h3
      split at h3
      · rename_i hb
        cases h3
        simp only [List.getElem?_cons_zero, Option.some.injEq] at h4
        subst h4
        exact ⟨n + 1, .normal, st', by rw [exec]; simp only [h1, Nat.eq_of_beq_eq_true hb, if_true], e', l', s', h5, h6⟩
      · rename_i hb
        split at h3
        · rename_i j hj
          cases h3
          refine ⟨n + 1, .exit id', st', ?_, j, kx, e', l', s', hj, by simpa using h4, h5, h6⟩
          rw [exec]
          simp only [h1]
          rw [if_neg]
          rintro rfl
          simp at hb
        · cases h3
    | ret => exact ⟨n + 1, .ret, st', by rw [exec]; simp only [h1], h2⟩
  | loop b ih =>
    intro ids names ex ret k e l s st r hr h
    have key : ∀ (f : Nat) (e : ET) (l : List V) (s : FS) (st : St), Rel D [] e l s st → (Nat.rec (motive := fun _ => K) (fun _ _ _ => none) (fun _ ih => fun e l s => (gC D ids [] b).1 c ex ret ih e l s) f : K) e l s = some r →
        ∃ n out st', exec T n (.loop b) st = some (out, st') ∧ out ≠ .normal ∧ Ends D ids [] ex ret k r out st' := by
      intro f
      induction f with
      | zero => intro e l s st hr h; cases h
      | succ f ihf =>
        intro e l s st hr h
        obtain ⟨n, out, st', h1, h2⟩ := ih hr (ids := ids) (names := []) (ex := ex) (ret := ret) (k := (Nat.rec (motive := fun _ => K) (fun _ _ _ => none) (fun _ ih => fun e l s => (gC D ids [] b).1 c ex ret ih e l s) f : K)) h
        cases out with
        | normal =>
          obtain ⟨e', l', s', h3, h4⟩ := h2
          obtain ⟨n2, out, st2, h5, h6, h7⟩ := ihf e' l' s' st' h3.weak h4
          refine ⟨max n n2 + 1, out, st2, ?_, h6, h7⟩
          rw [exec]
          simp only [exec_mono T (Nat.le_max_left n n2) h1]
          exact exec_mono T (Nat.le_max_right n n2) h5
        | exit id => exact ⟨n + 1, .exit id, st', by rw [exec]; simp only [h1], by simp, h2⟩
        | ret => exact ⟨n + 1, .ret, st', by rw [exec]; simp only [h1], by simp, h2⟩
    have h : cLoop (gC D ids [] b).1 c ex ret k e l s = some r := h
    unfold cLoop at h
    generalize loopFuel = f0 at h
    obtain ⟨n, out, st', h1, _, h2⟩ := key f0 e l s st hr.weak h
    exact ⟨n, out, st', h1, h2⟩
  | exit id =>
    intro ids names ex ret k e l s st r hr h
    cases hi : ix id ids with
    | none =>
      simp only [gC, hi] at h
      cases h
    | some i =>
      simp only [gC, hi] at h
      obtain ⟨kx, h1, h2⟩ := xit_some h
      exact ⟨1, .exit id, st, by simp only [exec], i, kx, e, l, s, hi, h1, hr.weak, h2⟩
  | ret =>
    intro ids names ex ret k e l s st r hr h
    exact ⟨1, .ret, st, by simp only [exec], e, l, s, hr.weak, h⟩
  | bad =>
    intro ids names ex ret k e l s st r hr h
    cases h

theorem gRs_some {names : List Nat} {e : ET} {l : List V} {s : FS} {st : St} (hr : Rel D names e l s st) : ∀ {rs : List HRes} {k : List V → R} {r : V × FS}, gRs D rs k e s = some r → ∃ vs, resultsA st rs = some vs ∧ k vs = some r
  | [], k, r, h => ⟨[], rfl, h⟩
  | .tmp x :: rs, k, r, h => by
    cases hb : Nat.blt x (2 ^ D) with
    | false => simp only [gRs, hb] at h; cases h
    | true =>
      simp only [gRs, hb] at h
      obtain ⟨v, h1, h2⟩ := eP_some h
      rw [hr.1 x (by simpa only [Nat.blt_eq] using hb)] at h1
      obtain ⟨vs, h3, h4⟩ := gRs_some hr (rs := rs) h2
      exact ⟨v :: vs, by simp only [resultsA, h1, h3], h4⟩
  | .cell x size agg :: rs, k, r, h => by
    cases hb : Nat.blt x (2 ^ D) with
    | false => simp only [gRs, hb] at h; cases h
    | true =>
      simp only [gRs, hb] at h
      obtain ⟨a, h1, h2⟩ := eP_some h
      rw [hr.1 x (by simpa only [Nat.blt_eq] using hb)] at h1
      obtain ⟨v, h5, h6⟩ := optR_some h2
      obtain ⟨vs, h3, h4⟩ := gRs_some hr (rs := rs) h6
      exact ⟨v :: vs, by simp only [resultsA, h1, ldG_some hr.2.2 h5, h3], h4⟩
theorem fin_some {names : List Nat} {e : ET} {l : List V} {s : FS} {st : St} (hr : Rel D names e l s st) {rs : List HRes} {v : V} {s' : FS} (h : fin (gRs D rs) e l s = some (v, s')) : resultA st rs = some v ∧ SRel s' st.σ := by
  unfold fin at h
  obtain ⟨vs, h1, h2⟩ := gRs_some hr h
  unfold resultA
  rw [h1]
  split at h2
  · cases h2
    exact ⟨rfl, hr.2.2⟩
  · rename_i hno
    cases h2
    refine ⟨?_, hr.2.2⟩
    split
    · rename_i hv
      exact (hno _ (Option.some.inj hv)).elim
    · rename_i heq
      cases heq
      rfl
    · rename_i heq
      cases heq

theorem look_args : ∀ (vs : List V) (i k : Nat), look (argsEnv vs i) k = if i ≤ k then vs[k - i]? else none
  | [], i, k => by simp [argsEnv, look]
  | v :: vs, i, k => by
    simp only [argsEnv, look, look_args vs (i + 1) k]
    by_cases hk : k = i
    · subst hk
      simp
    · rw [if_neg (fun h => hk (Nat.eq_of_beq_eq_true h))]
      by_cases hi : i + 1 ≤ k
      · rw [if_pos hi, if_pos (by omega)]
        have : k - i = (k - (i + 1)) + 1 := by omega
        rw [this]
        simp
      · rw [if_neg hi, if_neg (by omega)]
theorem gArgs_some : ∀ {n i : Nat} {vs : List V} {e : ET} {k : ET → R} {r : V × FS}, gArgs D n i k e vs = some r → (∀ j, j < 2 ^ D → i ≤ j → getE (bits D j) e = none) →
    ∃ e', vs.length = n ∧ k e' = some r ∧ ∀ j, j < 2 ^ D → getE (bits D j) e' = if i ≤ j then vs[j - i]? else getE (bits D j) e
  | 0, i, vs, e, k, r, h, he => by
    cases vs with
    | cons v t => cases h
    | nil => exact ⟨e, rfl, h, fun j hj => by
      by_cases hi : i ≤ j
      · rw [if_pos hi, he j hj hi]; simp
      · rw [if_neg hi]⟩
  | n + 1, i, vs, e, k, r, h, he => by
    cases hb : Nat.blt i (2 ^ D) with
    | false => simp only [gArgs, hb] at h; cases h
    | true =>
      simp only [gArgs, hb] at h
      have hb : i < 2 ^ D := by simpa only [Nat.blt_eq] using hb
      cases vs with
      | nil => cases h
      | cons v t =>
        have h : sP (bits D i) v (fun e => gArgs D n (i + 1) k e t) e = some r := h
        rw [sP_eq] at h
        have hset : ∀ j, j < 2 ^ D → getE (bits D j) (setE (bits D i) v e) = if j = i then some v else getE (bits D j) e := by
          intro j hj
          rw [getE_set _ _ _ _ (by rw [bits_len, bits_len])]
          by_cases hji : j = i
          · subst hji; simp
          · rw [if_neg hji, if_neg (fun hh => hji (bits_inj D j i hj hb hh))]
        obtain ⟨e', h1, h2, h3⟩ := gArgs_some (n := n) h (fun j hj hij => by rw [hset j hj, if_neg (by omega)]; exact he j hj (by omega))
        refine ⟨e', by simp [h1], h2, fun j hj => ?_⟩
        rw [h3 j hj]
        by_cases hi : i + 1 ≤ j
        · rw [if_pos hi, if_pos (by omega)]
          have : j - i = (j - (i + 1)) + 1 := by omega
          rw [this]
          simp
        · rw [if_neg hi, hset j hj]
          by_cases hji : j = i
          · subst hji; simp
          · rw [if_neg hji, if_neg (by omega)]

theorem callG_some {TG : TabG} (hT : ∀ f g, TG f = some g → (∃ D h, T f = some h ∧ h.mode = .shared ∧ g = gFn D h) ∨ ∃ k h, T f = some h ∧ h.mode = .ext k ∧ g = gExt h.nargs k) : ∀ n, CallEx (callG TG n) (callA T)
  | 0, f, vs, s, v, s', σ, h, hs => by cases h
  | n + 1, f, vs, s, v, s', σ, h, hs => by
    have h : optR (TG f) (fun g => g (callG TG n) vs s) = some (v, s') := h
    obtain ⟨g, h1, h2⟩ := optR_some h
    rcases hT f g h1 with ⟨D, hf, h3, h4, rfl⟩ | ⟨k, hf, h3, h4, rfl⟩
    case inr =>
      unfold gExt at h2
      obtain ⟨h5, h6⟩ := bif2_some h2
      obtain ⟨u, h7, h8⟩ := optR_some h6
      cases h8
      rw [toL_eq hs] at h7
      refine ⟨1, σ, ?_, hs⟩
      rw [callA, h3]
      simp only [Nat.eq_of_beq_eq_true h5, if_true, h4, h7]
    have h2 : gArgs D hf.nargs 0 (fun e => (gC D [] [] hf.code).1 (callG TG n) [] (fin (gRs D hf.results)) (fin (gRs D hf.results)) e [] s) .z0 vs = some (v, s') := h2
    obtain ⟨e, h5, h6, h7⟩ := gArgs_some h2 (fun j _ _ => getE_e _)
    have hr : Rel D [] e [] s ⟨argsEnv vs 0, [], σ⟩ := ⟨fun j hj => by rw [h7 j hj, look_args, if_pos (Nat.zero_le j), if_pos (Nat.zero_le j)], LRel.nil _ _, hs⟩
    obtain ⟨m, out, st', h8, h9⟩ := gC_some (callG_some hT n) hf.code hr h6
    cases out with
    | normal =>
      obtain ⟨e', l', s2, h10, h11⟩ := h9
      obtain ⟨h12, h13⟩ := fin_some h10 h11
      refine ⟨m + 2, st'.σ, ?_, h13⟩
      rw [callA, h3]
      simp only [h5, if_true, h4]
      rw [runA, h8]
      simp only [h12]
    | exit id =>
      obtain ⟨i, kx, e', l', s2, h10, _⟩ := h9
      cases h10
    | ret =>
      obtain ⟨e', l', s2, h10, h11⟩ := h9
      obtain ⟨h12, h13⟩ := fin_some h10 h11
      refine ⟨m + 2, st'.σ, ?_, h13⟩
      rw [callA, h3]
      simp only [h5, if_true, h4]
      rw [runA, h8]
      simp only [h12]
end

end Go.Proofs.Ytmgjhnengikbhaa.AM
end
section
set_option linter.unusedSimpArgs false
set_option linter.unusedVariables false
/- How code runs, fuel left out: for proofs by hand. -/
set_option linter.unusedVariables false
set_option linter.unusedSimpArgs false
namespace Go.Proofs.Ytmgjhnengikbhaa.AM

def Ex (T : FTab) (c : HCode) (st : St) (out : Out) (st' : St) : Prop := ∃ m, exec T m c st = some (out, st')
def Cl (T : FTab) (f : FuncId) (vs : List V) (σ : Store) (v : V) (σ' : Store) : Prop := ∃ m, callA T m f vs σ = some (v, σ')
variable {T : FTab} {st st1 st2 : St} {out : Out} {a b : HCode}

theorem ex_skip : Ex T .skip st .normal st := ⟨1, by simp only [exec]⟩
theorem ex_ret : Ex T .ret st .ret st := ⟨1, by simp only [exec]⟩
theorem ex_exit (i : Nat) : Ex T (.exit i) st (.exit i) st := ⟨1, by simp only [exec]⟩
theorem ex_seq (h1 : Ex T a st .normal st1) (h2 : Ex T b st1 out st2) : Ex T (.seq a b) st out st2 := by
  obtain ⟨m1, h1⟩ := h1
  obtain ⟨m2, h2⟩ := h2
  refine ⟨max m1 m2 + 1, ?_⟩
  rw [exec]
  simp only [exec_mono T (Nat.le_max_left m1 m2) h1]
  exact exec_mono T (Nat.le_max_right m1 m2) h2
theorem ex_stop (h1 : Ex T a st out st1) (hn : out ≠ .normal) : Ex T (.seq a b) st out st1 := by
  obtain ⟨m, h1⟩ := h1
  refine ⟨m + 1, ?_⟩
  rw [exec]
  simp only [h1]
  cases out with
  | normal => exact absurd rfl hn
  | _ => rfl
theorem ex_region {ops : List HOp} (h : ∃ m, opsRun (callA T m) ops { st with loc := [] } = some st1) : Ex T (.region ops none) st .normal st1 := by
  obtain ⟨m, h⟩ := h
  exact ⟨m + 1, by simp only [exec, regionRun, h]⟩
theorem ex_true {x : HO} (hx : st.get x = some (.tr (.sc (.bool true)))) (h : Ex T a st out st1) : Ex T (.cond x a b) st out st1 := by
  obtain ⟨m, h⟩ := h
  exact ⟨m + 1, by rw [exec]; simp only [hx, asBool?, h]⟩
theorem ex_false {x : HO} (hx : st.get x = some (.tr (.sc (.bool false)))) (h : Ex T b st out st1) : Ex T (.cond x a b) st out st1 := by
  obtain ⟨m, h⟩ := h
  exact ⟨m + 1, by rw [exec]; simp only [hx, asBool?, h]⟩
theorem ex_block {i : Nat} (h : Ex T b st .normal st1) : Ex T (.block i b) st .normal st1 := by
  obtain ⟨m, h⟩ := h
  exact ⟨m + 1, by rw [exec]; simp only [h]⟩
theorem ex_block_exit {i : Nat} (h : Ex T b st (.exit i) st1) : Ex T (.block i b) st .normal st1 := by
  obtain ⟨m, h⟩ := h
  exact ⟨m + 1, by rw [exec]; simp only [h, if_true]⟩
theorem ex_block_ret {i : Nat} (h : Ex T b st .ret st1) : Ex T (.block i b) st .ret st1 := by
  obtain ⟨m, h⟩ := h
  exact ⟨m + 1, by rw [exec]; simp only [h]⟩
theorem ex_loop (h1 : Ex T b st .normal st1) (h2 : Ex T (.loop b) st1 out st2) : Ex T (.loop b) st out st2 := by
  obtain ⟨m1, h1⟩ := h1
  obtain ⟨m2, h2⟩ := h2
  refine ⟨max m1 m2 + 1, ?_⟩
  rw [exec]
  simp only [exec_mono T (Nat.le_max_left m1 m2) h1]
  exact exec_mono T (Nat.le_max_right m1 m2) h2
theorem ex_loop_out (h1 : Ex T b st out st1) (hn : out ≠ .normal) : Ex T (.loop b) st out st1 := by
  obtain ⟨m, h1⟩ := h1
  refine ⟨m + 1, ?_⟩
  rw [exec]
  simp only [h1]
  cases out with
  | normal => exact absurd rfl hn
  | _ => rfl
theorem cl_of {f : FuncId} {fn : HFn} {vs : List V} {σ : Store} {v : V} {st : St} (hf : T f = some fn) (hm : fn.mode = .shared) (hl : fn.nargs = vs.length)
    (h : Ex T fn.code ⟨argsEnv vs 0, [], σ⟩ out st) (ho : out = .normal ∨ out = .ret) (hr : resultA st fn.results = some v) : Cl T f vs σ v st.σ := by
  obtain ⟨m, h⟩ := h
  refine ⟨m + 2, ?_⟩
  rw [callA, hf]
  simp only [hl, if_true, hm]
  rw [runA, h]
  rcases ho with rfl | rfl <;> simp only [hr]
theorem cl_ext {f : FuncId} {fn : HFn} {vs : List V} {σ : Store} {v : V} {k : Nat} (hf : T f = some fn) (hm : fn.mode = .ext k) (hl : fn.nargs = vs.length) (h : extV k vs σ = some v) (m : Nat) : callA T (m + 1) f vs σ = some (v, σ) := by
  rw [callA, hf]
  simp only [hl, if_true, hm, h]

/-- Whole numbers and truths held against each other. -/
theorem bin_lss (k : IntKind) (x y : Int) : opBin .other .lss (.tr (.sc (.int k x))) (.tr (.sc (.int k y))) = some (.tr (.sc (.bool (decide (x < y))))) := by simp [opBin, isNil, notNil, binSc, binInt]
theorem bin_gtr (k : IntKind) (x y : Int) : opBin .other .gtr (.tr (.sc (.int k x))) (.tr (.sc (.int k y))) = some (.tr (.sc (.bool (decide (x > y))))) := by simp [opBin, isNil, notNil, binSc, binInt]
theorem bin_leq (k : IntKind) (x y : Int) : opBin .other .leq (.tr (.sc (.int k x))) (.tr (.sc (.int k y))) = some (.tr (.sc (.bool (decide (x ≤ y))))) := by simp [opBin, isNil, notNil, binSc, binInt]
theorem bin_geq (k : IntKind) (x y : Int) : opBin .other .geq (.tr (.sc (.int k x))) (.tr (.sc (.int k y))) = some (.tr (.sc (.bool (decide (x ≥ y))))) := by simp [opBin, isNil, notNil, binSc, binInt]
theorem bin_eql (k : IntKind) (x y : Int) : opBin .other .eql (.tr (.sc (.int k x))) (.tr (.sc (.int k y))) = some (.tr (.sc (.bool (x == y)))) := by simp [opBin, isNil, notNil, binSc, binInt]
theorem bin_add (k : IntKind) (x y : Int) : opBin .other .add (.tr (.sc (.int k x))) (.tr (.sc (.int k y))) = some (.tr (.sc (.int k (k.wrap (x + y))))) := by simp [opBin, isNil, notNil, binSc, binInt]
theorem bin_sub (k : IntKind) (x y : Int) : opBin .other .sub (.tr (.sc (.int k x))) (.tr (.sc (.int k y))) = some (.tr (.sc (.int k (k.wrap (x - y))))) := by simp [opBin, isNil, notNil, binSc, binInt]
def orI (k : IntKind) (x y : Int) : Int := k.wrap (BitVec.ofInt k.bits x ||| BitVec.ofInt k.bits y).toNat
theorem bin_or (k : IntKind) (x y : Int) : opBin .other .or (.tr (.sc (.int k x))) (.tr (.sc (.int k y))) = some (.tr (.sc (.int k (orI k x y)))) := by simp [opBin, isNil, notNil, binSc, binInt, orI]
theorem bin_bool (x y : Bool) : opBin .bool .eql (.tr (.sc (.bool x))) (.tr (.sc (.bool y))) = some (.tr (.sc (.bool (x == y)))) := by simp [opBin, isNil, notNil, binSc]
theorem bin_str (s t : ByteArray) : opBin .other .eql (.tr (.sc (.string s))) (.tr (.sc (.string t))) = some (.tr (.sc (.bool (bytesEq s.data.toList t.data.toList)))) := by simp [opBin, isNil, notNil, binSc, binStr]
theorem un_not (b : Bool) : opUn .not (.tr (.sc (.bool b))) = some (.tr (.sc (.bool (!b)))) := rfl
theorem istr_at {s : ByteArray} {i : Nat} {b : UInt8} {k : IntKind} (h : s.data.toList[i]? = some b) : opIndexStr (.tr (.sc (.string s))) (.tr (.sc (.int k (i : Int)))) = some (.tr (.sc (.int .u8 b.toNat))) := by
  have : asIdx? (.tr (.sc (.int k (i : Int)))) = some i := by simp [asIdx?]
  simp [opIndexStr, this, h, int]
theorem i64_small {n : Int} (h0 : -1000000 ≤ n) (h1 : n ≤ 1000000) : IntKind.i64.wrap n = n := IntWalk.i64_in n (by omega)

end Go.Proofs.Ytmgjhnengikbhaa.AM
end
section
set_option linter.unusedSimpArgs false
set_option linter.unusedVariables false
/- What reads as data at a call's start stands for trees: arguments opened by their types. -/
set_option linter.unusedVariables false
set_option linter.unusedSimpArgs false
open Go.RowKit Go.WideShapes
namespace Go.Proofs.Ytmgjhnengikbhaa.AM

section
variable {h : Array Go.Obj} {I : Nat → Prop}

theorem RTL_append : ∀ (ts us : List Tree) (xs ys : List Value), RTL h I ts xs → RTL h I us ys → RTL h I (ts ++ us) (xs ++ ys)
  | [], us, xs, ys, h1, h2 => by simp only [RTL] at h1; subst h1; simpa using h2
  | t :: ts, us, xs, ys, h1, h2 => by
    simp only [RTL] at h1
    obtain ⟨y, zs, rfl, r, s⟩ := h1
    simp only [List.cons_append, RTL]
    exact ⟨y, zs ++ ys, rfl, r, RTL_append ts us zs ys s h2⟩
theorem RTL_len (ts : List Tree) (xs : List Value) (r : RTL h I ts xs) : ts.length = xs.length := ((RTL_iff _ _).1 r).1

theorem RTC_append : ∀ (ts us : List Tree) (b o : Nat), RTC h I ts b o → RTC h I us b (o + ts.length) → RTC h I (ts ++ us) b o
  | [], us, b, o, h1, h2 => by simpa using h2
  | t :: ts, us, b, o, h1, h2 => by
    simp only [RTC] at h1
    simp only [List.cons_append, RTC]
    refine ⟨h1.1, RTC_append ts us b (o + 1) h1.2 ?_⟩
    rw [List.length_cons] at h2
    rw [show o + 1 + ts.length = o + (ts.length + 1) by omega]; exact h2

theorem RTC_of_RTL (ts : List Tree) (xs : List Value) (b o : Nat) (r : RTL h I ts xs) (hc : ∀ j, j < xs.length → cellAt h b (o + j) = xs[j]?) : RTC h I ts b o := by
  rw [RTC_iff]
  intro k t hk
  obtain ⟨e, s⟩ := (RTL_iff _ _).1 r
  obtain ⟨x, hx, rx⟩ := s k t hk
  have hlt : k < xs.length := by
    have := (List.getElem?_eq_some_iff.1 hx).1
    exact this
  exact ⟨x, by rw [hc k hlt, hx], rx⟩

theorem RTC_flat {α : Type} (E : α → List Tree) (c : Nat) (hE : ∀ a, (E a).length = c) : ∀ (l : List α) (b o : Nat), (∀ (i : Nat) a, l[i]? = some a → RTC h I (E a) b (o + i * c)) → RTC h I (l.flatMap E) b o
  | [], b, o, _ => by simp [RTC]
  | a :: l, b, o, H => by
    rw [List.flatMap_cons]
    refine RTC_append _ _ _ _ (by simpa using H 0 a rfl) (RTC_flat E c hE l b _ fun i a' hi => ?_)
    have := H (i + 1) a' (by simpa using hi)
    rw [hE, show o + c + i * c = o + (i + 1) * c by rw [Nat.add_mul]; omega]
    exact this
end

theorem cellAt_cell? {w : World} {a : Addr} {v : Value} (hv : w.cell? a = some v) : a.spot = none ∧ a.block < w.heap.size ∧ cellAt w.heap a.block a.off = some v := by
  unfold World.cell? at hv
  unfold cellAt
  split at hv
  · rename_i c x y hb
    split at hv
    · cases hv
    · rename_i hs
      refine ⟨by simpa using hs, ?_, ?_⟩
      · exact (Array.getElem?_eq_some_iff.1 hb).1
      · rw [hb]; exact hv
  · cases hv

theorem choose_list {α : Type} (R : Nat → α → Prop) : ∀ (n : Nat), (∀ i, i < n → ∃ a, R i a) → ∃ l : List α, l.length = n ∧ ∀ (i : Nat) a, l[i]? = some a → R i a
  | 0, _ => ⟨[], rfl, fun i a hi => by simp at hi⟩
  | n + 1, H => by
    obtain ⟨l, hl, hr⟩ := choose_list R n fun i hi => H i (by omega)
    obtain ⟨a, ha⟩ := H n (by omega)
    refine ⟨l ++ [a], by simp [hl], fun i b hi => ?_⟩
    by_cases hlt : i < n
    · rw [List.getElem?_append_left (by omega)] at hi
      exact hr i b hi
    · rw [List.getElem?_append_right (by omega)] at hi
      have : i - l.length = 0 := by
        have := (List.getElem?_eq_some_iff.1 hi).1
        simp at this; omega
      rw [this] at hi
      simp at hi; subst hi
      rw [show i = n by omega]; exact ha

section
variable {H : Type} {enc : TypeId × Value → H} {P : Program} {w : World}

/-- Whatever reads as data of type t stands for the trees of some a. -/
def Opens (enc : TypeId × Value → H) (P : Program) (w : World) (n : Nat) (t : TypeId) {α : Type} (E : α → List Tree) (ok : α → Prop) : Prop :=
  ∀ cs x, DataW.trod enc P w 0 (fun _ => true) true n t cs = some x → ∃ a, ok a ∧ RTL w.heap (fun b => b < w.heap.size) (E a) cs

theorem opens_int {n : Nat} {t : TypeId} {k : IntKind} (ht : P.underlying t = some (.int k)) : Opens enc P w n t (fun z : Int => [.sc (.int k z)]) (fun z => (Lit.int k z).wf = true) := by
  intro cs x hx
  obtain ⟨z, rfl, _, hz⟩ := DataW.trod_int ht hx
  exact ⟨z, hz, by simp [RTL, RT]⟩
theorem opens_bool {n : Nat} {t : TypeId} (ht : P.underlying t = some .bool) : Opens enc P w n t (fun z : Bool => [.sc (.bool z)]) (fun _ => True) := by
  intro cs x hx
  obtain ⟨z, rfl, _⟩ := DataW.trod_bool ht hx
  exact ⟨z, trivial, by simp [RTL, RT]⟩
theorem opens_string {n : Nat} {t : TypeId} (ht : P.underlying t = some .string) : Opens enc P w n t (fun s : ByteArray => [.sc (.string s)]) (fun s => s.size ≤ maxLen) := by
  intro cs x hx
  obtain ⟨z, rfl, _, hz⟩ := DataW.trod_string ht hx
  exact ⟨z, hz, by simp [RTL, RT]⟩

/-- A slice: none, or its elements and its capacity. -/
def slE {α : Type} (E : α → List Tree) : Option (List α × Nat) → List Tree
  | none => [.sc (.slice none 0 0)]
  | some (l, c) => [.row (l.flatMap E) l.length (some c)]
def slOk {α : Type} (ok : α → Prop) : Option (List α × Nat) → Prop
  | none => True
  | some (l, c) => l.length ≤ c ∧ c ≤ maxLen ∧ ∀ a ∈ l, ok a

theorem opens_slice {n : Nat} {t e : TypeId} {c : Nat} {α : Type} {E : α → List Tree} {ok : α → Prop} (ht : P.underlying t = some (.slice e)) (hc : P.cellsOf e = c) (hE : ∀ a, (E a).length = c)
    (he : ∀ m, n = m + 1 → Opens enc P w m e E ok) : Opens enc P w n t (slE E) (slOk ok) := by
  intro cs x hx
  rcases DataW.trod_slice ht hx with ⟨rfl, _⟩ | ⟨a, len, cap, elems, rest, m, rfl, rfl, _, _, hl, hm, hlen, hel, _, _⟩
  · exact ⟨none, trivial, by simp [slE, RTL, RT]⟩
  obtain ⟨l, hll, hR⟩ := choose_list (fun i b => ok b ∧ ∃ cs', w.cells? 0 (a.add (i * P.cellsOf e)) (P.cellsOf e) = some cs' ∧ RTL w.heap (fun b => b < w.heap.size) (E b) cs') len fun i hi => by
    have h1 := hel i hi
    have h2 : elems[i]? = some elems[i] := List.getElem?_eq_getElem _
    rw [h2, Option.bind_eq_some_iff] at h1
    obtain ⟨cs', h3, h4⟩ := h1
    obtain ⟨b, hb, hr⟩ := he m rfl cs' _ h4
    exact ⟨b, hb, cs', h3, hr⟩
  refine ⟨some (l, cap), ⟨by omega, hm, fun b hb => ?_⟩, ?_⟩
  · obtain ⟨i, hi⟩ := List.getElem?_of_mem hb
    exact (hR i b hi).1
  · simp only [slE, RTL, RT]
    refine ⟨_, [], rfl, ⟨some a, cap, by rw [hll], by omega, fun k hk => by simpa using hk, ?_⟩, rfl⟩
    by_cases h0 : l.flatMap E = []
    · exact .inl h0
    right
    -- a first cell
    have hpos : 0 < c ∧ 0 < len := by
      constructor
      · rcases Nat.eq_zero_or_pos c with h | h
        · exfalso; apply h0
          rw [List.flatMap_eq_nil_iff]
          intro b _
          exact List.length_eq_zero_iff.1 ((hE b).trans h)
        · exact h
      · rcases Nat.eq_zero_or_pos len with h | h
        · exfalso; apply h0
          rw [List.length_eq_zero_iff.1 (hll.trans h)]; rfl
        · exact h
    have hcell : ∀ i, i < len → ∀ b, l[i]? = some b → ∃ cs', cs'.length = c ∧ RTL w.heap (fun b => b < w.heap.size) (E b) cs' ∧ ∀ j, j < c → w.cell? ((a.add (i * c)).add j) = cs'[j]? := by
      intro i hi b hb
      obtain ⟨_, cs', h3, hr⟩ := hR i b hb
      rw [hc] at h3
      obtain ⟨_, h4, h5⟩ := World.cells?_some h3
      exact ⟨cs', h4, hr, h5⟩
    have ha : a.spot = none ∧ a.block < w.heap.size := by
      have hb0 : l[0]? = some l[0] := List.getElem?_eq_getElem _
      obtain ⟨cs', h4, hr, h5⟩ := hcell 0 hpos.2 _ hb0
      have h6 := h5 0 hpos.1
      have h7 : cs'[0]? = some cs'[0] := List.getElem?_eq_getElem _
      rw [h7] at h6
      simp [Addr.add] at h6
      exact ⟨(cellAt_cell? h6).1, (cellAt_cell? h6).2.1⟩
    obtain ⟨b, o, sp⟩ := a
    simp only at ha
    obtain ⟨rfl, hb⟩ := ha
    refine ⟨b, o, rfl, hb, RTC_flat E c hE l b o fun i e' hi => ?_⟩
    have hilt : i < len := by
      have := (List.getElem?_eq_some_iff.1 hi).1
      omega
    obtain ⟨cs', h4, hr, h5⟩ := hcell i hilt e' hi
    refine RTC_of_RTL _ cs' _ _ hr fun j hj => ?_
    have h6 := h5 j (by omega)
    have h7 : cs'[j]? = some cs'[j] := List.getElem?_eq_getElem _
    rw [h7] at h6 ⊢
    have h8 := (cellAt_cell? h6).2.2
    rw [← h8]
    have h9 : ∀ (x y : Nat), ((⟨b, x, none⟩ : Addr).add y).block = b ∧ ((⟨b, x, none⟩ : Addr).add y) = ⟨b, x + y, none⟩ := by
      intro x y
      unfold Addr.add
      by_cases hy : y = 0
      · simp [hy]
      · simp [hy]
    rw [(h9 _ _).2, (h9 _ _).2]

/-- Fields that lie side by side. -/
def OpensFs (enc : TypeId × Value → H) (P : Program) (w : World) (n : Nat) (o : Nat) (fs : List Field) {α : Type} (E : α → List Tree) (ok : α → Prop) : Prop :=
  ∀ cs : List Value, (∀ f, f ∈ fs → ∃ x, DataW.trod enc P w 0 (fun _ => true) true n f.type ((cs.drop f.offset).take (P.cellsOf f.type)) = some x) → ∃ a, ok a ∧ RTL w.heap (fun b => b < w.heap.size) (E a) ((cs.drop o).take (E a).length)

theorem opens_nil {n o : Nat} : OpensFs enc P w n o [] (fun _ : Unit => []) (fun _ => True) := by
  intro cs _
  exact ⟨(), trivial, by simp [RTL]⟩
theorem opens_cons {n o c : Nat} {f : Field} {fs : List Field} {α β : Type} {E : α → List Tree} {ok : α → Prop} {F : β → List Tree} {ok' : β → Prop} (ho : f.offset = o) (hc : P.cellsOf f.type = c)
    (h1 : Opens enc P w n f.type E ok) (hE : ∀ a, (E a).length = c) (h2 : OpensFs enc P w n (o + c) fs F ok') :
    OpensFs enc P w n o (f :: fs) (fun p : α × β => E p.1 ++ F p.2) (fun p => ok p.1 ∧ ok' p.2) := by
  intro cs H
  obtain ⟨x, hx⟩ := H f (by simp)
  obtain ⟨a, ha, ra⟩ := h1 _ _ hx
  obtain ⟨b, hb, rb⟩ := h2 cs fun g hg => H g (by simp [hg])
  refine ⟨(a, b), ⟨ha, hb⟩, ?_⟩
  have := RTL_append _ _ _ _ ra rb
  simp only
  rw [ho, hc] at this
  rw [List.length_append, hE, List.take_add, List.drop_drop]
  exact this

theorem opens_struct {n : Nat} {t : TypeId} {fs : Array Field} {α : Type} {E : α → List Tree} {ok : α → Prop} (ht : P.underlying t = some (.struct fs)) (hE : ∀ a, (E a).length = P.cellsOf t)
    (h : ∀ m, n = m + 1 → OpensFs enc P w m 0 fs.toList E ok) : Opens enc P w n t E ok := by
  intro cs x hx
  obtain ⟨xs, m, rfl, _, hl, hsz, hf⟩ := DataW.trod_struct ht hx
  obtain ⟨a, ha, ra⟩ := h m rfl cs fun f hm => by
    obtain ⟨i, hi⟩ := List.getElem?_of_mem hm
    have hi' : fs[i]? = some f := by simpa using hi
    have hlt : i < xs.length := by
      have := (Array.getElem?_eq_some_iff.1 hi').1
      omega
    exact ⟨xs[i], by rw [hf i f hi', List.getElem?_eq_getElem hlt]⟩
  refine ⟨a, ha, ?_⟩
  rw [List.drop_zero, hE, ← hl, List.take_length] at ra
  exact ra

theorem Opens.map {n : Nat} {t : TypeId} {α β : Type} {E : α → List Tree} {ok : α → Prop} {F : β → List Tree} {ok' : β → Prop} (h : Opens enc P w n t E ok) (g : α → β) (hg : ∀ a, ok a → F (g a) = E a) (hk : ∀ a, ok a → ok' (g a)) :
    Opens enc P w n t F ok' := by
  intro cs x hx
  obtain ⟨a, ha, ra⟩ := h cs x hx
  exact ⟨g a, hk a ha, by rw [hg a ha]; exact ra⟩

/-- An argument of one cell. -/
theorem Opens.slice {t e : TypeId} {r : Reach} {b0 : Nat} {v : Value} {d : DataW H} {ps : List MemPlace} {α : Type} {E : α → Tree} {ok : α → Prop} (ht : P.underlying t = some (.slice e))
    (hval : Value.okWide P w r b0 t v) (hd : DataW.Trod enc P w 0 (fun _ => true) true t v d ps) (h : ∀ n, Opens enc P w n t (fun a => [E a]) ok) :
    ∃ a, ok a ∧ RT w.heap (fun b => b < w.heap.size) (E a) v := by
  obtain ⟨a, len, cap, rfl⟩ := okWide_slice ht hval
  obtain ⟨n, hn⟩ := hd
  obtain ⟨x, hx, rx⟩ := h n _ _ hn
  refine ⟨x, hx, ?_⟩
  simp only [Value.cells, RTL] at rx
  obtain ⟨y, ys, e1, r, rfl⟩ := rx
  simp at e1
  rw [e1]; exact r
theorem Opens.one {t e : TypeId} {r : Reach} {b0 : Nat} {v : Value} {d : DataW H} {ps : List MemPlace} {α : Type} {E : α → List Tree} {ok : α → Prop} (ht : P.underlying t = some (.slice e))
    (hval : Value.okWide P w r b0 t v) (hd : DataW.Trod enc P w 0 (fun _ => true) true t v d ps) (h : ∀ n, Opens enc P w n t E ok) :
    ∃ a, ok a ∧ RTL w.heap (fun b => b < w.heap.size) (E a) [v] := by
  obtain ⟨a, len, cap, rfl⟩ := okWide_slice ht hval
  obtain ⟨n, hn⟩ := hd
  obtain ⟨x, hx, rx⟩ := h n _ _ hn
  exact ⟨x, hx, by simpa [Value.cells] using rx⟩
/-- An argument that is a struct. -/
theorem Opens.struct {t : TypeId} {fs : Array Field} {r : Reach} {b0 : Nat} {v : Value} {d : DataW H} {ps : List MemPlace} {α : Type} {E : α → List Tree} {ok : α → Prop} (ht : P.underlying t = some (.struct fs))
    (hval : Value.okWide P w r b0 t v) (hd : DataW.Trod enc P w 0 (fun _ => true) true t v d ps) (h : ∀ n, Opens enc P w n t E ok) :
    ∃ a, ok a ∧ RT w.heap (fun b => b < w.heap.size) (.agg (E a)) v := by
  obtain ⟨cs, rfl, hs⟩ := okWide_struct ht hval
  obtain ⟨n, hn⟩ := hd
  obtain ⟨x, hx, rx⟩ := h n _ _ hn
  refine ⟨x, hx, ?_⟩
  simp only [RT]
  exact ⟨cs.toList, by simp, by simpa [Value.cells] using rx⟩
end
end Go.Proofs.Ytmgjhnengikbhaa.AM
end
section
set_option linter.unusedSimpArgs false
set_option linter.unusedVariables false
/- Slices that came in, and what is done with them. -/
set_option linter.unusedVariables false
set_option linter.unusedSimpArgs false
namespace Go.Proofs.Ytmgjhnengikbhaa.AM

/-- A slice without a place, whose elements are those of l. -/
def IsSl {α : Type} (E : α → List Tree) (l : List α) (v : V) : Prop := (l = [] ∧ v = nilSl) ∨ ∃ cap, v = .tr (.row (l.flatMap E) l.length cap)

section
variable {α : Type} {E : α → List Tree} {c : Nat} {l : List α} {v : V} {σ : Store}

theorem flat_len (hE : ∀ a, (E a).length = c) : ∀ (l : List α), (l.flatMap E).length = l.length * c
  | [] => by simp
  | a :: l => by
    rw [List.flatMap_cons, List.length_append, hE, flat_len hE l, List.length_cons, Nat.add_mul]
    omega
theorem flat_drop (hE : ∀ a, (E a).length = c) : ∀ (l : List α) (n : Nat), (l.flatMap E).drop (n * c) = (l.drop n).flatMap E
  | l, 0 => by simp
  | [], n + 1 => by simp
  | a :: l, n + 1 => by
    rw [List.flatMap_cons, List.drop_succ_cons, ← flat_drop hE l n, show (n + 1) * c = (E a).length + n * c by rw [hE, Nat.add_mul]; omega, ← List.drop_drop, List.drop_left]
theorem flat_take (hE : ∀ a, (E a).length = c) : ∀ (l : List α) (n : Nat), (l.flatMap E).take (n * c) = (l.take n).flatMap E
  | l, 0 => by simp
  | [], n + 1 => by simp
  | a :: l, n + 1 => by
    rw [List.flatMap_cons, List.take_succ_cons, List.flatMap_cons, ← flat_take hE l n, show (n + 1) * c = (E a).length + n * c by rw [hE, Nat.add_mul]; omega, List.take_append]
    rw [List.take_of_length_le (by omega)]
    congr 2
    omega
theorem flat_at (hE : ∀ a, (E a).length = c) {i : Nat} {a : α} (h : l[i]? = some a) : ((l.flatMap E).drop (i * c)).take c = E a := by
  have hi := (List.getElem?_eq_some_iff.1 h).1
  rw [flat_drop hE, List.drop_eq_getElem_cons hi, List.flatMap_cons]
  have : l[i] = a := (List.getElem?_eq_some_iff.1 h).2
  rw [this, ← hE a, List.take_left]
theorem slice_flat (hE : ∀ a, (E a).length = c) {i o s : Nat} {a : α} (h : l[i]? = some a) (hs : o + s ≤ c) : slice? (l.flatMap E) (i * c + o) s = some (((E a).drop o).take s) := by
  have e : ((l.flatMap E).drop (i * c + o)).take s = ((E a).drop o).take s := by
    rw [← flat_at hE h, List.drop_take, List.take_take, List.drop_drop]
    congr 1
    omega
  unfold slice?
  simp only [e]
  rw [if_pos]
  rw [List.length_take, List.length_drop, hE]
  omega

theorem isSl_len (h : IsSl E l v) : opLen 1 v σ = some (.tr (.sc (.int .i64 l.length))) := by
  rcases h with ⟨rfl, rfl⟩ | ⟨cap, rfl⟩ <;> rfl
theorem asIdx_nat (k : IntKind) (n : Nat) : asIdx? (.tr (.sc (.int k (n : Int)))) = some n := by
  show (if 0 ≤ (n : Int) then some (n : Int).toNat else none) = some n
  rw [if_pos (by omega)]
  congr 1
theorem isSl_iaddr (h : IsSl E l v) (hE : ∀ a, (E a).length = c) (hc : 0 < c) {k : IntKind} {i : Nat} {a : α} (hi : l[i]? = some a) :
    opIaddr c v (.tr (.sc (.int k (i : Int)))) σ = some (.tr (.rptr (l.flatMap E) (i * c))) := by
  have hlt := (List.getElem?_eq_some_iff.1 hi).1
  rcases h with ⟨rfl, rfl⟩ | ⟨cap, rfl⟩
  · simp at hi
  · unfold opIaddr
    rw [asIdx_nat]
    simp only
    have hne : (l.flatMap E).isEmpty = false := by
      have := flat_len hE l
      cases hf : l.flatMap E with
      | nil =>
        rw [hf, List.length_nil] at this
        have h1 : 0 < l.length * c := Nat.mul_pos (by omega) hc
        omega
      | cons x y => rfl
    rw [if_pos ⟨hlt, hne⟩]
theorem rptr_load (hE : ∀ a, (E a).length = c) {i o s : Nat} {agg : Bool} {a : α} (hi : l[i]? = some a) (hs : o + s ≤ c) : opLoad s agg (.tr (.rptr (l.flatMap E) (i * c + o))) σ = ofCells agg ((((E a).drop o).take s).map .tr) := by
  simp only [opLoad, slice_flat hE hi hs]
theorem rptr_load0 (hE : ∀ a, (E a).length = c) {i s : Nat} {agg : Bool} {a : α} (hi : l[i]? = some a) (hs : s ≤ c) : opLoad s agg (.tr (.rptr (l.flatMap E) (i * c))) σ = ofCells agg (((E a).take s).map .tr) := by
  have := rptr_load (σ := σ) (agg := agg) hE (o := 0) (s := s) hi (by omega)
  simpa using this
theorem rptr_faddr (o n : Nat) : opFaddr o (.tr (.rptr (l.flatMap E) n)) = some (.tr (.rptr (l.flatMap E) (n + o))) := rfl

theorem isSl_cut (h : IsSl E l v) (hE : ∀ a, (E a).length = c) {k k' : IntKind} {lo hi : Nat} (h1 : lo ≤ hi) (h2 : hi ≤ l.length) :
    ∃ v', opSlice c v (some (.tr (.sc (.int k (lo : Int))))) (some (.tr (.sc (.int k' (hi : Int))))) none σ = some v' ∧ IsSl E ((l.take hi).drop lo) v' := by
  rcases h with ⟨rfl, rfl⟩ | ⟨cap, rfl⟩
  · have h3 : hi = 0 := by simpa using h2
    subst h3
    have h4 : lo = 0 := by omega
    subst h4
    exact ⟨nilSl, by rfl, .inl ⟨by simp, rfl⟩⟩
  · refine ⟨_, ?_, .inr ⟨cutCap cap none lo, rfl⟩⟩
    unfold opSlice
    simp only [optIdx, asIdx_nat, Option.isSome_none, Bool.false_and, Bool.false_eq_true, if_false, Option.getD_some, Option.getD_none]
    rw [if_pos ⟨h1, h2, Nat.le_refl _, .inl h2, flat_len hE l⟩]
    congr 3
    · rw [flat_drop hE, flat_take hE, List.drop_take]
    · rw [List.length_drop, List.length_take]; omega
theorem isSl_cut_hi (h : IsSl E l v) (hE : ∀ a, (E a).length = c) {k' : IntKind} {hi : Nat} (h2 : hi ≤ l.length) :
    ∃ v', opSlice c v none (some (.tr (.sc (.int k' (hi : Int))))) none σ = some v' ∧ IsSl E (l.take hi) v' := by
  obtain ⟨v', h3, h4⟩ := isSl_cut (σ := σ) h hE (k := .i64) (k' := k') (lo := 0) (Nat.zero_le _) h2
  refine ⟨v', ?_, by simpa using h4⟩
  rw [← h3]
  unfold opSlice
  simp only [optIdx, asIdx_nat, Option.getD_some, Option.getD_none]
theorem isSl_cut_lo (h : IsSl E l v) (hE : ∀ a, (E a).length = c) {k : IntKind} {lo : Nat} (h1 : lo ≤ l.length) :
    ∃ v', opSlice c v (some (.tr (.sc (.int k (lo : Int))))) none none σ = some v' ∧ IsSl E (l.drop lo) v' := by
  rcases h with ⟨rfl, rfl⟩ | ⟨cap, rfl⟩
  · have h3 : lo = 0 := by simpa using h1
    subst h3
    exact ⟨nilSl, by rfl, .inl ⟨by simp, rfl⟩⟩
  · refine ⟨_, ?_, .inr ⟨cutCap cap none lo, rfl⟩⟩
    unfold opSlice
    simp only [optIdx, asIdx_nat, Option.isSome_none, Bool.false_and, Bool.false_eq_true, if_false, Option.getD_some, Option.getD_none]
    rw [if_pos ⟨h1, Nat.le_refl _, Nat.le_refl _, .inl (Nat.le_refl _), flat_len hE l⟩]
    congr 3
    · rw [flat_drop hE]
      rw [List.take_of_length_le]
      rw [flat_len hE, List.length_drop]
      exact Nat.le_refl _
    · rw [List.length_drop]
end

/-- A byte's one cell. -/
def byE (b : UInt8) : List Tree := [.sc (.int .u8 (b.toNat : Int))]
theorem byE_len (b : UInt8) : (byE b).length = 1 := rfl
theorem byE_bytes : ∀ (l : List UInt8), bytesOf? ((l.flatMap byE).map .tr) = some l
  | [] => rfl
  | b :: l => by
    have hb := b.toNat_lt
    simp only [List.flatMap_cons, byE, List.cons_append, List.nil_append, List.map_cons, bytesOf?]
    rw [if_pos ⟨by omega, by omega⟩]
    have h := byE_bytes l
    rw [h]
    simp
theorem byE_at (b : UInt8) : ofCells false (((byE b).take 1).map .tr) = some (.tr (.sc (.int .u8 (b.toNat : Int)))) := rfl

section
variable {H : Type} {enc : TypeId × Value → H} {P : Program} {w : World}
/-- Any slice of bytes. -/
theorem opens_bytes {n : Nat} {t e : TypeId} (ht : P.underlying t = some (.slice e)) (he : P.underlying e = some (.int .u8)) (hc : P.cellsOf e = 1) : Opens enc P w n t (slE byE) (slOk fun _ => True) := by
  exact opens_slice ht hc byE_len fun m _ => (opens_int he).map (fun z => UInt8.ofNat z.toNat) (fun z hz => by
    simp only [Lit.wf, Bool.and_eq_true, decide_eq_true_eq] at hz
    have h0 : (0 : Int) ≤ z := hz.1
    have h1 : z ≤ 255 := hz.2
    simp only [byE, UInt8.toNat_ofNat']
    congr 3
    omega) (fun _ _ => trivial)
end
end Go.Proofs.Ytmgjhnengikbhaa.AM
end
section
set_option linter.unusedSimpArgs false
set_option linter.unusedVariables false
/- What must hold so that code runs and ends well: for proofs by hand. -/
set_option linter.unusedVariables false
set_option linter.unusedSimpArgs false
namespace Go.Proofs.Ytmgjhnengikbhaa.AM

/-- The code ends, and so. -/
def Wp (T : FTab) (c : HCode) (st : St) (Q : Out → St → Prop) : Prop := ∃ o s, Ex T c st o s ∧ Q o s
def okP (o : Option St) (K : St → Prop) : Prop := ∃ s, o = some s ∧ K s
theorem okP_some {s : St} {K : St → Prop} : okP (some s) K ↔ K s := by
  constructor
  · rintro ⟨_, h, k⟩; cases h; exact k
  · exact fun k => ⟨s, rfl, k⟩
theorem okP_mono {o : Option St} {K K' : St → Prop} (h : okP o K) (hk : ∀ s, K s → K' s) : okP o K' := by
  obtain ⟨s, e, k⟩ := h
  exact ⟨s, e, hk s k⟩
def thenN (K : St → Prop) (Q : Out → St → Prop) : Out → St → Prop
  | .normal, s => K s
  | .exit i, s => Q (.exit i) s
  | .ret, s => Q .ret s
def blk (i : Nat) (Q : Out → St → Prop) : Out → St → Prop
  | .normal, s => Q .normal s
  | .exit j, s => if j = i then Q .normal s else Q (.exit j) s
  | .ret, s => Q .ret s
theorem thenN_n {K : St → Prop} {Q : Out → St → Prop} {s : St} : thenN K Q .normal s = K s := rfl
theorem thenN_e {K : St → Prop} {Q : Out → St → Prop} {s : St} {i : Nat} : thenN K Q (.exit i) s = Q (.exit i) s := rfl
theorem thenN_r {K : St → Prop} {Q : Out → St → Prop} {s : St} : thenN K Q .ret s = Q .ret s := rfl
theorem blk_n {Q : Out → St → Prop} {s : St} {i : Nat} : blk i Q .normal s = Q .normal s := rfl
theorem blk_r {Q : Out → St → Prop} {s : St} {i : Nat} : blk i Q .ret s = Q .ret s := rfl
theorem blk_e {Q : Out → St → Prop} {s : St} {i : Nat} : blk i Q (.exit i) s = Q .normal s := if_pos rfl
theorem blk_o {Q : Out → St → Prop} {s : St} {i j : Nat} (h : j ≠ i) : blk i Q (.exit j) s = Q (.exit j) s := if_neg h

variable {T : FTab} {st : St} {Q Q' : Out → St → Prop} {a b : HCode}
theorem Wp.mono (h : Wp T a st Q) (hq : ∀ o s, Q o s → Q' o s) : Wp T a st Q' := by
  obtain ⟨o, s, e, q⟩ := h
  exact ⟨o, s, e, hq o s q⟩
theorem wp_skip (h : Q .normal st) : Wp T .skip st Q := ⟨_, _, ex_skip, h⟩
theorem wp_ret (h : Q .ret st) : Wp T .ret st Q := ⟨_, _, ex_ret, h⟩
theorem wp_exit {i : Nat} (h : Q (.exit i) st) : Wp T (.exit i) st Q := ⟨_, _, ex_exit i, h⟩
theorem wp_seq (h : Wp T a st (thenN (fun s => Wp T b s Q) Q)) : Wp T (.seq a b) st Q := by
  obtain ⟨o, s, e, q⟩ := h
  cases o with
  | normal =>
    obtain ⟨o', s', e', q'⟩ := q
    exact ⟨o', s', ex_seq e e', q'⟩
  | exit i => exact ⟨_, _, ex_stop e (by simp), q⟩
  | ret => exact ⟨_, _, ex_stop e (by simp), q⟩
theorem wp_region {ops : List HOp} (m : Nat) (h : okP (opsRun (callA T m) ops { st with loc := [] }) (Q .normal)) : Wp T (.region ops none) st Q := by
  obtain ⟨s, e, q⟩ := h
  exact ⟨_, _, ex_region ⟨m, e⟩, q⟩
theorem wp_regionD {ops : List HOp} {is : List (Nat × List Nat)} (m : Nat) (h : okP (opsRunD (callA T m) 0 [] is ops { st with loc := [] }) (Q .normal)) : Wp T (.region ops (some is)) st Q := by
  obtain ⟨s, e, q⟩ := h
  exact ⟨.normal, s, ⟨m + 1, by rw [exec]; simp only [regionRun, e]⟩, q⟩
theorem wp_cond {x : HO} (v : Bool) (hx : st.get x = some (.tr (.sc (.bool v)))) (ht : v = true → Wp T a st Q) (hf : v = false → Wp T b st Q) : Wp T (.cond x a b) st Q := by
  cases v with
  | true => obtain ⟨o, s, e, q⟩ := ht rfl; exact ⟨o, s, ex_true hx e, q⟩
  | false => obtain ⟨o, s, e, q⟩ := hf rfl; exact ⟨o, s, ex_false hx e, q⟩
theorem wp_true {x : HO} (hx : st.get x = some (.tr (.sc (.bool true)))) (h : Wp T a st Q) : Wp T (.cond x a b) st Q := wp_cond true hx (fun _ => h) (by simp)
theorem wp_false {x : HO} (hx : st.get x = some (.tr (.sc (.bool false)))) (h : Wp T b st Q) : Wp T (.cond x a b) st Q := wp_cond false hx (by simp) (fun _ => h)
theorem wp_block {i : Nat} (h : Wp T a st (blk i Q)) : Wp T (.block i a) st Q := by
  obtain ⟨o, s, e, q⟩ := h
  cases o with
  | normal => exact ⟨_, _, ex_block e, q⟩
  | ret => exact ⟨_, _, ex_block_ret e, q⟩
  | exit j =>
    by_cases hj : j = i
    · subst hj
      rw [blk_e] at q
      exact ⟨_, _, ex_block_exit e, q⟩
    · rw [blk_o hj] at q
      obtain ⟨m, e⟩ := e
      exact ⟨.exit j, s, ⟨m + 1, by rw [exec]; simp only [e, if_neg hj]⟩, q⟩
/-- A loop whose rounds come to an end. -/
theorem wp_loop (I : Nat → St → Prop) (hr : ∀ n s, I n s → Wp T a s (thenN (fun s' => ∃ k, k < n ∧ I k s') Q)) : ∀ n s, I n s → Wp T (.loop a) s Q := by
  intro n
  induction n using Nat.strongRecOn with
  | ind n ih =>
    intro s hs
    obtain ⟨o, s', e, q⟩ := hr n s hs
    cases o with
    | normal =>
      obtain ⟨k, hk, hI⟩ := q
      obtain ⟨o', s2, e', q'⟩ := ih k hk s' hI
      exact ⟨o', s2, ex_loop e e', q'⟩
    | exit i => exact ⟨_, _, ex_loop_out e (by simp), q⟩
    | ret => exact ⟨_, _, ex_loop_out e (by simp), q⟩
theorem cl_wp {f : FuncId} {fn : HFn} {vs : List V} {σ σ' : Store} {v : V} (hf : T f = some fn) (hm : fn.mode = .shared) (hl : fn.nargs = vs.length)
    (h : Wp T fn.code ⟨argsEnv vs 0, [], σ⟩ (fun o s => (o = .normal ∨ o = .ret) ∧ resultA s fn.results = some v ∧ s.σ = σ')) : Cl T f vs σ v σ' := by
  obtain ⟨o, s, e, ho, hr, rfl⟩ := h
  exact cl_of hf hm hl e ho hr
end Go.Proofs.Ytmgjhnengikbhaa.AM
end
