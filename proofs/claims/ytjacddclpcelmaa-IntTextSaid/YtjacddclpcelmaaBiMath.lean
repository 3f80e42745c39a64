/- Digits and their numbers: plain lemmas. -/
namespace Go.Proofs.Ytjacddclpcelmaa.AM.Bi

/-- A number's worth, the lowest digit first. -/
def val (B : Nat) : List Nat → Nat
  | [] => 0
  | d :: l => d + B * val B l
/-- Digits below the base. -/
def dig (B : Nat) (l : List Nat) : Prop := ∀ d ∈ l, d < B
/-- How many digits are left without zeros at the end. -/
def tlen (l : List Nat) : Nat → Nat
  | 0 => 0
  | n + 1 => if l[n]? = some 0 then tlen l n else n + 1
def trim (l : List Nat) : List Nat := l.take (tlen l l.length)
def can (l : List Nat) : Prop := l.getLast? ≠ some 0

theorem val_append (B : Nat) : ∀ (a b : List Nat), val B (a ++ b) = val B a + B ^ a.length * val B b
  | [], b => by simp [val]
  | d :: a, b => by
    simp only [List.cons_append, val, val_append B a b, List.length_cons, Nat.pow_succ, Nat.mul_add]
    rw [Nat.mul_comm (B ^ a.length) B, Nat.mul_assoc, Nat.add_assoc]
theorem dig_nil (B : Nat) : dig B [] := fun d h => by cases h
theorem dig_cons {B d : Nat} {l : List Nat} : dig B (d :: l) ↔ d < B ∧ dig B l := by simp [dig]
theorem dig_append {B : Nat} {a b : List Nat} : dig B (a ++ b) ↔ dig B a ∧ dig B b := by
  simp only [dig, List.mem_append]
  exact ⟨fun h => ⟨fun d hd => h d (.inl hd), fun d hd => h d (.inr hd)⟩, fun h d hd => hd.elim (h.1 d) (h.2 d)⟩
theorem dig_take {B n : Nat} {l : List Nat} (h : dig B l) : dig B (l.take n) := fun d hd => h d (List.mem_of_mem_take hd)
theorem dig_drop {B n : Nat} {l : List Nat} (h : dig B l) : dig B (l.drop n) := fun d hd => h d (List.mem_of_mem_drop hd)
theorem dig_at {B i : Nat} {l : List Nat} (h : dig B l) (hi : i < l.length) : l[i] < B := h _ (List.getElem_mem hi)
theorem dig_set {B i x : Nat} {l : List Nat} (h : dig B l) (hx : x < B) : dig B (l.set i x) := by
  intro d hd
  rcases List.mem_or_eq_of_mem_set hd with h1 | h1
  · exact h d h1
  · omega
theorem dig_rep {B n : Nat} (hB : 0 < B) : dig B (List.replicate n 0) := by
  intro d hd
  rw [List.eq_of_mem_replicate hd]
  exact hB
theorem val_lt {B : Nat} : ∀ {l : List Nat}, dig B l → val B l < B ^ l.length
  | [], _ => by simp [val]
  | d :: l, h => by
    have h1 := val_lt (dig_cons.1 h).2
    have h2 := (dig_cons.1 h).1
    simp only [val, List.length_cons, Nat.pow_succ]
    have h3 : B * (val B l + 1) ≤ B * B ^ l.length := Nat.mul_le_mul_left B h1
    rw [Nat.mul_add, Nat.mul_comm B (B ^ l.length)] at h3
    omega
theorem val_rep (B : Nat) : ∀ n, val B (List.replicate n 0) = 0
  | 0 => rfl
  | n + 1 => by simp [List.replicate_succ, val, val_rep B n]
theorem val_take_drop (B n : Nat) (l : List Nat) (h : n ≤ l.length) : val B l = val B (l.take n) + B ^ n * val B (l.drop n) := by
  have := val_append B (l.take n) (l.drop n)
  rw [List.take_append_drop, List.length_take, Nat.min_eq_left h] at this
  exact this
theorem val_take_succ {B i : Nat} {l : List Nat} (h : i < l.length) : val B (l.take (i + 1)) = val B (l.take i) + B ^ i * l[i] := by
  rw [List.take_succ_eq_append_getElem h, val_append]
  simp [val, List.length_take, Nat.min_eq_left (Nat.le_of_lt h)]
theorem val_set {B i x : Nat} : ∀ {l : List Nat} (h : i < l.length), val B (l.set i x) + B ^ i * l[i] = val B l + B ^ i * x := by
  induction i with
  | zero =>
    intro l h
    cases l with
    | nil => simp at h
    | cons d l => simp [val]; omega
  | succ i ih =>
    intro l h
    cases l with
    | nil => simp at h
    | cons d l =>
      have h' : i < l.length := by simpa using h
      have := ih (l := l) h'
      have h2 : B * (val B (l.set i x) + B ^ i * l[i]) = B * (val B l + B ^ i * x) := by rw [this]
      simp only [List.set_cons_succ, val, List.getElem_cons_succ, Nat.pow_succ]
      rw [Nat.mul_add, Nat.mul_add] at h2
      have e1 : B * (B ^ i * l[i]) = B ^ i * B * l[i] := by rw [← Nat.mul_assoc, Nat.mul_comm B]
      have e2 : B * (B ^ i * x) = B ^ i * B * x := by rw [← Nat.mul_assoc, Nat.mul_comm B]
      omega

theorem tlen_le (l : List Nat) : ∀ n, tlen l n ≤ n
  | 0 => Nat.le_refl _
  | n + 1 => by
    unfold tlen
    have := tlen_le l n
    split <;> omega
theorem tlen_zero {l : List Nat} : ∀ {n i : Nat}, tlen l n ≤ i → i < n → l[i]? = some 0
  | 0, i, _, h => by omega
  | n + 1, i, h, h2 => by
    unfold tlen at h
    split at h
    · rename_i h0
      by_cases hi : i = n
      · rw [hi]; exact h0
      · exact tlen_zero h (by omega)
    · omega
theorem tlen_last {l : List Nat} : ∀ {n m : Nat}, tlen l n = m + 1 → l[m]? ≠ some 0
  | 0, m, h => by simp [tlen] at h
  | n + 1, m, h => by
    unfold tlen at h
    split at h
    · exact tlen_last h
    · rename_i h0
      have : n = m := by omega
      rw [← this]; exact h0
theorem val_zeros {B : Nat} : ∀ {l : List Nat}, (∀ d ∈ l, d = 0) → val B l = 0
  | [], _ => rfl
  | d :: l, h => by
    have h1 : d = 0 := h d List.mem_cons_self
    have h2 : val B l = 0 := val_zeros (fun x hx => h x (List.mem_cons_of_mem _ hx))
    simp [val, h1, h2]
theorem val_trim (B : Nat) (l : List Nat) : val B (trim l) = val B l := by
  have h := val_take_drop B (tlen l l.length) l (tlen_le l _)
  rw [h, val_zeros (l := l.drop (tlen l l.length))]
  · simp [trim]
  · intro d hd
    obtain ⟨i, hi, rfl⟩ := List.getElem_of_mem hd
    rw [List.getElem_drop]
    have hlt : tlen l l.length + i < l.length := by
      rw [List.length_drop] at hi
      omega
    have := tlen_zero (l := l) (n := l.length) (i := tlen l l.length + i) (by omega) hlt
    rw [List.getElem?_eq_getElem hlt] at this
    exact Option.some.inj this
theorem can_trim (l : List Nat) : can (trim l) := by
  unfold can trim
  intro h
  cases hm : tlen l l.length with
  | zero => rw [hm] at h; simp at h
  | succ m =>
    have h1 := tlen_last hm
    have h2 := tlen_le l l.length
    have hlt : m < l.length := by omega
    rw [hm, List.take_succ_eq_append_getElem hlt, List.getLast?_append] at h
    simp at h
    rw [List.getElem?_eq_getElem hlt] at h1
    exact h1 (by rw [h])
theorem trim_le (l : List Nat) : (trim l).length ≤ l.length := by
  unfold trim
  rw [List.length_take]
  exact Nat.min_le_right _ _
theorem dig_trim {B : Nat} {l : List Nat} (h : dig B l) : dig B (trim l) := dig_take h
theorem can_nil : can [] := by simp [can]
theorem can_tail {d : Nat} {l : List Nat} (h : can (d :: l)) : can l := by
  unfold can at h ⊢
  cases l with
  | nil => simp
  | cons e l => simpa [List.getLast?_cons_cons] using h
theorem can_zero {B : Nat} (hB : 0 < B) : ∀ {l : List Nat}, can l → val B l = 0 → l = []
  | [], _, _ => rfl
  | d :: l, h, h0 => by
    simp only [val] at h0
    have h1 : d = 0 := by omega
    have h2 : B * val B l = 0 := by omega
    have h3 : val B l = 0 := by
      rcases Nat.mul_eq_zero.1 h2 with h | h
      · omega
      · exact h
    have h4 := can_zero hB (can_tail h) h3
    subst h4
    subst h1
    simp [can] at h
/-- Numbers have one row of digits without zeros at the end. -/
theorem can_inj {B : Nat} (hB : 0 < B) : ∀ {a b : List Nat}, dig B a → dig B b → can a → can b → val B a = val B b → a = b
  | [], b, _, _, _, hb, h => (can_zero hB hb h.symm).symm
  | a :: l, [], _, _, ha, _, h => can_zero hB ha h
  | x :: a, y :: b, da, db, ha, hb, h => by
    have h1 := (dig_cons.1 da).1
    have h2 := (dig_cons.1 db).1
    simp only [val] at h
    have e1 : x = y := by
      have := congrArg (· % B) h
      simpa [Nat.add_mul_mod_self_left, Nat.mod_eq_of_lt h1, Nat.mod_eq_of_lt h2] using this
    have e2 : val B a = val B b := by
      subst e1
      exact Nat.eq_of_mul_eq_mul_left hB (by omega)
    rw [e1, can_inj hB (dig_cons.1 da).2 (dig_cons.1 db).2 (can_tail ha) (can_tail hb) e2]
theorem trim_of_can {l : List Nat} (h : can l) : trim l = l := by
  unfold trim
  cases hl : l.length with
  | zero => rw [List.length_eq_zero_iff.1 hl]; rfl
  | succ n =>
    have hlt : n < l.length := by omega
    have : tlen l (n + 1) = n + 1 := by
      unfold tlen
      rw [if_neg]
      unfold can at h
      rwa [List.getLast?_eq_getElem?, hl] at h
    rw [this, List.take_of_length_le (by omega)]
/-- The lengths of canonical rows follow their numbers. -/
theorem can_ge {B : Nat} (hB : 0 < B) {l : List Nat} (h : can l) (hl : l ≠ []) : B ^ (l.length - 1) ≤ val B l := by
  cases hn : l.length with
  | zero => exact absurd (List.length_eq_zero_iff.1 hn) hl
  | succ n =>
    have hlt : n < l.length := by omega
    have h1 := val_take_drop B n l (by omega)
    have h2 : l.drop n = [l[n]] := by
      rw [List.drop_eq_getElem_cons hlt, List.drop_of_length_le (by omega)]
    have h3 : l[n] ≠ 0 := by
      intro h0
      unfold can at h
      rw [List.getLast?_eq_getElem?, hn] at h
      simp only [Nat.add_sub_cancel] at h
      rw [List.getElem?_eq_getElem hlt, h0] at h
      exact h rfl
    rw [h1, h2]
    simp only [val, Nat.mul_zero, Nat.add_zero, Nat.add_sub_cancel]
    have := Nat.mul_le_mul_left (B ^ n) (show 1 ≤ l[n] by omega)
    omega
/-- A digit, or 0 behind the end. -/
def at0 (l : List Nat) (i : Nat) : Nat := l[i]?.getD 0
theorem at0_lt {l : List Nat} {i : Nat} (h : i < l.length) : at0 l i = l[i] := by simp [at0, List.getElem?_eq_getElem h]
theorem at0_ge {l : List Nat} {i : Nat} (h : l.length ≤ i) : at0 l i = 0 := by simp [at0, List.getElem?_eq_none h]
theorem at0_dig {B : Nat} (hB : 0 < B) {l : List Nat} (h : dig B l) (i : Nat) : at0 l i < B := by
  by_cases hi : i < l.length
  · rw [at0_lt hi]; exact dig_at h hi
  · rw [at0_ge (by omega)]; exact hB
theorem val_take_at0 (B i : Nat) (l : List Nat) : val B (l.take (i + 1)) = val B (l.take i) + B ^ i * at0 l i := by
  by_cases h : i < l.length
  · rw [at0_lt h, val_take_succ h]
  · rw [at0_ge (by omega), List.take_of_length_le (by omega), List.take_of_length_le (by omega)]
    simp
theorem take_set {l : List Nat} {i x : Nat} (h : i < l.length) : (l.set i x).take (i + 1) = l.take i ++ [x] := by
  rw [List.take_succ_eq_append_getElem (by simpa using h)]
  congr 1
  · rw [List.take_set_of_le (Nat.le_refl _)]
  · simp
theorem val_take_set {B i x : Nat} {l : List Nat} (h : i < l.length) : val B ((l.set i x).take (i + 1)) = val B (l.take i) + B ^ i * x := by
  rw [take_set h, val_append, List.length_take, Nat.min_eq_left (Nat.le_of_lt h)]
  simp [val]
/-- One digit more. -/
theorem val_step {B i c w V : Nat} {out : List Nat} (hi : i < out.length) (h : val B (out.take i) + B ^ i * c = V) :
    val B ((out.set i ((c + w) % B)).take (i + 1)) + B ^ (i + 1) * ((c + w) / B) = V + B ^ i * w := by
  rw [val_take_set hi, ← h, Nat.pow_succ, Nat.mul_assoc, Nat.add_assoc, ← Nat.mul_add, Nat.mod_add_div, Nat.mul_add, Nat.add_assoc]
theorem dig_set_mod {B i x : Nat} {l : List Nat} (hB : 0 < B) (h : dig B l) : dig B (l.set i (x % B)) := dig_set h (Nat.mod_lt _ hB)
theorem cmp_at {B i : Nat} {a b : List Nat} (hB : 0 < B) (da : dig B a) (db : dig B b) (hl : a.length = b.length) (hi : i < a.length) (hd : a.drop (i + 1) = b.drop (i + 1)) (hlt : a[i] < b[i]'(hl ▸ hi)) : val B a < val B b := by
  have hb : i < b.length := hl ▸ hi
  have e1 := val_take_drop B i a (by omega)
  have e2 := val_take_drop B i b (by omega)
  rw [List.drop_eq_getElem_cons hi, val] at e1
  rw [List.drop_eq_getElem_cons hb, val, ← hd] at e2
  have h1 := val_lt (dig_take (n := i) da)
  rw [List.length_take, Nat.min_eq_left (by omega)] at h1
  have h2 : B ^ i * (a[i] + 1) ≤ B ^ i * b[i] := Nat.mul_le_mul_left _ hlt
  rw [Nat.mul_add] at e1 e2 h2
  omega
theorem len_lt {B : Nat} (hB : 0 < B) {a b : List Nat} (da : dig B a) (cb : can b) (h : a.length < b.length) : val B a < val B b := by
  have h1 := val_lt da
  have h2 := can_ge hB cb (by intro h0; subst h0; simp at h)
  have h3 : B ^ a.length ≤ B ^ (b.length - 1) := Nat.pow_le_pow_right hB (by omega)
  omega

end Go.Proofs.Ytjacddclpcelmaa.AM.Bi
