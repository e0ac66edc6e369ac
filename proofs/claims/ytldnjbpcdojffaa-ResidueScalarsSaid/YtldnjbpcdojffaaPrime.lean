/- Plain law: powers modulo a number by a short computation; a number with an element of full order is prime (Lucas), every residue but 0 is a power of that element. -/
namespace Go.Proofs.Ytldnjbpcdojffaa
set_option linter.unusedVariables false
set_option linter.unusedSimpArgs false
namespace Pl

/-- b^e modulo n by halving e. -/
def powm (n : Nat) : Nat → Nat → Nat → Nat
  | 0, _, _ => 1 % n
  | f + 1, b, e => if e % 2 = 1 then powm n f (b * b % n) (e / 2) * b % n else powm n f (b * b % n) (e / 2)

theorem pow_mod_congr (a b k n : Nat) (h : a % n = b % n) : a ^ k % n = b ^ k % n := by
  rw [Nat.pow_mod, h, ← Nat.pow_mod]

theorem powm_eq (n : Nat) : ∀ (f b e : Nat), e < 2 ^ f → powm n f b e = b ^ e % n
  | 0, b, e, h => by
    have : e = 0 := by simpa using h
    subst this; simp [powm]
  | f + 1, b, e, h => by
    have h2 : e / 2 < 2 ^ f := by rw [Nat.pow_succ] at h; omega
    have ih := powm_eq n f (b * b % n) (e / 2) h2
    have e1 : (b * b % n) ^ (e / 2) % n = b ^ (2 * (e / 2)) % n := by
      rw [pow_mod_congr (b * b % n) (b * b) (e / 2) n (Nat.mod_mod _ _), Nat.pow_mul, Nat.pow_two]
    unfold powm
    rw [ih, e1]
    split
    · rename_i h1
      have : e = 2 * (e / 2) + 1 := by omega
      conv => rhs; rw [this, Nat.pow_succ]
      rw [Nat.mod_mul_mod]
    · rename_i h1
      have : e = 2 * (e / 2) := by omega
      conv => rhs; rw [this]

theorem inj_surj : ∀ (N : Nat) (f : Nat → Nat), (∀ i, i < N → f i < N) → (∀ i j, i < N → j < N → f i = f j → i = j) → ∀ y, y < N → ∃ i, i < N ∧ f i = y
  | 0, _, _, _, y, h => absurd h (Nat.not_lt_zero y)
  | N + 1, f, hr, hi, y, hy => by
    have hv := hr N (Nat.lt_succ_self N)
    have key := inj_surj N (fun i => if f i = N then f N else f i)
      (fun i h => by
        have h1 := hr i (by omega)
        try dsimp only
        split
        · rename_i e
          have : f N ≠ N := fun e2 => by have := hi i N (by omega) (by omega) (e.trans e2.symm); omega
          omega
        · omega)
      (fun i j h k e => by
        try dsimp only at e
        split at e <;> split at e
        · rename_i a b; exact hi i j (by omega) (by omega) (a.trans b.symm)
        · have := hi N j (by omega) (by omega) e; omega
        · have := hi i N (by omega) (by omega) e; omega
        · exact hi i j (by omega) (by omega) e)
    by_cases e1 : y = f N
    · exact ⟨N, by omega, e1.symm⟩
    · by_cases e2 : y = N
      · have hlt : f N < N := by omega
        obtain ⟨i, hi1, hi2⟩ := key (f N) hlt
        try dsimp only at hi2
        split at hi2
        · rename_i e; exact ⟨i, by omega, by omega⟩
        · have := hi i N (by omega) (by omega) hi2; omega
      · obtain ⟨i, hi1, hi2⟩ := key y (by omega)
        try dsimp only at hi2
        split at hi2
        · exact absurd hi2.symm e1
        · exact ⟨i, by omega, hi2⟩

/-- A map into fewer places meets one twice. -/
theorem pigeon (N M : Nat) (f : Nat → Nat) (hr : ∀ i, i < N → f i < M) (hi : ∀ i j, i < N → j < N → f i = f j → i = j) : N ≤ M := by
  by_cases h : N ≤ M
  · exact h
  · exfalso
    obtain ⟨i, hi1, hi2⟩ := inj_surj (M + 1) f (fun i h' => by have := hr i (by omega); omega) (fun i j a b => hi i j (by omega) (by omega)) M (by omega)
    have := hr i (by omega)
    omega

def Prm (q : Nat) : Prop := 1 < q ∧ ∀ m, m ∣ q → m = 1 ∨ m = q

theorem Prm.coprime {q m : Nat} (h : Prm q) (hn : ¬ q ∣ m) : Nat.Coprime q m := by
  rcases h.2 (Nat.gcd q m) (Nat.gcd_dvd_left q m) with e | e
  · exact e
  · exact absurd (e ▸ Nat.gcd_dvd_right q m) hn

theorem Prm.dvd_mul {q a b : Nat} (h : Prm q) (hd : q ∣ a * b) : q ∣ a ∨ q ∣ b := by
  by_cases ha : q ∣ a
  · exact .inl ha
  · exact .inr ((h.coprime ha).dvd_of_dvd_mul_left hd)

def prod : List Nat → Nat
  | [] => 1
  | q :: l => q * prod l

theorem prime_factor (m : Nat) (hm : 1 < m) : ∀ (l : List Nat), (∀ q, q ∈ l → Prm q) → m ∣ prod l → ∃ q, q ∈ l ∧ q ∣ m := by
  intro l hl hd
  apply Classical.byContradiction
  intro hno
  have hc : ∀ (l : List Nat), (∀ q, q ∈ l → Prm q ∧ ¬ q ∣ m) → Nat.Coprime (prod l) m := by
    intro l
    induction l with
    | nil => intro _; simp [prod, Nat.Coprime]
    | cons q l ih =>
      intro h
      exact Nat.Coprime.mul_left ((h q (by simp)).1.coprime (h q (by simp)).2) (ih fun x hx => h x (by simp [hx]))
  have := hc l fun q hq => ⟨hl q hq, fun hd => hno ⟨q, hq, hd⟩⟩
  have h1 : Nat.gcd (prod l) m = m := Nat.gcd_eq_right hd
  unfold Nat.Coprime at this
  omega

theorem prod_div {l : List Nat} {q : Nat} (h : q ∈ l) : q ∣ prod l := by
  induction l with
  | nil => simp at h
  | cons x l ih =>
    rcases List.mem_cons.1 h with e | e
    · subst e; exact ⟨_, rfl⟩
    · exact Nat.dvd_trans (ih e) ⟨x, by simp [prod, Nat.mul_comm]⟩

theorem least (p : Nat → Prop) (n : Nat) (h : p n) : ∃ d, p d ∧ ∀ j, j < d → ¬ p j := by
  induction n using Nat.strongRecOn with
  | ind n ih =>
    by_cases hx : ∃ j, j < n ∧ p j
    · obtain ⟨j, hj, hp⟩ := hx
      exact ih j hj hp
    · exact ⟨n, h, fun j hj hp => hx ⟨j, hj, hp⟩⟩

theorem pow_mul_one {n g a : Nat} (h1 : 1 < n) (h : g ^ a % n = 1) (k : Nat) : g ^ (a * k) % n = 1 := by
  rw [Nat.pow_mul, Nat.pow_mod, h, Nat.one_pow, Nat.mod_eq_of_lt h1]

/-- If g has order n - 1 modulo n, each residue but 0 is a power of g. -/
theorem lucas_gen (n g : Nat) (fs : List Nat) (h1 : 1 < n) (hp : ∀ q, q ∈ fs → Prm q) (hprod : prod fs = n - 1) (hg : g ^ (n - 1) % n = 1)
    (hq : ∀ q, q ∈ fs → g ^ ((n - 1) / q) % n ≠ 1) : (∀ i j, i < n - 1 → j < n - 1 → g ^ i % n = g ^ j % n → i = j) ∧ ∀ a, 0 < a → a < n → ∃ k, k < n - 1 ∧ g ^ k % n = a := by
  obtain ⟨d, ⟨hd0, hd1⟩, hmin⟩ := least (fun d => 0 < d ∧ g ^ d % n = 1) (n - 1) ⟨by omega, hg⟩
  have hdiv : d ∣ n - 1 := by
    apply Nat.dvd_of_mod_eq_zero
    have e : g ^ (n - 1) % n = g ^ ((n - 1) % d) % n := by
      conv => lhs; rw [← Nat.div_add_mod (n - 1) d, Nat.pow_add, Nat.mul_mod, pow_mul_one h1 hd1, Nat.one_mul, Nat.mod_mod]
    rw [hg] at e
    have hlt := Nat.mod_lt (n - 1) hd0
    by_cases h0 : (n - 1) % d = 0
    · exact h0
    · exact absurd ⟨by omega, e.symm⟩ (hmin _ hlt)
  have hfull : d = n - 1 := by
    apply Classical.byContradiction
    intro hne
    obtain ⟨m, hm⟩ := hdiv
    have hm1 : 1 < m := by
      rcases m with _ | _ | m
      · simp at hm; omega
      · simp at hm; omega
      · omega
    obtain ⟨q, hqm, hqd⟩ := prime_factor m hm1 fs hp (by rw [hprod, hm]; exact ⟨d, Nat.mul_comm _ _⟩)
    obtain ⟨t, ht⟩ := hqd
    have hq0 : 0 < q := by have := (hp q hqm).1; omega
    have e : (n - 1) / q = d * t := by
      rw [hm, ht, Nat.mul_comm q t, ← Nat.mul_assoc, Nat.mul_div_cancel _ hq0]
    apply hq q hqm
    rw [e]
    exact pow_mul_one h1 hd1 t
  subst hfull
  have hinj : ∀ i j, i < n - 1 → j < n - 1 → i < j → g ^ i % n ≠ g ^ j % n := by
    intro i j hi hj hij e
    have e2 : (g ^ (n - 1 - i) * g ^ i) % n = (g ^ (n - 1 - i) * g ^ j) % n := by rw [Nat.mul_mod, e, ← Nat.mul_mod]
    rw [← Nat.pow_add, ← Nat.pow_add, show n - 1 - i + i = n - 1 from by omega, show n - 1 - i + j = (n - 1) + (j - i) from by omega, Nat.pow_add, Nat.mul_mod, hg, Nat.one_mul, Nat.mod_mod] at e2
    exact hmin (j - i) (by omega) ⟨by omega, e2.symm⟩
  have hne : ∀ i, i < n - 1 → g ^ i % n ≠ 0 := by
    intro i hi e
    have : g ^ (n - 1) % n = 0 := by
      rw [show n - 1 = i + (n - 1 - i) from by omega, Nat.pow_add, Nat.mul_mod, e, Nat.zero_mul, Nat.zero_mod]
    omega
  have hinj' : ∀ i j, i < n - 1 → j < n - 1 → g ^ i % n = g ^ j % n → i = j := by
    intro i j a b e
    rcases Nat.lt_trichotomy i j with h | h | h
    · exact absurd e (hinj i j a b h)
    · exact h
    · exact absurd e.symm (hinj j i b a h)
  refine ⟨hinj', fun a ha0 ha => ?_⟩
  obtain ⟨i, hi, he⟩ := inj_surj (n - 1) (fun i => g ^ i % n - 1)
    (fun i h => by have := hne i h; have := Nat.mod_lt (g ^ i) (show 0 < n by omega); omega)
    (fun i j h k e => by
      try dsimp only at e
      have := hne i h; have := hne j k
      exact hinj' i j h k (by omega))
    (a - 1) (by omega)
  try dsimp only at he
  have := hne i hi
  exact ⟨i, hi, by omega⟩

theorem lucas (n g : Nat) (fs : List Nat) (h1 : 1 < n) (hp : ∀ q, q ∈ fs → Prm q) (hprod : prod fs = n - 1) (hg : g ^ (n - 1) % n = 1)
    (hq : ∀ q, q ∈ fs → g ^ ((n - 1) / q) % n ≠ 1) : Prm n := by
  refine ⟨h1, fun m hm => ?_⟩
  have hle := Nat.le_of_dvd (by omega) hm
  by_cases e : m = n
  · exact .inr e
  · left
    have hm0 : 0 < m := Nat.pos_of_dvd_of_pos hm (by omega)
    obtain ⟨k, hk, hk2⟩ := (lucas_gen n g fs h1 hp hprod hg hq).2 m hm0 (by omega)
    have e1 : (m * g ^ (n - 1 - k)) % n = 1 := by
      rw [← hk2, Nat.mod_mul_mod, ← Nat.pow_add, show k + (n - 1 - k) = n - 1 from by omega, hg]
    have : m ∣ 1 := by
      rw [← e1]
      exact (Nat.dvd_mod_iff hm).2 ⟨_, rfl⟩
    exact Nat.dvd_one.1 this

/-- What the kernel is asked of a number: the powers of g. -/
def certOk (n g : Nat) (fs : List Nat) : Bool := decide (1 < n) && decide (prod fs = n - 1) && decide (n < 2 ^ 260) && (powm n 260 g (n - 1) == 1) && fs.all fun q => !(powm n 260 g ((n - 1) / q) == 1)

theorem cert_gen {n g : Nat} {fs : List Nat} (h : certOk n g fs = true) (hp : ∀ q, q ∈ fs → Prm q) :
    Prm n ∧ ((∀ i j, i < n - 1 → j < n - 1 → g ^ i % n = g ^ j % n → i = j) ∧ ∀ a, 0 < a → a < n → ∃ k, k < n - 1 ∧ g ^ k % n = a) ∧ g ^ (n - 1) % n = 1 := by
  simp only [certOk, Bool.and_eq_true, decide_eq_true_eq, beq_iff_eq, List.all_eq_true, Bool.not_eq_true', beq_eq_false_iff_ne] at h
  obtain ⟨⟨⟨⟨h1, h2⟩, h3⟩, h4⟩, h5⟩ := h
  have e : g ^ (n - 1) % n = 1 := by rw [← powm_eq n 260 g (n - 1) (by omega)]; exact h4
  have e2 : ∀ q, q ∈ fs → g ^ ((n - 1) / q) % n ≠ 1 := by
    intro q hq
    rw [← powm_eq n 260 g ((n - 1) / q) (Nat.lt_of_le_of_lt (Nat.div_le_self _ _) (by omega))]
    exact h5 q hq
  exact ⟨lucas n g fs h1 hp h2 e e2, lucas_gen n g fs h1 hp h2 e e2, e⟩

/-- Small primes by trial. -/
def smallOk (n : Nat) : Bool := decide (1 < n) && (List.range 300).all fun d => decide (d < 2) || decide (n ≤ d) || !(n % d == 0)

theorem small_prime {n : Nat} (hn : n < 90000) (h : smallOk n = true) : Prm n := by
  simp only [smallOk, Bool.and_eq_true, decide_eq_true_eq, List.all_eq_true, List.mem_range, Bool.or_eq_true, Bool.not_eq_true', beq_eq_false_iff_ne] at h
  obtain ⟨h1, h2⟩ := h
  refine ⟨h1, fun m ⟨t, ht⟩ => ?_⟩
  have hm0 : 0 < m := by rcases m with _ | m; simp at ht; omega; omega
  have ht0 : 0 < t := by rcases t with _ | t; simp at ht; omega; omega
  by_cases hm : m < 300
  · rcases h2 m hm with (h | h) | h
    · left; omega
    · right
      have : m ≤ n := by rw [ht]; exact Nat.le_mul_of_pos_right m ht0
      omega
    · exact absurd (by rw [ht]; exact Nat.mul_mod_right m t) h
  · have hs : t < 300 := by
      apply Classical.byContradiction
      intro hge
      have : 300 * 300 ≤ m * t := Nat.mul_le_mul (by omega) (by omega)
      omega
    rcases h2 t hs with (h | h) | h
    · right
      have : t = 1 := by omega
      subst this; omega
    · left
      have : m * t = t * m := Nat.mul_comm _ _
      have h3 : t ≤ n := by rw [ht]; exact Nat.le_mul_of_pos_left t hm0
      have h4 : n = t := by omega
      have h5 : m * t = 1 * t := by omega
      exact Nat.eq_of_mul_eq_mul_right ht0 h5
    · exact absurd (by rw [ht, Nat.mul_comm]; exact Nat.mul_mod_right t m) h

theorem prm_2 : Prm 2 := small_prime (by decide) (by decide +kernel)
theorem prm_3 : Prm 3 := small_prime (by decide) (by decide +kernel)
theorem prm_65147 : Prm 65147 := small_prime (by decide) (by decide +kernel)
theorem prm_353 : Prm 353 := small_prime (by decide) (by decide +kernel)
theorem prm_57467 : Prm 57467 := small_prime (by decide) (by decide +kernel)
theorem prm_7 : Prm 7 := small_prime (by decide) (by decide +kernel)
theorem prm_131 : Prm 131 := small_prime (by decide) (by decide +kernel)
theorem cert_132049 : certOk 132049 26 [2, 2, 2, 2, 3, 3, 7, 131] = true := by decide +kernel
theorem fac_132049 : ∀ q, q ∈ [2, 2, 2, 2, 3, 3, 7, 131] → Prm q := by
  intro q hq
  simp only [List.mem_cons, List.not_mem_nil, or_false] at hq
  rcases hq with rfl | rfl | rfl | rfl | rfl | rfl | rfl | rfl
  · exact prm_2
  · exact prm_2
  · exact prm_2
  · exact prm_2
  · exact prm_3
  · exact prm_3
  · exact prm_7
  · exact prm_131
theorem prm_132049 : Prm 132049 := (cert_gen cert_132049 fac_132049).1
theorem prm_43 : Prm 43 := small_prime (by decide) (by decide +kernel)
theorem prm_3727 : Prm 3727 := small_prime (by decide) (by decide +kernel)
theorem cert_1923133 : certOk 1923133 2 [2, 2, 3, 43, 3727] = true := by decide +kernel
theorem fac_1923133 : ∀ q, q ∈ [2, 2, 3, 43, 3727] → Prm q := by
  intro q hq
  simp only [List.mem_cons, List.not_mem_nil, or_false] at hq
  rcases hq with rfl | rfl | rfl | rfl | rfl
  · exact prm_2
  · exact prm_2
  · exact prm_3
  · exact prm_43
  · exact prm_3727
theorem prm_1923133 : Prm 1923133 := (cert_gen cert_1923133 fac_1923133).1
theorem prm_31 : Prm 31 := small_prime (by decide) (by decide +kernel)
theorem prm_107 : Prm 107 := small_prime (by decide) (by decide +kernel)
theorem prm_223 : Prm 223 := small_prime (by decide) (by decide +kernel)
theorem prm_4153 : Prm 4153 := small_prime (by decide) (by decide +kernel)
theorem prm_5 : Prm 5 := small_prime (by decide) (by decide +kernel)
theorem prm_1723 : Prm 1723 := small_prime (by decide) (by decide +kernel)
theorem cert_430751 : certOk 430751 17 [2, 5, 5, 5, 1723] = true := by decide +kernel
theorem fac_430751 : ∀ q, q ∈ [2, 5, 5, 5, 1723] → Prm q := by
  intro q hq
  simp only [List.mem_cons, List.not_mem_nil, or_false] at hq
  rcases hq with rfl | rfl | rfl | rfl | rfl
  · exact prm_2
  · exact prm_5
  · exact prm_5
  · exact prm_5
  · exact prm_1723
theorem prm_430751 : Prm 430751 := (cert_gen cert_430751 fac_430751).1
theorem cert_17d_855353 : certOk 31757755568855353 10 [2, 2, 2, 3, 31, 107, 223, 4153, 430751] = true := by decide +kernel
theorem fac_17d_855353 : ∀ q, q ∈ [2, 2, 2, 3, 31, 107, 223, 4153, 430751] → Prm q := by
  intro q hq
  simp only [List.mem_cons, List.not_mem_nil, or_false] at hq
  rcases hq with rfl | rfl | rfl | rfl | rfl | rfl | rfl | rfl | rfl
  · exact prm_2
  · exact prm_2
  · exact prm_2
  · exact prm_3
  · exact prm_31
  · exact prm_107
  · exact prm_223
  · exact prm_4153
  · exact prm_430751
theorem prm_17d_855353 : Prm 31757755568855353 := (cert_gen cert_17d_855353 fac_17d_855353).1
theorem prm_37853 : Prm 37853 := small_prime (by decide) (by decide +kernel)
theorem cert_75707 : certOk 75707 2 [2, 37853] = true := by decide +kernel
theorem fac_75707 : ∀ q, q ∈ [2, 37853] → Prm q := by
  intro q hq
  simp only [List.mem_cons, List.not_mem_nil, or_false] at hq
  rcases hq with rfl | rfl
  · exact prm_2
  · exact prm_37853
theorem prm_75707 : Prm 75707 := (cert_gen cert_75707 fac_75707).1
theorem prm_13 : Prm 13 := small_prime (by decide) (by decide +kernel)
theorem prm_2437 : Prm 2437 := small_prime (by decide) (by decide +kernel)
theorem prm_97 : Prm 97 := small_prime (by decide) (by decide +kernel)
theorem prm_419 : Prm 419 := small_prime (by decide) (by decide +kernel)
theorem cert_569003 : certOk 569003 2 [2, 7, 97, 419] = true := by decide +kernel
theorem fac_569003 : ∀ q, q ∈ [2, 7, 97, 419] → Prm q := by
  intro q hq
  simp only [List.mem_cons, List.not_mem_nil, or_false] at hq
  rcases hq with rfl | rfl | rfl | rfl
  · exact prm_2
  · exact prm_7
  · exact prm_97
  · exact prm_419
theorem prm_569003 : Prm 569003 := (cert_gen cert_569003 fac_569003).1
theorem cert_2773320623 : certOk 2773320623 5 [2, 2437, 569003] = true := by decide +kernel
theorem fac_2773320623 : ∀ q, q ∈ [2, 2437, 569003] → Prm q := by
  intro q hq
  simp only [List.mem_cons, List.not_mem_nil, or_false] at hq
  rcases hq with rfl | rfl | rfl
  · exact prm_2
  · exact prm_2437
  · exact prm_569003
theorem prm_2773320623 : Prm 2773320623 := (cert_gen cert_2773320623 fac_2773320623).1
theorem cert_72106336199 : certOk 72106336199 7 [2, 13, 2773320623] = true := by decide +kernel
theorem fac_72106336199 : ∀ q, q ∈ [2, 13, 2773320623] → Prm q := by
  intro q hq
  simp only [List.mem_cons, List.not_mem_nil, or_false] at hq
  rcases hq with rfl | rfl | rfl
  · exact prm_2
  · exact prm_13
  · exact prm_2773320623
theorem prm_72106336199 : Prm 72106336199 := (cert_gen cert_72106336199 fac_72106336199).1
theorem prm_19 : Prm 19 := small_prime (by decide) (by decide +kernel)
theorem prm_47 : Prm 47 := small_prime (by decide) (by decide +kernel)
theorem prm_127 : Prm 127 := small_prime (by decide) (by decide +kernel)
theorem prm_103 : Prm 103 := small_prime (by decide) (by decide +kernel)
theorem prm_991 : Prm 991 := small_prime (by decide) (by decide +kernel)
theorem cert_8574133 : certOk 8574133 2 [2, 2, 3, 7, 103, 991] = true := by decide +kernel
theorem fac_8574133 : ∀ q, q ∈ [2, 2, 3, 7, 103, 991] → Prm q := by
  intro q hq
  simp only [List.mem_cons, List.not_mem_nil, or_false] at hq
  rcases hq with rfl | rfl | rfl | rfl | rfl | rfl
  · exact prm_2
  · exact prm_2
  · exact prm_3
  · exact prm_7
  · exact prm_103
  · exact prm_991
theorem prm_8574133 : Prm 8574133 := (cert_gen cert_8574133 fac_8574133).1
theorem cert_16d_386763 : certOk 1919519569386763 2 [2, 3, 7, 19, 47, 47, 127, 8574133] = true := by decide +kernel
theorem fac_16d_386763 : ∀ q, q ∈ [2, 3, 7, 19, 47, 47, 127, 8574133] → Prm q := by
  intro q hq
  simp only [List.mem_cons, List.not_mem_nil, or_false] at hq
  rcases hq with rfl | rfl | rfl | rfl | rfl | rfl | rfl | rfl
  · exact prm_2
  · exact prm_3
  · exact prm_7
  · exact prm_19
  · exact prm_47
  · exact prm_47
  · exact prm_127
  · exact prm_8574133
theorem prm_16d_386763 : Prm 1919519569386763 := (cert_gen cert_16d_386763 fac_16d_386763).1
theorem cert_35d_864801 : certOk 75445702479781427272750846543864801 7 [2, 2, 2, 2, 2, 3, 3, 5, 5, 75707, 72106336199, 1919519569386763] = true := by decide +kernel
theorem fac_35d_864801 : ∀ q, q ∈ [2, 2, 2, 2, 2, 3, 3, 5, 5, 75707, 72106336199, 1919519569386763] → Prm q := by
  intro q hq
  simp only [List.mem_cons, List.not_mem_nil, or_false] at hq
  rcases hq with rfl | rfl | rfl | rfl | rfl | rfl | rfl | rfl | rfl | rfl | rfl | rfl
  · exact prm_2
  · exact prm_2
  · exact prm_2
  · exact prm_2
  · exact prm_2
  · exact prm_3
  · exact prm_3
  · exact prm_5
  · exact prm_5
  · exact prm_75707
  · exact prm_72106336199
  · exact prm_16d_386763
theorem prm_35d_864801 : Prm 75445702479781427272750846543864801 := (cert_gen cert_35d_864801 fac_35d_864801).1
theorem cert_71d_340907 : certOk 74058212732561358302231226437062788676166966415465897661863160754340907 2 [2, 3, 353, 57467, 132049, 1923133, 31757755568855353, 75445702479781427272750846543864801] = true := by decide +kernel
theorem fac_71d_340907 : ∀ q, q ∈ [2, 3, 353, 57467, 132049, 1923133, 31757755568855353, 75445702479781427272750846543864801] → Prm q := by
  intro q hq
  simp only [List.mem_cons, List.not_mem_nil, or_false] at hq
  rcases hq with rfl | rfl | rfl | rfl | rfl | rfl | rfl | rfl
  · exact prm_2
  · exact prm_3
  · exact prm_353
  · exact prm_57467
  · exact prm_132049
  · exact prm_1923133
  · exact prm_17d_855353
  · exact prm_35d_864801
theorem prm_71d_340907 : Prm 74058212732561358302231226437062788676166966415465897661863160754340907 := (cert_gen cert_71d_340907 fac_71d_340907).1
theorem cert_77d_819949 : certOk 57896044618658097711785492504343953926634992332820282019728792003956564819949 2 [2, 2, 3, 65147, 74058212732561358302231226437062788676166966415465897661863160754340907] = true := by decide +kernel
theorem fac_77d_819949 : ∀ q, q ∈ [2, 2, 3, 65147, 74058212732561358302231226437062788676166966415465897661863160754340907] → Prm q := by
  intro q hq
  simp only [List.mem_cons, List.not_mem_nil, or_false] at hq
  rcases hq with rfl | rfl | rfl | rfl | rfl
  · exact prm_2
  · exact prm_2
  · exact prm_3
  · exact prm_65147
  · exact prm_71d_340907
theorem prm_77d_819949 : Prm 57896044618658097711785492504343953926634992332820282019728792003956564819949 := (cert_gen cert_77d_819949 fac_77d_819949).1

end Pl
end Go.Proofs.Ytldnjbpcdojffaa
