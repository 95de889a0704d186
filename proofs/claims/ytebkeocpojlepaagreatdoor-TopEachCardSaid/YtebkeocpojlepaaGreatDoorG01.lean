/- Contracts and plain laws, put together: CrcPlain. -/
/- CRC-32 in plain Lean: the step is linear and one to one, four bits by a table, and texts that differ within four bytes have different sums. No program in sight. -/
namespace Go.Proofs.YtebkeocpojlepaaGreatDoor.Crc

abbrev W := BitVec 32

def poly : W := 0xEDB88320#32

/-- one bit -/
def bstep (c : W) : W := (c >>> 1) ^^^ (if c.getLsbD 0 then poly else 0#32)

/-- so many bits -/
def bsteps : Nat → W → W
  | 0, c => c
  | n + 1, c => bsteps n (bstep c)

/-- one byte -/
def step (c : W) (b : UInt8) : W := bsteps 8 (c ^^^ b.toBitVec.setWidth 32)

/-- many bytes -/
def run (c : W) (l : List UInt8) : W := l.foldl step c

def sum (l : List UInt8) : W := ~~~ run (BitVec.allOnes 32) l

theorem run_nil (c : W) : run c [] = c := rfl
theorem run_cons (c : W) (b : UInt8) (l : List UInt8) : run c (b :: l) = run (step c b) l := rfl
theorem run_append (c : W) (a b : List UInt8) : run c (a ++ b) = run (run c a) b := by simp [run, List.foldl_append]
theorem run_snoc (c : W) (a : List UInt8) (b : UInt8) : run c (a ++ [b]) = step (run c a) b := by simp [run, List.foldl_append]

theorem bsteps_add (m n : Nat) (c : W) : bsteps (m + n) c = bsteps n (bsteps m c) := by
  induction m generalizing c with
  | zero => simp [bsteps]
  | succ m ih => rw [show m + 1 + n = (m + n) + 1 from by omega]; simp only [bsteps]; exact ih _

theorem bstep_xor (x y : W) : bstep (x ^^^ y) = bstep x ^^^ bstep y := by
  unfold bstep
  rw [BitVec.ushiftRight_xor_distrib, BitVec.getLsbD_xor]
  cases hx : x.getLsbD 0 <;> cases hy : y.getLsbD 0 <;> ext i hi <;> simp only [BitVec.getElem_xor, Bool.xor_false, Bool.xor_true, Bool.not_false, Bool.not_true, if_true, if_false, Bool.false_eq_true, BitVec.xor_zero] <;>
    (cases (x >>> 1)[i] <;> cases (y >>> 1)[i] <;> cases poly[i] <;> rfl)

theorem bsteps_xor (n : Nat) (x y : W) : bsteps n (x ^^^ y) = bsteps n x ^^^ bsteps n y := by
  induction n generalizing x y with
  | zero => rfl
  | succ n ih => simp only [bsteps, bstep_xor, ih]

theorem bstep_zero : bstep 0#32 = 0#32 := by decide
theorem bsteps_zero (n : Nat) : bsteps n 0#32 = 0#32 := by
  induction n with
  | zero => rfl
  | succ n ih => simp only [bsteps, bstep_zero, ih]

/-- a word whose lowest bit is 0 is shifted alone -/
theorem bstep_even (d : W) (h : d.getLsbD 0 = false) : bstep d = d >>> 1 := by
  unfold bstep; rw [h]; simp

theorem bsteps_even (n : Nat) (d : W) (h : ∀ i, i < n → d.getLsbD i = false) : bsteps n d = d >>> n := by
  induction n generalizing d with
  | zero => simp [bsteps]
  | succ n ih =>
    simp only [bsteps]
    rw [bstep_even d (h 0 (by omega)), ih (d >>> 1) (fun i hi => by rw [BitVec.getLsbD_ushiftRight]; exact h (1 + i) (by omega))]
    rw [← BitVec.shiftRight_add]
    congr 1
    omega

/-- nothing but 0 goes to 0 -/
theorem bstep_eq_zero (x : W) (h : bstep x = 0#32) : x = 0#32 := by
  unfold bstep at h
  cases h0 : x.getLsbD 0
  · rw [h0] at h
    simp only [Bool.false_eq_true, if_false, BitVec.xor_zero] at h
    apply BitVec.eq_of_getLsbD_eq
    intro i hi
    cases i with
    | zero => simpa using h0
    | succ i =>
      have := congrArg (fun v : W => v.getLsbD i) h
      simp only [BitVec.getLsbD_ushiftRight, BitVec.getLsbD_zero] at this
      rw [Nat.add_comm] at this
      simpa using this
  · rw [h0] at h
    simp only [if_true] at h
    have := congrArg (fun v : W => v.getLsbD 31) h
    simp only [BitVec.getLsbD_xor, BitVec.getLsbD_ushiftRight, BitVec.getLsbD_zero] at this
    rw [BitVec.getLsbD_of_ge x (1 + 31) (by omega)] at this
    exact absurd this (by decide)

theorem xor_eq_zero {x y : W} : x ^^^ y = 0#32 ↔ x = y := by
  constructor
  · intro h
    have : (x ^^^ y) ^^^ y = 0#32 ^^^ y := by rw [h]
    rw [BitVec.xor_assoc, BitVec.xor_self, BitVec.xor_zero, BitVec.zero_xor] at this
    exact this
  · rintro rfl; exact BitVec.xor_self

theorem bstep_inj {x y : W} (h : bstep x = bstep y) : x = y := by
  apply xor_eq_zero.1
  apply bstep_eq_zero
  rw [bstep_xor, h, BitVec.xor_self]

theorem bsteps_inj (n : Nat) {x y : W} (h : bsteps n x = bsteps n y) : x = y := by
  induction n generalizing x y with
  | zero => exact h
  | succ n ih => exact bstep_inj (ih h)

theorem xor_right_inj {x y z : W} (h : x ^^^ z = y ^^^ z) : x = y := by
  have : (x ^^^ z) ^^^ z = (y ^^^ z) ^^^ z := by rw [h]
  simpa [BitVec.xor_assoc] using this

theorem xor_left_inj {x y z : W} (h : z ^^^ x = z ^^^ y) : x = y := by
  rw [BitVec.xor_comm z x, BitVec.xor_comm z y] at h; exact xor_right_inj h

theorem step_inj {c d : W} (b : UInt8) (h : step c b = step d b) : c = d := xor_right_inj (bsteps_inj 8 h)

theorem run_inj {c d : W} (l : List UInt8) (h : run c l = run d l) : c = d := by
  induction l generalizing c d with
  | nil => exact h
  | cons b l ih => exact step_inj b (ih h)

/-! four bits by a table -/

theorem low_split (n : Nat) (c : W) (m : W) (hm : ∀ i, i < n → m.getLsbD i = true) (hm' : ∀ i, n ≤ i → m.getLsbD i = false) :
    bsteps n c = (c >>> n) ^^^ bsteps n (c &&& m) := by
  have e : c = (c &&& ~~~m) ^^^ (c &&& m) := by
    apply BitVec.eq_of_getLsbD_eq
    intro i hi
    simp only [BitVec.getLsbD_xor, BitVec.getLsbD_and, BitVec.getLsbD_not, hi, decide_true, Bool.true_and]
    cases c.getLsbD i <;> cases m.getLsbD i <;> rfl
  have e1 : bsteps n (c &&& ~~~m) = (c &&& ~~~m) >>> n := bsteps_even n _ (fun i hi => by
    simp [BitVec.getLsbD_and, BitVec.getLsbD_not, hm i hi])
  have e2 : (c &&& ~~~m) >>> n = c >>> n := by
    apply BitVec.eq_of_getLsbD_eq
    intro i hi
    simp only [BitVec.getLsbD_ushiftRight, BitVec.getLsbD_and, BitVec.getLsbD_not, hm' (n + i) (by omega)]
    by_cases h : n + i < 32
    · simp [h]
    · rw [BitVec.getLsbD_of_ge c (n + i) (by omega)]; simp
  calc bsteps n c = bsteps n ((c &&& ~~~m) ^^^ (c &&& m)) := by rw [← e]
    _ = _ := by rw [bsteps_xor, e1, e2]

theorem nibble (c : W) : bsteps 4 c = (c >>> 4) ^^^ bsteps 4 (c &&& 15#32) :=
  low_split 4 c 15#32 (by decide) (fun i hi => by
    rw [BitVec.getLsbD_ofNat]
    rw [show (15 : Nat) = 2 ^ 4 - 1 from rfl, Nat.testBit_two_pow_sub_one]
    simp; omega)

theorem step_nibbles (c : W) (b : UInt8) :
    step c b = (let d := c ^^^ b.toBitVec.setWidth 32; let e := (d >>> 4) ^^^ bsteps 4 (d &&& 15#32); (e >>> 4) ^^^ bsteps 4 (e &&& 15#32)) := by
  show bsteps (4 + 4) _ = _
  rw [bsteps_add, nibble (bsteps 4 _), nibble (c ^^^ _)]

/-! linearity over texts -/

theorem step_xor3 (c d e : W) (x y z : UInt8) : step (c ^^^ d ^^^ e) (x ^^^ y ^^^ z) = step c x ^^^ step d y ^^^ step e z := by
  unfold step
  rw [← bsteps_xor, ← bsteps_xor]
  congr 1
  apply BitVec.eq_of_getLsbD_eq
  intro i hi
  simp only [UInt8.toBitVec_xor, BitVec.getLsbD_xor, BitVec.getLsbD_setWidth, hi, decide_true, Bool.true_and]
  cases c.getLsbD i <;> cases d.getLsbD i <;> cases e.getLsbD i <;> cases x.toBitVec.getLsbD i <;> cases y.toBitVec.getLsbD i <;> cases z.toBitVec.getLsbD i <;> rfl

/-- three texts of one length, put together byte by byte -/
def xor3 : List UInt8 → List UInt8 → List UInt8 → List UInt8
  | a :: l, b :: m, c :: n => (a ^^^ b ^^^ c) :: xor3 l m n
  | _, _, _ => []

theorem run_xor3 (c d e : W) (l m n : List UInt8) (h : m.length = l.length) (k : n.length = l.length) :
    run (c ^^^ d ^^^ e) (xor3 l m n) = run c l ^^^ run d m ^^^ run e n := by
  induction l generalizing c d e m n with
  | nil =>
    have hm : m = [] := List.length_eq_zero_iff.1 h
    have hn : n = [] := List.length_eq_zero_iff.1 k
    subst hm hn
    rfl
  | cons a l ih =>
    match m, n, h, k with
    | b :: m, x :: n, h, k =>
      simp only [xor3, run_cons, step_xor3]
      exact ih _ _ _ _ _ (by simpa using h) (by simpa using k)

theorem not_xor3 (a b c : W) : ~~~(a ^^^ b ^^^ c) = ~~~a ^^^ ~~~b ^^^ ~~~c := by
  apply BitVec.eq_of_getLsbD_eq
  intro i hi
  simp only [BitVec.getLsbD_xor, BitVec.getLsbD_not, hi, decide_true, Bool.true_and]
  cases a.getLsbD i <;> cases b.getLsbD i <;> cases c.getLsbD i <;> rfl

theorem sum_xor3 (l m n : List UInt8) (h : m.length = l.length) (k : n.length = l.length) : sum (xor3 l m n) = sum l ^^^ sum m ^^^ sum n := by
  unfold sum
  rw [← not_xor3, ← run_xor3 _ _ _ _ _ _ h k]
  rw [BitVec.xor_self, BitVec.zero_xor]

/-! four bytes -/

/-- up to four bytes as a word, the first one lowest -/
def word : List UInt8 → W
  | [] => 0#32
  | b :: l => b.toBitVec.setWidth 32 ^^^ (word l <<< 8)

theorem shl_even (n : Nat) (x : W) (h : ∀ i, 24 ≤ i → x.getLsbD i = false) (hn : n = 8) : bsteps n (x <<< n) = x := by
  subst hn
  rw [bsteps_even 8 _ (fun i hi => by simp [BitVec.getLsbD_shiftLeft, hi])]
  apply BitVec.eq_of_getLsbD_eq
  intro i hi
  simp only [BitVec.getLsbD_ushiftRight, BitVec.getLsbD_shiftLeft]
  by_cases h' : i < 24
  · have : 8 + i < 32 := by omega
    simp [this]
  · rw [h i (by omega)]
    simp; omega

theorem word_high (l : List UInt8) (k : Nat) (h : l.length ≤ k) (i : Nat) (hi : 8 * k ≤ i) : (word l).getLsbD i = false := by
  induction l generalizing k i with
  | nil => simp [word]
  | cons b l ih =>
    cases k with
    | zero => simp at h
    | succ k =>
      simp only [word, BitVec.getLsbD_xor, BitVec.getLsbD_setWidth, BitVec.getLsbD_shiftLeft]
      rw [BitVec.getLsbD_of_ge b.toBitVec i (by omega), ih k (by simpa using h) (i - 8) (by omega)]
      simp

theorem run_word (c : W) (l : List UInt8) (h : l.length ≤ 4) : run c l = bsteps (8 * l.length) (c ^^^ word l) := by
  induction l generalizing c with
  | nil => simp [run, word, bsteps]
  | cons b l ih =>
    have hl : l.length ≤ 3 := by simpa using h
    rw [run_cons, ih _ (by omega)]
    have e : step c b ^^^ word l = bsteps 8 (c ^^^ word (b :: l)) := by
      unfold step
      conv => lhs; rw [← shl_even 8 (word l) (fun i hi => word_high l 3 hl i (by omega)) rfl]
      rw [← bsteps_xor]
      congr 1
      simp only [word, BitVec.xor_assoc]
    rw [e, ← bsteps_add, List.length_cons]
    congr 1
    omega

theorem word_inj (l m : List UInt8) (h : l.length ≤ 4) (k : m.length = l.length) (e : word l = word m) : l = m := by
  induction l generalizing m with
  | nil => exact (List.length_eq_zero_iff.1 k).symm
  | cons b l ih =>
    match m, k with
    | x :: m, k =>
      have hl : l.length ≤ 3 := by simpa using h
      have hm : m.length = l.length := by simpa using k
      have e8 : ∀ i, i < 8 → b.toBitVec.getLsbD i = x.toBitVec.getLsbD i := by
        intro i hi
        have := congrArg (fun v : W => v.getLsbD i) e
        simp only [word, BitVec.getLsbD_xor, BitVec.getLsbD_setWidth, BitVec.getLsbD_shiftLeft] at this
        have h32 : i < 32 := by omega
        simpa [hi, h32] using this
      have eb : b = x := UInt8.eq_of_toBitVec_eq (BitVec.eq_of_getLsbD_eq (fun i hi => e8 i hi))
      have ew : word l = word m := by
        apply BitVec.eq_of_getLsbD_eq
        intro i hi
        by_cases h24 : i < 24
        · have := congrArg (fun v : W => v.getLsbD (i + 8)) e
          simp only [word, BitVec.getLsbD_xor, BitVec.getLsbD_setWidth, BitVec.getLsbD_shiftLeft] at this
          have h32 : i + 8 < 32 := by omega
          rw [BitVec.getLsbD_of_ge b.toBitVec (i + 8) (by omega), BitVec.getLsbD_of_ge x.toBitVec (i + 8) (by omega)] at this
          have h8 : ¬ i + 8 < 8 := by omega
          simpa [h32, h8] using this
        · rw [word_high l 3 hl i (by omega), word_high m 3 (by omega) i (by omega)]
      rw [eb, ih m (by omega) hm ew]

/-- texts that differ within four bytes alone have the same sum just if they are the same -/
theorem sum_burst (p l m q : List UInt8) (h : l.length ≤ 4) (k : m.length = l.length) : sum (p ++ l ++ q) = sum (p ++ m ++ q) ↔ l = m := by
  constructor
  · intro e
    unfold sum at e
    have e' := congrArg (fun v : W => ~~~v) e
    simp only [BitVec.not_not] at e'
    rw [run_append, run_append, run_append _ _ q, run_append _ p m] at e'
    have e2 := run_inj q e'
    rw [run_word _ l h, run_word _ m (by omega), k] at e2
    exact word_inj l m h k (xor_left_inj (bsteps_inj _ e2))
  · rintro rfl; rfl

end Go.Proofs.YtebkeocpojlepaaGreatDoor.Crc
