/-
  AM, part 5a: whole numbers, for Lean's kernel: small functions on literals.
-/
import Derived.Test.YtedomhceacongaaAmApp
namespace Go.AM
set_option linter.unusedVariables false
set_option linter.unusedSimpArgs false

def kMax : IntKind → Nat
  | .i8 => 127 | .i16 => 32767 | .i32 => 2147483647 | .i64 => 9223372036854775807
  | .u8 => 255 | .u16 => 65535 | .u32 => 4294967295 | .u64 => 18446744073709551615
/-- One more than the greatest number, of the kinds without a sign. -/
def kMod : IntKind → Nat
  | .u8 => 256 | .u16 => 65536 | .u32 => 4294967296 | .u64 => 18446744073709551616
  | _ => 0
def wrapF (k : IntKind) : Int → Int
  | .ofNat m => cond (Nat.ble m (kMax k)) (.ofNat m) (match kMod k with | 0 => k.wrap (.ofNat m) | q => .ofNat (m % q))
  | .negSucc m => cond (Nat.ble (kMod k) 0 && Nat.ble m (kMax k)) (.negSucc m) (k.wrap (.negSucc m))
def ieqF : Int → Int → Bool
  | .ofNat m, .ofNat n => Nat.beq m n
  | .negSucc m, .negSucc n => Nat.beq m n
  | _, _ => false
def iltF : Int → Int → Bool
  | .ofNat m, .ofNat n => Nat.ble (m + 1) n
  | .negSucc m, .negSucc n => Nat.ble (n + 1) m
  | .negSucc _, .ofNat _ => true
  | .ofNat _, .negSucc _ => false

theorem ieqF_eq (a b : Int) : ieqF a b = (a == b) := by
  rw [Bool.eq_iff_iff, beq_iff_eq]
  cases a <;> cases b <;> simp only [ieqF, Nat.beq_eq, Int.ofNat_eq_natCast, Int.negSucc_eq] <;> first | omega | (constructor <;> intro h <;> first | rfl | (cases h; done) | omega)
theorem iltF_eq (a b : Int) : iltF a b = decide (a < b) := by
  rw [Bool.eq_iff_iff, decide_eq_true_eq]
  cases a <;> cases b <;> simp only [iltF, Nat.ble_eq, Int.ofNat_eq_natCast, Int.negSucc_eq]
  · omega
  · exact ⟨fun h => (by cases h), fun h => (by omega)⟩
  · exact ⟨fun _ => (by omega), fun _ => trivial⟩
  · omega

theorem ble_false {m n : Nat} (h : Nat.ble m n = false) : ¬ m ≤ n := by
  intro e; rw [← Nat.ble_eq] at e; rw [e] at h; cases h
theorem wrap_eq (k : IntKind) (n : Int) : k.wrap n = match k with
    | .u8 => n % 256 | .u16 => n % 65536 | .u32 => n % 4294967296 | .u64 => n % 18446744073709551616
    | .i8 => if 128 ≤ n % 256 then n % 256 - 256 else n % 256
    | .i16 => if 32768 ≤ n % 65536 then n % 65536 - 65536 else n % 65536
    | .i32 => if 2147483648 ≤ n % 4294967296 then n % 4294967296 - 4294967296 else n % 4294967296
    | .i64 => if 9223372036854775808 ≤ n % 18446744073709551616 then n % 18446744073709551616 - 18446744073709551616 else n % 18446744073709551616 := by
  cases k <;> simp [IntKind.wrap, IntKind.signed, IntKind.bits]
theorem wrapF_eq (k : IntKind) (n : Int) : wrapF k n = k.wrap n := by
  cases n with
  | ofNat m =>
    simp only [wrapF]
    cases h : Nat.ble m (kMax k) with
    | true =>
      simp only [cond_true]
      rw [Nat.ble_eq] at h
      rw [wrap_eq]
      cases k <;> simp only [kMax] at h <;> simp only [Int.ofNat_eq_natCast] <;> first | omega | (rw [if_neg (by omega)]; omega)
    | false =>
      simp only [cond_false]
      cases k
      case u8 => rw [wrap_eq]; simp only [kMod, Int.ofNat_eq_natCast]; omega
      case u16 => rw [wrap_eq]; simp only [kMod, Int.ofNat_eq_natCast]; omega
      case u32 => rw [wrap_eq]; simp only [kMod, Int.ofNat_eq_natCast]; omega
      case u64 => rw [wrap_eq]; simp only [kMod, Int.ofNat_eq_natCast]; omega
      all_goals rfl
  | negSucc m =>
    simp only [wrapF]
    cases h : (Nat.ble (kMod k) 0 && Nat.ble m (kMax k)) with
    | true =>
      simp only [cond_true]
      simp only [Bool.and_eq_true, Nat.ble_eq] at h
      obtain ⟨h1, h⟩ := h
      rw [wrap_eq]
      cases k <;> simp only [kMax, kMod] at h h1 <;> simp only [Int.negSucc_eq] <;> first | omega | (rw [if_pos (by omega)]; omega)
    | false => simp only [cond_false]

def addF : Int → Int → Int
  | .ofNat m, .ofNat n => .ofNat (m + n)
  | .ofNat m, .negSucc n => cond (Nat.ble (n + 1) m) (.ofNat (m - (n + 1))) (.negSucc (n - m))
  | .negSucc m, .ofNat n => cond (Nat.ble (m + 1) n) (.ofNat (n - (m + 1))) (.negSucc (m - n))
  | .negSucc m, .negSucc n => .negSucc (m + n + 1)
def negF : Int → Int
  | .ofNat 0 => .ofNat 0
  | .ofNat (n + 1) => .negSucc n
  | .negSucc n => .ofNat (n + 1)
theorem addF_eq (a b : Int) : addF a b = a + b := by
  cases a <;> cases b <;> simp only [addF]
  · rfl
  · rename_i m n
    cases h : Nat.ble (n + 1) m with
    | true => rw [Nat.ble_eq] at h; simp only [cond_true, Int.ofNat_eq_natCast, Int.negSucc_eq]; omega
    | false => have := ble_false h; simp only [cond_false, Int.ofNat_eq_natCast, Int.negSucc_eq]; omega
  · rename_i m n
    cases h : Nat.ble (m + 1) n with
    | true => rw [Nat.ble_eq] at h; simp only [cond_true, Int.ofNat_eq_natCast, Int.negSucc_eq]; omega
    | false => have := ble_false h; simp only [cond_false, Int.ofNat_eq_natCast, Int.negSucc_eq]; omega
  · simp only [Int.negSucc_eq]; omega
theorem negF_eq (a : Int) : negF a = -a := by
  unfold negF
  split
  · rfl
  · rfl
  · simp only [Int.ofNat_eq_natCast, Int.negSucc_eq]; omega

/-- Two whole numbers of one kind. -/
def ibin1 (op : BinOp) (k : IntKind) (a b : Int) : Option AVal := match op with
  | .add => some (.int k (wrapF k (addF a b)))
  | .sub => some (.int k (wrapF k (addF a (negF b))))
  | .mul => some (.int k (wrapF k (a * b)))
  | .eql => some (.bool (ieqF a b))
  | .neq => some (.bool (!ieqF a b))
  | .lss => some (.bool (iltF a b))
  | .leq => some (.bool (!iltF b a))
  | .gtr => some (.bool (iltF b a))
  | .geq => some (.bool (!iltF a b))
  | .quo => cond (ieqF b 0) none (some (.int k (wrapF k (a.tdiv b))))
  | .rem => cond (ieqF b 0) none (some (.int k (a.tmod b)))
  | _ => none
def shiftN (k : IntKind) : Int → Nat
  | .ofNat n => cond (Nat.ble n k.bits) n k.bits
  | .negSucc _ => 0
def ishl (k : IntKind) (a b : Int) : Int := match a with
  | .ofNat m => wrapF k (.ofNat (Nat.shiftLeft m (shiftN k b)))
  | .negSucc m => k.wrap (.negSucc m * 2 ^ shiftN k b)
def ishr (k : IntKind) (a b : Int) : Int := match a with
  | .ofNat m => .ofNat (Nat.shiftRight m (shiftN k b))
  | .negSucc m => (Int.negSucc m).fdiv (2 ^ shiftN k b)
def neg? : Int → Bool
  | .negSucc _ => true
  | _ => false
/-- Of numbers that aren't below 0 and fit. -/
def ibits (op : BinOp) (k : IntKind) (a b : Int) : Option AVal := match a, b with
  | .ofNat m, .ofNat n => cond (Nat.ble m (kMax k) && Nat.ble n (kMax k)) (match op with
      | .and => some (.int k (.ofNat (Nat.land m n)))
      | .or => some (.int k (.ofNat (Nat.lor m n)))
      | .xor => some (.int k (.ofNat (Nat.xor m n)))
      | _ => none) none
  | _, _ => none

theorem shiftN_eq {k : IntKind} {b : Int} (h : neg? b = false) : shiftN k b = min b.toNat k.bits := by
  cases b with
  | ofNat n =>
    simp only [shiftN]
    cases hb : Nat.ble n k.bits with
    | true => rw [Nat.ble_eq] at hb; simp only [cond_true]; show n = min n k.bits; omega
    | false =>
      have := ble_false hb
      simp only [cond_false]; show k.bits = min n k.bits; omega
  | negSucc n => cases h

end Go.AM
