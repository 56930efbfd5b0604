/-
  AM, part 6: the machine's own code, what an operation does, and how the model's code becomes it.
-/
import Derived.Test.YtedomhceacongaaAmInt
namespace Go.AM
set_option linter.unusedSimpArgs false
set_option linter.unusedVariables false

inductive AOpd where
  | tmp (t : Nat)
  | val (v : AVal)
  | fnv (f : FuncId)
  | glob (g : Nat)
  deriving Inhabited

/-- The kinds of what is held against its like. -/
inductive LK where
  | int | bool | str
  deriving Inhabited

/-- How two values are held against one another. -/
inductive EqK where
  | bool | ptr | slice | map | func | iface
  | flat (ks : List LK)
  deriving Inhabited

inductive AOp where
  | mov (x : AOpd)
  | pick (c a b : AOpd)
  | alloc (zero : List AVal)
  | box (x : AOpd)
  | build (zero : List AVal) (parts : List (Nat × Nat × AOpd))
  | buildSlice (esz n : Nat) (zero : List AVal) (parts : List (Nat × AOpd))
  | load (n : Option Nat) (a : AOpd)
  | store (n : Nat) (a x : AOpd)
  | nilCheck (x : AOpd)
  | bin (op : BinOp) (x y : AOpd)
  | eql (neg : Bool) (k : EqK) (x y : AOpd)
  | un (op : UnOp) (x : AOpd)
  | conv (k : IntKind) (x : AOpd)
  | b2s (x : AOpd)
  | mkIface (t : TypeId) (x : AOpd)
  | mkFn (f : Fn) (first captured : List AOpd)
  | mkMap
  | mkSlice (esz bytes : Nat) (zero : List AVal) (n : AOpd)
  | slice (esz : Nat) (x : AOpd) (lo hi : Option AOpd)
  | fieldAddr (off : Nat) (x : AOpd)
  | field (off : Nat) (n : Option Nat) (x : AOpd)
  | idxS (esz : Nat) (x i : AOpd)
  | idxA (esz len : Nat) (x i : AOpd)
  | index (esz len : Nat) (n : Option Nat) (x i : AOpd)
  | indexStr (x i : AOpd)
  | lookup (kk : LK) (zero : AVal) (ok : Bool) (m k : AOpd)
  | mapUpd (kk : LK) (m k v : AOpd)
  | assertT (t : TypeId) (ok : Bool) (zero : AVal) (x : AOpd)
  | extract (x : AOpd) (i : Nat)
  | lenS (x : AOpd)
  | lenT (x : AOpd)
  | lenM (x : AOpd)
  | min (x y : AOpd)
  | max (x y : AOpd)
  | append (esz bytes : Nat) (x y : AOpd)
  | copy (esz : Nat) (x y : AOpd)
  | delete (kk : LK) (m k : AOpd)
  deriving Inhabited

/-- An instruction's operation. -/
inductive AIOp where
  | op (o : AOp)
  | call (f : AOpd) (args : List AOpd)
  | panic (x : AOpd)
  deriving Inhabited

structure AInstr where
  dst : Option Nat
  op : AIOp
  guard : Option (Nat × Bool)
  deriving Inhabited

/-- Of an instruction in a region whose order is open: it hangs on its operands alone; or on the heap too: then, the other places at which the first act that isn't done may stand when it comes; or it is an act itself ('last': what stands behind it comes behind it). -/
inductive DK where
  | pure
  | read (qs : List Nat)
  | act (last : Bool)
  deriving Inhabited

structure DInstr where
  i : AInstr
  k : DK
  deriving Inhabited

inductive ACode where
  | skip
  | region (is : List AInstr)
  | draw (is : List DInstr)
  | seq (a b : ACode)
  | cond (c : AOpd) (a b : ACode)
  | block (id : Nat) (b : ACode)
  | loop (b : ACode)
  | exit (id : Nat)
  | ret
  deriving Inhabited

inductive AResVar where
  | tmp (t : Nat)
  | cell (t : Nat) (n : Option Nat)
  deriving Inhabited

/-- A function. 'late': behind the body this function's value is put off; then the code. 'rcv': the body begins behind a 'recover', whose answer goes to the slot. -/
structure AFun where
  body : ACode
  results : List AResVar
  late : Option (AOpd × ACode)
  rcv : Option (Option Nat)
  deriving Inhabited

abbrev Env := Tr AVal
def Env.val (e : Env) (t : Nat) : AVal := (Tr.get e t).getD .undef
def opd (e : Env) : AOpd → AVal
  | .tmp t => e.val t
  | .val v => v
  | .fnv f => .fn (.func f) [] []
  | .glob g => .ptr g 0 0

/-- Numbers, bools, texts: alike here and in the model. -/
def AVal.lit : AVal → Option Value
  | .bool b => some (.bool b)
  | .int k n => some (.int k n)
  | .str s => some (.string s)
  | .flt k n => some (.float k n)
  | _ => none
def unlit : Value → Option AVal
  | .bool b => some (.bool b)
  | .int k n => some (.int k n)
  | .string s => some (.str s)
  | .float k n => some (.flt k n)
  | _ => none
def ofSem : Sem Value → Option AVal
  | .pure v => unlit v
  | _ => none

/-- A constant. -/
def ofVal : Value → Option AVal
  | .bool b => some (.bool b)
  | .int k n => some (.int k n)
  | .string s => some (.str s)
  | .float k n => some (.flt k n)
  | .pointer none => some .nilp
  | .slice none 0 0 => some .nils
  | .map none => some .nilm
  | .nilFunc => some .nilf
  | .nilIface => some .nili
  | _ => none
def ofVals : List Value → Option (List AVal)
  | [] => some []
  | v :: vs => (ofVal v).bind fun a => (ofVals vs).map (a :: ·)
/-- A constant, or a struct, or an array of them. -/
def ofZero : Value → Option AVal
  | .agg cs => (ofVals cs.toList).map .agg
  | v => ofVal v

/-- Two whole numbers. -/
def kEq : IntKind → IntKind → Bool
  | .i8, .i8 | .i16, .i16 | .i32, .i32 | .i64, .i64 | .u8, .u8 | .u16, .u16 | .u32, .u32 | .u64, .u64 => true
  | _, _ => false
def ibinS (op : BinOp) (k : IntKind) (a : Int) (l : IntKind) (b : Int) : Option AVal := ofSem (binOp op 0 (.int k a) (.int l b))
def ibinB (op : BinOp) (k : IntKind) (a : Int) (l : IntKind) (b : Int) : Option AVal := match ibits op k a b with
  | some v => some v
  | none => ibinS op k a l b
def ibin (op : BinOp) (k : IntKind) (a : Int) (l : IntKind) (b : Int) : Option AVal := match op with
  | .shl => cond (neg? b) none (some (.int k (ishl k a b)))
  | .shr => cond (neg? b) none (some (.int k (ishr k a b)))
  | .and => cond (kEq k l) (ibinB .and k a l b) none
  | .or => cond (kEq k l) (ibinB .or k a l b) none
  | .xor => cond (kEq k l) (ibinB .xor k a l b) none
  | .andNot => ibinS .andNot k a l b
  | op => cond (kEq k l) (ibin1 op k a b) none

theorem kEq_eq {k l : IntKind} : kEq k l = true ↔ k = l := by cases k <;> cases l <;> simp [kEq]
theorem neg?_eq (b : Int) : neg? b = decide (b < 0) := by
  rw [Bool.eq_iff_iff, decide_eq_true_eq]
  cases b <;> simp only [neg?, Int.ofNat_eq_natCast, Int.negSucc_eq]
  · exact ⟨fun h => (by cases h), fun h => (by omega)⟩
  · exact ⟨fun _ => (by omega), fun _ => trivial⟩

theorem kMax_lt (k : IntKind) : ∃ j, kMax k + 1 = 2 ^ j ∧ j ≤ k.bits := by
  cases k
  · exact ⟨7, rfl, by decide⟩
  · exact ⟨15, rfl, by decide⟩
  · exact ⟨31, rfl, by decide⟩
  · exact ⟨63, rfl, by decide⟩
  · exact ⟨8, rfl, by decide⟩
  · exact ⟨16, rfl, by decide⟩
  · exact ⟨32, rfl, by decide⟩
  · exact ⟨64, rfl, by decide⟩
theorem wrap_small {k : IntKind} {m : Nat} (h : m ≤ kMax k) : k.wrap (m : Int) = (m : Int) := by
  rw [← wrapF_eq]
  show wrapF k (.ofNat m) = _
  simp only [wrapF]
  have hb : Nat.ble m (kMax k) = true := by rw [Nat.ble_eq]; exact h
  rw [hb]
  rfl
theorem ofInt_small {k : IntKind} {m : Nat} (h : m ≤ kMax k) : (BitVec.ofInt k.bits (m : Int)).toNat = m := by
  obtain ⟨j, h1, h2⟩ := kMax_lt k
  have h3 : 2 ^ j ≤ 2 ^ k.bits := Nat.pow_le_pow_right (by decide) h2
  rw [BitVec.toNat_ofInt]
  have : ((2 ^ k.bits : Nat) : Int) = ((2 ^ k.bits : Nat) : Int) := rfl
  rw [Int.emod_eq_of_lt (by omega) (by omega)]
  simp

theorem ibits_sem {op : BinOp} {k : IntKind} {a b : Int} {v : AVal} (h : ibits op k a b = some v) : ofSem (binOp op 0 (.int k a) (.int k b)) = some v := by
  unfold ibits at h
  split at h
  · rename_i m n
    cases hc : (Nat.ble m (kMax k) && Nat.ble n (kMax k)) with
    | false => rw [hc] at h; cases h
    | true =>
      rw [hc] at h
      simp only [cond_true] at h
      simp only [Bool.and_eq_true, Nat.ble_eq] at hc
      obtain ⟨h1, h2⟩ := hc
      obtain ⟨j, j1, j2⟩ := kMax_lt k
      split at h
      · cases h
        have e : binOp .and 0 (.int k (Int.ofNat m)) (.int k (Int.ofNat n)) = Op.intBits .and k (m : Int) (n : Int) := by simp [binOp]
        rw [e]
        have hle : m &&& n ≤ kMax k := Nat.le_trans Nat.and_le_left h1
        simp only [Op.intBits, BitVec.toNat_and, ofInt_small h1, ofInt_small h2]
        rw [wrap_small hle]; rfl
      · cases h
        have e : binOp .or 0 (.int k (Int.ofNat m)) (.int k (Int.ofNat n)) = Op.intBits .or k (m : Int) (n : Int) := by simp [binOp]
        rw [e]
        have hle : m ||| n ≤ kMax k := by
          have := Nat.or_lt_two_pow (x := m) (y := n) (n := j) (by omega) (by omega)
          omega
        simp only [Op.intBits, BitVec.toNat_or, ofInt_small h1, ofInt_small h2]
        rw [wrap_small hle]; rfl
      · cases h
        have e : binOp .xor 0 (.int k (Int.ofNat m)) (.int k (Int.ofNat n)) = Op.intBits .xor k (m : Int) (n : Int) := by simp [binOp]
        rw [e]
        have hle : m ^^^ n ≤ kMax k := by
          have := Nat.xor_lt_two_pow (x := m) (y := n) (n := j) (by omega) (by omega)
          omega
        simp only [Op.intBits, BitVec.toNat_xor, ofInt_small h1, ofInt_small h2]
        rw [wrap_small hle]; rfl
      · cases h
  · cases h

theorem ibin_sem {op : BinOp} {k l : IntKind} {a b : Int} {v : AVal} (h : ibin op k a l b = some v) : ofSem (binOp op 0 (.int k a) (.int l b)) = some v := by
  have bits : ∀ op, cond (kEq k l) (ibinB op k a l b) none = some v → ofSem (binOp op 0 (.int k a) (.int l b)) = some v := by
    intro op h
    cases hk : kEq k l with
    | false => rw [hk] at h; cases h
    | true =>
      rw [hk] at h
      simp only [cond_true] at h
      rw [kEq_eq] at hk
      subst hk
      unfold ibinB at h
      split at h
      · rename_i u hu
        cases h
        exact ibits_sem hu
      · exact h
  have one : ∀ op, cond (kEq k l) (ibin1 op k a b) none = some v → k = l ∧ ibin1 op k a b = some v := by
    intro op h
    cases hk : kEq k l with
    | false => rw [hk] at h; cases h
    | true => rw [hk] at h; exact ⟨kEq_eq.1 hk, h⟩
  cases op
  case and => exact bits _ h
  case or => exact bits _ h
  case xor => exact bits _ h
  case andNot => exact h
  case shl =>
    simp only [ibin] at h
    cases hn : neg? b with
    | true => rw [hn] at h; cases h
    | false =>
      rw [hn] at h
      simp only [cond_false, Option.some.injEq] at h
      subst h
      have hb : ¬ b < 0 := by rw [neg?_eq, decide_eq_false_iff_not] at hn; exact hn
      have e : binOp .shl 0 (.int k a) (.int l b) = Op.shift .shl k a l b := rfl
      rw [e]
      simp only [Op.shift, if_neg hb]
      have : ishl k a b = k.wrap (a * 2 ^ min b.toNat k.bits) := by
        rw [← shiftN_eq hn]
        cases a with
        | ofNat m =>
          simp only [ishl]
          rw [wrapF_eq]
          congr 1
          show ((m <<< shiftN k b : Nat) : Int) = _
          rw [Nat.shiftLeft_eq]
          simp
        | negSucc m => rfl
      rw [this]; rfl
  case shr =>
    simp only [ibin] at h
    cases hn : neg? b with
    | true => rw [hn] at h; cases h
    | false =>
      rw [hn] at h
      simp only [cond_false, Option.some.injEq] at h
      subst h
      have hb : ¬ b < 0 := by rw [neg?_eq, decide_eq_false_iff_not] at hn; exact hn
      have e : binOp .shr 0 (.int k a) (.int l b) = Op.shift .shr k a l b := rfl
      rw [e]
      simp only [Op.shift, if_neg hb]
      have : ishr k a b = a.fdiv (2 ^ min b.toNat k.bits) := by
        rw [← shiftN_eq hn]
        cases a with
        | ofNat m =>
          simp only [ishr]
          show ((m >>> shiftN k b : Nat) : Int) = _
          rw [Nat.shiftRight_eq_div_pow]
          have e1 : ((2 : Int) ^ shiftN k b) = ((2 ^ shiftN k b : Nat) : Int) := by simp
          rw [e1]
          show _ = ((m : Int)).fdiv _
          rw [Int.fdiv_eq_ediv_of_nonneg _ (Int.natCast_nonneg _)]
          simp
        | negSucc m => rfl
      rw [this]; rfl
  case add =>
    obtain ⟨hk, h2⟩ := one .add h
    subst hk
    simp only [ibin1, wrapF_eq, addF_eq, negF_eq, ieqF_eq, iltF_eq] at h2
    have e : binOp .add 0 (.int k a) (.int k b) = Op.intArith .add k a b := by simp [binOp]
    rw [e]
    exact h2
  case sub =>
    obtain ⟨hk, h2⟩ := one .sub h
    subst hk
    simp only [ibin1, wrapF_eq, addF_eq, negF_eq, ieqF_eq, iltF_eq] at h2
    have e : binOp .sub 0 (.int k a) (.int k b) = Op.intArith .sub k a b := by simp [binOp]
    rw [e]
    rw [← Int.sub_eq_add_neg] at h2
    exact h2
  case mul =>
    obtain ⟨hk, h2⟩ := one .mul h
    subst hk
    simp only [ibin1, wrapF_eq, addF_eq, negF_eq, ieqF_eq, iltF_eq] at h2
    have e : binOp .mul 0 (.int k a) (.int k b) = Op.intArith .mul k a b := by simp [binOp]
    rw [e]
    exact h2
  case quo =>
    obtain ⟨hk, h2⟩ := one .quo h
    subst hk
    simp only [ibin1, wrapF_eq, addF_eq, negF_eq, ieqF_eq, iltF_eq] at h2
    have e : binOp .quo 0 (.int k a) (.int k b) = Op.intDiv .quo k a b := by simp [binOp]
    rw [e]
    cases hb : (b == 0) with
    | true => rw [hb] at h2; cases h2
    | false =>
      rw [hb] at h2
      have hb' : ¬ b = 0 := by simpa using hb
      simp only [Op.intDiv, if_neg hb']
      exact h2
  case rem =>
    obtain ⟨hk, h2⟩ := one .rem h
    subst hk
    simp only [ibin1, wrapF_eq, addF_eq, negF_eq, ieqF_eq, iltF_eq] at h2
    have e : binOp .rem 0 (.int k a) (.int k b) = Op.intDiv .rem k a b := by simp [binOp]
    rw [e]
    cases hb : (b == 0) with
    | true => rw [hb] at h2; cases h2
    | false =>
      rw [hb] at h2
      have hb' : ¬ b = 0 := by simpa using hb
      simp only [Op.intDiv, if_neg hb']
      exact h2
  case eql =>
    obtain ⟨hk, h2⟩ := one .eql h
    subst hk
    simp only [ibin1, wrapF_eq, addF_eq, negF_eq, ieqF_eq, iltF_eq] at h2
    have e : binOp .eql 0 (.int k a) (.int k b) = Op.intCmp .eql a b := by simp [binOp]
    rw [e]
    exact h2
  case neq =>
    obtain ⟨hk, h2⟩ := one .neq h
    subst hk
    simp only [ibin1, wrapF_eq, addF_eq, negF_eq, ieqF_eq, iltF_eq] at h2
    have e : binOp .neq 0 (.int k a) (.int k b) = Op.intCmp .neq a b := by simp [binOp]
    rw [e]
    exact h2
  case lss =>
    obtain ⟨hk, h2⟩ := one .lss h
    subst hk
    simp only [ibin1, wrapF_eq, addF_eq, negF_eq, ieqF_eq, iltF_eq] at h2
    have e : binOp .lss 0 (.int k a) (.int k b) = Op.intCmp .lss a b := by simp [binOp]
    rw [e]
    exact h2
  case leq =>
    obtain ⟨hk, h2⟩ := one .leq h
    subst hk
    simp only [ibin1, wrapF_eq, addF_eq, negF_eq, ieqF_eq, iltF_eq] at h2
    have e : binOp .leq 0 (.int k a) (.int k b) = Op.intCmp .leq a b := by simp [binOp]
    rw [e]
    have e2 : (!decide (b < a)) = decide (a ≤ b) := by rw [Bool.eq_iff_iff]; simp
    rw [e2] at h2
    exact h2
  case gtr =>
    obtain ⟨hk, h2⟩ := one .gtr h
    subst hk
    simp only [ibin1, wrapF_eq, addF_eq, negF_eq, ieqF_eq, iltF_eq] at h2
    have e : binOp .gtr 0 (.int k a) (.int k b) = Op.intCmp .gtr a b := by simp [binOp]
    rw [e]
    exact h2
  case geq =>
    obtain ⟨hk, h2⟩ := one .geq h
    subst hk
    simp only [ibin1, wrapF_eq, addF_eq, negF_eq, ieqF_eq, iltF_eq] at h2
    have e : binOp .geq 0 (.int k a) (.int k b) = Op.intCmp .geq a b := by simp [binOp]
    rw [e]
    have e2 : (!decide (a < b)) = decide (a ≥ b) := by rw [Bool.eq_iff_iff]; simp
    rw [e2] at h2
    exact h2

def litEq : LK → AVal → AVal → Option Bool
  | .int, .int k a, .int k' b => if k = k' then some (a == b) else none
  | .bool, .bool a, .bool b => some (a == b)
  | .str, .str a, .str b => some (a.data.toList == b.data.toList)
  | _, _, _ => none
def litEqs : List LK → List AVal → List AVal → Option Bool
  | [], [], [] => some true
  | k :: ks, x :: xs, y :: ys => (litEq k x y).bind fun b => (litEqs ks xs ys).map (b && ·)
  | _, _, _ => none

def isNil : EqK → AVal → Option Bool
  | .ptr, .nilp => some true | .ptr, .ptr .. => some false
  | .slice, .nils => some true | .slice, .sl .. => some false
  | .map, .nilm => some true | .map, .map _ => some false
  | .func, .nilf => some true | .func, .fn .. => some false
  | .iface, .nili => some true | .iface, .iface .. => some false
  | _, _ => none

def aeq : EqK → AVal → AVal → Option Bool
  | .bool, .bool a, .bool b => some (a == b)
  | .flat ks, .agg xs, .agg ys => litEqs ks xs ys
  | .flat _, _, _ => none
  | k, x, y => match isNil k x, isNil k y with
    | some a, some b => if a || b then some (a && b) else none
    | _, _ => none

def fillP : List AVal → List (Nat × Nat × AVal) → Option (List AVal)
  | cs, [] => some cs
  | cs, (off, size, v) :: r => if v.cells.length = size ∧ off + size ≤ cs.length ∧ v.cells.all (·.cell) = true then fillP (cs.take off ++ v.cells ++ cs.drop (off + size)) r else none

def findK (kk : LK) (k : AVal) : List (AVal × AVal) → Option (Option (Nat × AVal))
  | [] => some none
  | (k', v) :: es => match litEq kk k k' with
    | some true => some (some (0, v))
    | some false => (findK kk k es).map fun r => r.map fun (i, v) => (i + 1, v)
    | none => none

def asBytes : List AVal → Option (List UInt8)
  | [] => some []
  | .int .u8 n :: r => (asBytes r).map (n.toNat.toUInt8 :: ·)
  | _ => none

/-- A part of a struct or an array. -/
def partA (n : Option Nat) (cs : List AVal) (off : Nat) : Option AVal := match n with
  | none => cs[off]?
  | some n => if off + n ≤ cs.length then some (.agg ((cs.drop off).take n)) else none

def optOpd (e : Env) : Option AOpd → Option AVal
  | none => none
  | some x => some (opd e x)

/-! What each operation comes to: small functions, for the sake of Lean's kernel. -/
def opMov (e : Env) (h : AHeap) (x : AOpd) : Option (AVal × AHeap) := some (opd e x, h)
def opPick (e : Env) (h : AHeap) (c : AOpd) (a : AOpd) (b : AOpd) : Option (AVal × AHeap) := match opd e c with
    | .bool t => some (if t then opd e a else opd e b, h)
    | _ => none
def opAlloc (e : Env) (h : AHeap) (zero : List AVal) : Option (AVal × AHeap) := some (.ptr h.n 0 0, h.push (.cells 0 false zero))
def opBox (e : Env) (h : AHeap) (x : AOpd) : Option (AVal × AHeap) := if (opd e x).cells.all (·.cell) = true then some (.ptr h.n 0 0, h.push (.cells 0 false (opd e x).cells)) else none
def opBuild (e : Env) (h : AHeap) (zero : List AVal) (parts : List (Nat × Nat × AOpd)) : Option (AVal × AHeap) := (fillP zero (parts.map fun (o, s, x) => (o, s, opd e x))).map fun cs => (.agg cs, h)
def opBuildSlice (e : Env) (h : AHeap) (esz : Nat) (n : Nat) (zero : List AVal) (parts : List (Nat × AOpd)) : Option (AVal × AHeap) := (fillP ((List.range (n * esz)).map fun i => zero.getD (i % esz) .undef) (parts.map fun (i, x) => (i * esz, esz, opd e x))).map fun cs => (.sl h.n 0 0 n esz, h.push (.cells 0 false cs))
def opLoad (e : Env) (h : AHeap) (n : Option Nat) (a : AOpd) : Option (AVal × AHeap) := match opd e a with
    | .ptr id g off => if id < h.n then (match n with
      | none => (h.rd id g off 1).bind fun cs => match cs with | [v] => some (v, h) | _ => none
      | some n => (h.rd id g off n).map fun cs => (.agg cs, h)) else none
    | _ => none
def opStore (e : Env) (h : AHeap) (n : Nat) (a : AOpd) (x : AOpd) : Option (AVal × AHeap) := match opd e a with
    | .ptr id g off => if id < h.n ∧ (opd e x).cells.length = n then (h.wr id g off (opd e x).cells).map fun h' => (.undef, h') else none
    | _ => none
def opNilCheck (e : Env) (h : AHeap) (x : AOpd) : Option (AVal × AHeap) := match opd e x with
    | .ptr id g off => some (.ptr id g off, h)
    | .fn (.func f) a b => some (.fn (.func f) a b, h)
    | .fn (.yield f) a b => some (.fn (.yield f) a b, h)
    | .map id => some (.map id, h)
    | _ => none
def opBin (e : Env) (h : AHeap) (op : BinOp) (x : AOpd) (y : AOpd) : Option (AVal × AHeap) := match opd e x, opd e y with
    | .int k a, .int l b => (ibin op k a l b).map fun v => (v, h)
    | .str a, .str b => match op with
      | .eql => some (.bool (a.data.toList == b.data.toList), h)
      | .neq => some (.bool (!(a.data.toList == b.data.toList)), h)
      | .add => if a.size + b.size ≤ 1099511627776 then some (.str ⟨(a.data.toList ++ b.data.toList).toArray⟩, h) else none
      | .lss => some (.bool (Op.bytesLess a.data.toList b.data.toList), h)
      | _ => none
    | .flt k a, .flt l b => (ofSem (binOp op 0 (.float k a) (.float l b))).map fun v => (v, h)
    | _, _ => none
def opEql (e : Env) (h : AHeap) (neg : Bool) (k : EqK) (x : AOpd) (y : AOpd) : Option (AVal × AHeap) := (aeq k (opd e x) (opd e y)).map fun b => (.bool (if neg then !b else b), h)
def opUn (e : Env) (h : AHeap) (op : UnOp) (x : AOpd) : Option (AVal × AHeap) := (opd e x).lit.bind fun a => (ofSem (Op.unary op a)).map fun v => (v, h)
def opConv (e : Env) (h : AHeap) (k : IntKind) (x : AOpd) : Option (AVal × AHeap) := match opd e x with
    | .int _ n => some (.int k (wrapF k n), h)
    | _ => none
def opB2s (e : Env) (h : AHeap) (x : AOpd) : Option (AVal × AHeap) := match opd e x with
    | .nils => some (.str .empty, h)
    | .sl id g off len 1 => if id < h.n then (h.rd id g off len).bind fun cs => (asBytes cs).map fun bs => (.str ⟨bs.toArray⟩, h) else none
    | _ => none
def opMkIface (e : Env) (h : AHeap) (t : TypeId) (x : AOpd) : Option (AVal × AHeap) := some (.iface t (opd e x), h)
def opMkFn (e : Env) (h : AHeap) (f : Fn) (a : List AOpd) (b : List AOpd) : Option (AVal × AHeap) := some (.fn f (a.map (opd e)) (b.map (opd e)), h)
def opMkMap (e : Env) (h : AHeap) : Option (AVal × AHeap) := some (.map h.n, h.push (.map []))
def opMkSlice (e : Env) (h : AHeap) (esz : Nat) (bytes : Nat) (zero : List AVal) (x : AOpd) : Option (AVal × AHeap) := match opd e x with
    | .int k n => if 0 ≤ n ∧ n.toNat * bytes ≤ 1099511627776 ∧ n.toNat * esz ≤ 1099511627776 then some (.sl h.n 0 0 n.toNat esz, h.push (.cells 0 false ((List.range (n.toNat * esz)).map fun i => zero.getD (i % esz) .undef))) else none
    | _ => none
def opSlice (e : Env) (h : AHeap) (esz : Nat) (x : AOpd) (lo : Option AOpd) (hi : Option AOpd) : Option (AVal × AHeap) :=
    let l : Option Nat := match optOpd e lo with | none => some 0 | some (.int _ n) => if 0 ≤ n then some n.toNat else none | _ => none
    let r : Nat → Option Nat := fun len => match optOpd e hi with | none => some len | some (.int _ n) => if 0 ≤ n then some n.toNat else none | _ => none
    match opd e x with
    | .nils => l.bind fun l => (r 0).bind fun r => if l = 0 ∧ r = 0 then some (.nils, h) else none
    | .sl id g off len es => l.bind fun l => (r len).bind fun r => if l ≤ r ∧ r ≤ len ∧ es = esz ∧ g = h.gen id then some (.sl id g (off + l * esz) (r - l) esz, h) else none
    | _ => none
def opFieldAddr (e : Env) (h : AHeap) (off : Nat) (x : AOpd) : Option (AVal × AHeap) := match opd e x with
    | .ptr id g o => some (.ptr id g (o + off), h)
    | _ => none
def opField (e : Env) (h : AHeap) (off : Nat) (n : Option Nat) (x : AOpd) : Option (AVal × AHeap) := match opd e x with
    | .agg cs => (partA n cs off).map fun v => (v, h)
    | _ => none
def opIdxS (e : Env) (h : AHeap) (esz : Nat) (x : AOpd) (i : AOpd) : Option (AVal × AHeap) := match opd e x, opd e i with
    | .sl id g off len es, .int _ n => if 0 ≤ n ∧ n < len ∧ es = esz ∧ g = h.gen id then some (.ptr id g (off + n.toNat * esz), h) else none
    | _, _ => none
def opIdxA (e : Env) (h : AHeap) (esz : Nat) (len : Nat) (x : AOpd) (i : AOpd) : Option (AVal × AHeap) := match opd e x, opd e i with
    | .ptr id g off, .int _ n => if 0 ≤ n ∧ n < len then some (.ptr id g (off + n.toNat * esz), h) else none
    | _, _ => none
def opIndex (e : Env) (h : AHeap) (esz : Nat) (len : Nat) (m : Option Nat) (x : AOpd) (i : AOpd) : Option (AVal × AHeap) := match opd e x, opd e i with
    | .agg cs, .int _ n => if 0 ≤ n ∧ n < len then (partA m cs (n.toNat * esz)).map fun v => (v, h) else none
    | _, _ => none
def opIndexStr (e : Env) (h : AHeap) (x : AOpd) (i : AOpd) : Option (AVal × AHeap) := match opd e x, opd e i with
    | .str s, .int _ n => if 0 ≤ n then s[n.toNat]?.map fun b => (.int .u8 b.toNat, h) else none
    | _, _ => none
def opLookup (e : Env) (h : AHeap) (kk : LK) (zero : AVal) (ok : Bool) (m : AOpd) (k : AOpd) : Option (AVal × AHeap) :=
    let out (v : AVal) (b : Bool) : Option (AVal × AHeap) := some (if ok then .tup [v, .bool b] else v, h)
    match opd e m with
    | .nilm => out zero false
    | .map id => match h.get id with
      | .map es => (findK kk (opd e k) es).bind fun r => match r with | some (_, v) => out v true | none => out zero false
      | _ => none
    | _ => none
def opMapUpd (e : Env) (h : AHeap) (kk : LK) (m : AOpd) (k : AOpd) (v : AOpd) : Option (AVal × AHeap) := match opd e m with
    | .map id => match h.get id with
      | .map es => if (opd e v).cell = true then (findK kk (opd e k) es).map fun r => match r with
          | some (i, _) => (.undef, h.set id (.map (es.modify i fun p => (p.1, opd e v))))
          | none => (.undef, h.set id (.map (es ++ [(opd e k, opd e v)]))) else none
      | _ => none
    | _ => none
def opAssertT (e : Env) (h : AHeap) (t : TypeId) (ok : Bool) (zero : AVal) (x : AOpd) : Option (AVal × AHeap) := match opd e x with
    | .iface t' v => if t' = t then some (if ok then .tup [v, .bool true] else v, h) else if ok then some (.tup [zero, .bool false], h) else none
    | .nili => if ok then some (.tup [zero, .bool false], h) else none
    | _ => none
def opExtract (e : Env) (h : AHeap) (x : AOpd) (i : Nat) : Option (AVal × AHeap) := match opd e x with
    | .tup vs => vs[i]?.map fun v => (v, h)
    | _ => none
def opLenS (e : Env) (h : AHeap) (x : AOpd) : Option (AVal × AHeap) := match opd e x with
    | .nils => some (.int .i64 0, h)
    | .sl _ _ _ len _ => some (.int .i64 len, h)
    | _ => none
def opLenT (e : Env) (h : AHeap) (x : AOpd) : Option (AVal × AHeap) := match opd e x with
    | .str s => some (.int .i64 s.size, h)
    | _ => none
def opLenM (e : Env) (h : AHeap) (x : AOpd) : Option (AVal × AHeap) := match opd e x with
    | .nilm => some (.int .i64 0, h)
    | .map id => match h.get id with | .map es => some (.int .i64 es.length, h) | _ => none
    | _ => none
def opMin (e : Env) (h : AHeap) (x : AOpd) (y : AOpd) : Option (AVal × AHeap) := match opd e x, opd e y with
    | .int k a, .int k' b => if k = k' then some (.int k (if b < a then b else a), h) else none
    | _, _ => none
def opMax (e : Env) (h : AHeap) (x : AOpd) (y : AOpd) : Option (AVal × AHeap) := match opd e x, opd e y with
    | .int k a, .int k' b => if k = k' then some (.int k (if a < b then b else a), h) else none
    | _, _ => none
def opAppend (e : Env) (h : AHeap) (esz : Nat) (bytes : Nat) (x : AOpd) (y : AOpd) : Option (AVal × AHeap) := h.app esz bytes (opd e x) (opd e y)
def opCopy (e : Env) (h : AHeap) (esz : Nat) (x : AOpd) (y : AOpd) : Option (AVal × AHeap) := match opd e x with
    | .nils => (h.elems esz (opd e y)).map fun _ => (.int .i64 0, h)
    | .sl id g off len es => if es = esz ∧ id < h.n then (h.elems esz (opd e y)).bind fun (m, ys) => (h.wr id g off (ys.take (min m len * esz))).map fun h' => (.int .i64 (min m len : Nat), h') else none
    | _ => none
def opDelete (e : Env) (h : AHeap) (kk : LK) (m : AOpd) (k : AOpd) : Option (AVal × AHeap) := match opd e m with
    | .map id => match h.get id with
      | .map es => (findK kk (opd e k) es).map fun r => match r with
          | some (i, _) => (.undef, h.set id (.map (es.eraseIdx i)))
          | none => (.undef, h)
      | _ => none
    | _ => none

/-- What an operation that is no call comes to. -/
def aop (e : Env) (h : AHeap) : AOp → Option (AVal × AHeap)
  | .mov x => opMov e h x
  | .pick c a b => opPick e h c a b
  | .alloc zero => opAlloc e h zero
  | .box x => opBox e h x
  | .build zero parts => opBuild e h zero parts
  | .buildSlice esz n zero parts => opBuildSlice e h esz n zero parts
  | .load n a => opLoad e h n a
  | .store n a x => opStore e h n a x
  | .nilCheck x => opNilCheck e h x
  | .bin op x y => opBin e h op x y
  | .eql neg k x y => opEql e h neg k x y
  | .un op x => opUn e h op x
  | .conv k x => opConv e h k x
  | .b2s x => opB2s e h x
  | .mkIface t x => opMkIface e h t x
  | .mkFn f a b => opMkFn e h f a b
  | .mkMap => opMkMap e h
  | .mkSlice esz bytes zero x => opMkSlice e h esz bytes zero x
  | .slice esz x lo hi => opSlice e h esz x lo hi
  | .fieldAddr off x => opFieldAddr e h off x
  | .field off n x => opField e h off n x
  | .idxS esz x i => opIdxS e h esz x i
  | .idxA esz len x i => opIdxA e h esz len x i
  | .index esz len m x i => opIndex e h esz len m x i
  | .indexStr x i => opIndexStr e h x i
  | .lookup kk zero ok m k => opLookup e h kk zero ok m k
  | .mapUpd kk m k v => opMapUpd e h kk m k v
  | .assertT t ok zero x => opAssertT e h t ok zero x
  | .extract x i => opExtract e h x i
  | .lenS x => opLenS e h x
  | .lenT x => opLenT e h x
  | .lenM x => opLenM e h x
  | .min x y => opMin e h x y
  | .max x y => opMax e h x y
  | .append esz bytes x y => opAppend e h esz bytes x y
  | .copy esz x y => opCopy e h esz x y
  | .delete kk m k => opDelete e h kk m k

inductive AExit where
  | normal
  | exit (id : Nat)
  | ret
  | panic (v : AVal)
  deriving Inhabited

structure St where
  e : Env
  h : AHeap

inductive ARes where
  | ret (v : AVal)
  | panic (v : AVal)

/-- What is run again, and what is called, a level lower. -/
structure Rec where
  code : ACode → St → Option (AExit × St)
  call : FuncId → List AVal → AHeap → Option (ARes × AHeap)
  late : FuncId → List AVal → Option AVal → AHeap → Option AHeap

def put (e : Env) : Option Nat → AVal → Env
  | none, _ => e
  | some d, v => Tr.set e d v

def wanted (e : Env) : Option (Nat × Bool) → Option Bool
  | none => some true
  | some (t, b) => match e.val t with
    | .bool c => some (c == b)
    | .tup _ => some false
    | _ => none

def exIs (r : Rec) : List AInstr → St → Option (AExit × St)
  | [], s => some (.normal, s)
  | i :: is, s => match wanted s.e i.guard with
    | none => none
    | some false => exIs r is { s with e := put s.e i.dst (.tup []) }
    | some true => match i.op with
      | .call f args => match opd s.e f with
        | .fn (.func f) first captured => match r.call f (first ++ args.map (opd s.e) ++ captured) s.h with
          | some (.ret v, h') => exIs r is { e := put s.e i.dst v, h := h' }
          | some (.panic v, h') => some (.panic v, { s with h := h' })
          | none => none
        | _ => none
      | .panic x => match opd s.e x with
        | .iface t v => some (.panic (.iface t v), s)
        | _ => none
      | .op op => match aop s.e s.h op with
        | some (v, h') => exIs r is { e := put s.e i.dst v, h := h' }
        | none => none

mutual
def AVal.beq : AVal → AVal → Bool
  | .undef, .undef => true
  | .bool a, .bool b => a == b
  | .int k a, .int l b => k == l && a == b
  | .flt k a, .flt l b => k == l && a == b
  | .str a, .str b => a.data.toList == b.data.toList
  | .nilp, .nilp => true
  | .ptr a b c, .ptr x y z => a == x && b == y && c == z
  | .nils, .nils => true
  | .sl a b c d e, .sl v w x y z => a == v && b == w && c == x && d == y && e == z
  | .nilm, .nilm => true
  | .map a, .map b => a == b
  | .nilf, .nilf => true
  | .iface t a, .iface u b => t == u && a.beq b
  | .nili, .nili => true
  | .agg a, .agg b => AVal.beqs a b
  | .tup a, .tup b => AVal.beqs a b
  | _, _ => false
def AVal.beqs : List AVal → List AVal → Bool
  | [], [] => true
  | a :: as, b :: bs => a.beq b && AVal.beqs as bs
  | _, _ => false
end

/-- Does an operation come to this value at a heap? -/
def same (e : Env) (op : AOp) (v : AVal) (h : AHeap) : Bool := match aop e h op with
  | some (u, _) => u.beq v
  | none => false

def wiped (e : Env) (is : List DInstr) : Env := is.foldl (fun e d => put e d.i.dst .undef) e

/-- What an instruction has met, and what it has come to. -/
structure TS where
  e : Env
  h : AHeap
  w : Bool
  v : AVal

inductive TE where
  | fin
  | pan (v : AVal)

/-- A region, in the order of its text, with all that its instructions have met. -/
def trD (r : Rec) : List DInstr → Env → AHeap → Option (List TS × TE × Env × AHeap)
  | [], e, h => some ([], .fin, e, h)
  | d :: ds, e, h => match wanted e d.i.guard with
    | none => none
    | some false => (trD r ds (put e d.i.dst (.tup [])) h).map fun (ts, o) => (⟨e, h, false, .tup []⟩ :: ts, o)
    | some true => match d.k, d.i.op with
      | .act _, .op op => match aop e h op with
        | some (v, h') => (trD r ds (put e d.i.dst v) h').map fun (ts, o) => (⟨e, h, true, v⟩ :: ts, o)
        | none => none
      | .act last, .call f args => match opd e f with
        | .fn (.func f) first captured => match r.call f (first ++ args.map (opd e) ++ captured) h with
          | some (.ret v, h') => (trD r ds (put e d.i.dst v) h').map fun (ts, o) => (⟨e, h, true, v⟩ :: ts, o)
          | some (.panic v, h') => if last then some ([⟨e, h, true, v⟩], .pan v, e, h') else none
          | none => none
        | _ => none
      | _, .op op => match aop e h op with
        | some (v, _) => (trD r ds (put e d.i.dst v) h).map fun (ts, o) => (⟨e, h, true, v⟩ :: ts, o)
        | none => none
      | _, _ => none

def heapAt (ts : List TS) (h : AHeap) (q : Nat) : AHeap := match ts[q]? with
  | some t => t.h
  | none => h

def readOk (all : List TS) (h : AHeap) (d : DInstr) (t : TS) : Bool := match d.k, d.i.op with
  | .read qs, .op op => !t.w || qs.all fun q => decide (all.length < q) || same t.e op t.v (heapAt all h q)
  | _, _ => true
def readsOk (all : List TS) (h : AHeap) : List DInstr → List TS → Bool
  | d :: ds, t :: ts => readOk all h d t && readsOk all h ds ts
  | _, _ => true

/-- A region whose order is open. -/
def exD (r : Rec) (is : List DInstr) (s : St) : Option (AExit × St) := match trD r is s.e s.h with
  | none => none
  | some (ts, o, e, h) => if readsOk ts h is ts = true then (match o with
    | .fin => some (.normal, { e, h })
    | .pan v => some (.panic v, { e := wiped s.e is, h })) else none

def ex (r : Rec) : ACode → St → Option (AExit × St)
  | .skip, s => some (.normal, s)
  | .region is, s => exIs r is s
  | .draw is, s => exD r is s
  | .seq a b, s => match ex r a s with
    | some (.normal, s') => ex r b s'
    | o => o
  | .cond c a b, s => match opd s.e c with
    | .bool true => ex r a s
    | .bool false => ex r b s
    | _ => none
  | .block id b, s => match ex r b s with
    | some (.exit id', s') => if id' = id then some (.normal, s') else some (.exit id', s')
    | o => o
  | .loop b, s => match ex r b s with
    | some (.normal, s') => r.code (.loop b) s'
    | o => o
  | .exit id, s => some (.exit id, s)
  | .ret, s => some (.ret, s)

def resVal (s : St) : AResVar → Option AVal
  | .tmp t => some (s.e.val t)
  | .cell t n => (aop s.e s.h (.load n (.tmp t))).map (·.1)
def resVals (s : St) : List AResVar → Option (List AVal)
  | [] => some []
  | x :: xs => (resVal s x).bind fun v => (resVals s xs).map (v :: ·)
def resOf (s : St) (rs : List AResVar) : Option AVal := (resVals s rs).map fun
  | [v] => v
  | vs => .tup vs

def envOf : Nat → List AVal → Env
  | _, [] => .nil
  | i, v :: vs => Tr.set (envOf (i + 1) vs) i v

abbrev AProg := Tr AFun

def callF (P : AProg) (r : Rec) (f : FuncId) (args : List AVal) (h : AHeap) : Option (ARes × AHeap) :=
  match Tr.get P f with
  | none => none
  | some fn => match fn.rcv with
    | some _ => none
    | none => match ex r fn.body { e := envOf 0 args, h } with
      | some (.ret, s) => (resOf s fn.results).map fun v => (.ret v, s.h)
      | some (.panic v, s) => some (.panic v, s.h)
      | some (.normal, s) => match fn.late with
        | none => (resOf s fn.results).map fun v => (.ret v, s.h)
        | some (x, c) => match opd s.e x with
          | .fn (.func g) first captured => match ex r c s with
            | some (.normal, s2) | some (.ret, s2) => (r.late g (first ++ captured) none s2.h).bind fun h3 => (resOf { s2 with h := h3 } fn.results).map fun v => (.ret v, h3)
            | some (.panic v, s2) => (r.late g (first ++ captured) (some v) s2.h).bind fun h3 => (resOf { s2 with h := h3 } fn.results).map fun v => (.ret v, h3)
            | _ => none
          | _ => none
      | _ => none

/-- A call that was put off, of a function that recovers; and of it only that it ends well. -/
def lateF (P : AProg) (r : Rec) (f : FuncId) (args : List AVal) (pan : Option AVal) (h : AHeap) : Option AHeap :=
  match Tr.get P f with
  | none => none
  | some fn => match fn.late, fn.rcv with
    | none, some dst => match ex r fn.body { e := put (envOf 0 args) dst (pan.getD .nili), h } with
      | some (.normal, s) | some (.ret, s) => (resOf s fn.results).map fun _ => s.h
      | _ => none
    | _, _ => none

def run (P : AProg) : Nat → Rec
  | 0 => { code := fun _ _ => none, call := fun _ _ _ => none, late := fun _ _ _ _ => none }
  | n + 1 => { code := ex (run P n), call := callF P (run P n), late := lateF P (run P n) }

end Go.AM
