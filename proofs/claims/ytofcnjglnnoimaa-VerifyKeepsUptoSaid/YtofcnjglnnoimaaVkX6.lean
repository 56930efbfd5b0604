/-
 What the functions of this seat do,on the machine: lemmas for the laws.
-/
import Derived.Test.YtofcnjglnnoimaaVkX5
namespace Go.Proofs.Ytofcnjglnnoimaa.Vf
open Go Go.AM Go.Proofs.Ytofcnjglnnoimaa.AmGY
attribute [local irreducible] AM.wp AM.wpIs AM.wpTr AM.opI AM.gI AM.cI AM.trI AM.callI AM.fnI AM.trG AM.trOp AM.trCall AM.seqC AM.loopI
set_option maxRecDepth 100000
set_option linter.unusedVariables false
set_option linter.unusedSimpArgs false
abbrev encB (n : Int) : List AVal := [.int .u8 n]
abbrev encK (n : Int) : List AVal := [.int .i64 n]
structure PIns where
 op : Int
 a : Int
 b : Int
 c : Int
 imm : Nat
 list : List Int
structure PFunc where
 params : Int
 slots : List Int
 results : List Int
 code : List PIns
structure PProg where
 types : List (Bool × List Int)
 globals : List Int
 funcs : List PFunc
def TypeR (h : AHeap) (t : Bool × List Int) (row : List AVal) : Prop := ∃ v,row = [.bool t.1,v] ∧ SlIn h 1 encK v t.2
def InsR (h : AHeap) (i : PIns) (row : List AVal) : Prop := i.imm ≤ 18446744073709551615 ∧ ∃ v,row = [.int .i64 i.op, .int .i64 i.a, .int .i64 i.b, .int .i64 i.c, .int .u64 i.imm,v] ∧ SlIn h 1 encK v i.list
def FuncR (h : AHeap) (f : PFunc) (row : List AVal) : Prop := ∃ sv rv cv,row = [.int .i64 f.params,sv,rv,cv] ∧ SlIn h 1 encK sv f.slots ∧ SlIn h 1 encK rv f.results ∧ SlR h 6 (InsR h) cv f.code
def ProgR (h : AHeap) (p : PProg) (row : List AVal) : Prop := ∃ tv gv fv,row = [tv,gv,fv] ∧ SlR h 2 (TypeR h) tv p.types ∧ SlIn h 1 encK gv p.globals ∧ SlR h 4 (FuncR h) fv p.funcs
section
variable {h h' : AHeap} (hn : h.n ≤ h'.n) (k : ∀ j,j < h.n → h'.get j = h.get j)
 include hn k
theorem TypeR.mono {t : Bool × List Int} {row : List AVal} (r : TypeR h t row) : TypeR h' t row := by
 obtain ⟨v,e,s⟩ := r; exact ⟨v,e,s.mono hn k⟩
theorem InsR.mono {i : PIns} {row : List AVal} (r : InsR h i row) : InsR h' i row := by
 obtain ⟨q,v,e,s⟩ := r; exact ⟨q,v,e,s.mono hn k⟩
theorem FuncR.mono {f : PFunc} {row : List AVal} (r : FuncR h f row) : FuncR h' f row := by
 obtain ⟨a,b,c,e,s1,s2,s3⟩ := r
 exact ⟨a,b,c,e,s1.mono hn k,s2.mono hn k,s3.mono (fun _ _ q => InsR.mono hn k q) hn k⟩
theorem ProgR.mono {p : PProg} {row : List AVal} (r : ProgR h p row) : ProgR h' p row := by
 obtain ⟨a,b,c,e,s1,s2,s3⟩ := r
 exact ⟨a,b,c,e,s1.mono (fun _ _ q => TypeR.mono hn k q) hn k,s2.mono hn k,s3.mono (fun _ _ q => FuncR.mono hn k q) hn k⟩
end
abbrev mx : Int := 9223372036854775807
structure PIns.Ok (i : PIns) : Prop where
 op : i.op ≤ mx
 a : i.a ≤ mx
 b : i.b ≤ mx
 c : i.c ≤ mx
 imm : i.imm ≤ 18446744073709551615
 list : ∀ x,x ∈ i.list → x ≤ mx
structure PFunc.Ok (f : PFunc) : Prop where
 params : f.params ≤ mx
 slots : ∀ x,x ∈ f.slots → x ≤ mx
 results : ∀ x,x ∈ f.results → x ≤ mx
 code : ∀ x,x ∈ f.code → x.Ok
structure PProg.Ok (p : PProg) : Prop where
 types : ∀ t,t ∈ p.types → ∀ x,x ∈ t.2 → x ≤ mx
 globals : ∀ x,x ∈ p.globals → x ≤ mx
 funcs : ∀ f,f ∈ p.funcs → f.Ok
theorem SlIn.cellv {h : AHeap} {esz : Nat} {α : Type} {enc : α → List AVal} {v : AVal} {l : List α} (s : SlIn h esz enc v l) : v.cell = true := by
 rcases s with s | ⟨_,_,_,rfl,_⟩
 ·exact s.cells.2
 ·rfl
theorem SlR.cellv {h : AHeap} {esz : Nat} {α : Type} {R : α → List AVal → Prop} {v : AVal} {l : List α} (s : SlR h esz R v l) : v.cell = true := by
 rcases s with ⟨rfl,_⟩ | ⟨_,_,rfl,_⟩ | ⟨_,_,_,_,_,_,rfl,_⟩ <;> rfl
theorem two_of {vs : List AVal} {off : Nat} {a b : AVal} (e : (vs.drop off).take 2 = [a,b]) : vs[off]? = some a ∧ vs[off + 1]? = some b := by
 have h1 : ((vs.drop off).take 2)[0]? = some a := by rw [e]; rfl
 have h2 : ((vs.drop off).take 2)[1]? = some b := by rw [e]; rfl
 rw [List.getElem?_take,if_pos (by omega), List.getElem?_drop] at h1 h2
 exact ⟨h1,h2⟩
theorem SlIn.beqv {h : AHeap} {esz : Nat} {α : Type} {enc : α → List AVal} {v : AVal} {l : List α} (s : SlIn h esz enc v l) : v.beq v = true := by
 rcases s with s | ⟨_,_,_,rfl,_⟩
 ·exact s.beq
 ·exact AM.beq_sl _ _ _ _ _
theorem SlR.beqv {h : AHeap} {esz : Nat} {α : Type} {R : α → List AVal → Prop} {v : AVal} {l : List α} (s : SlR h esz R v l) : v.beq v = true := by
 rcases s with ⟨rfl,_⟩ | ⟨_,_,rfl,_⟩ | ⟨_,_,_,_,_,_,rfl,_⟩
 ·rfl
 ·exact AM.beq_sl _ _ _ _ _
 ·exact AM.beq_sl _ _ _ _ _
theorem SlR.atv {h : AHeap} {esz : Nat} {α : Type} {R : α → List AVal → Prop} {v : AVal} {l : List α} (s : SlR h esz R v l) {i : Nat} {a : α} (hi : l[i]? = some a) :
  ∃ id g off vs ro row,v = .sl id g off l.length esz ∧ h.get id = .cells g ro vs ∧ id < h.n ∧ off + i * esz + esz ≤ vs.length ∧ (vs.drop (off + i * esz)).take esz = row ∧ row.length = esz ∧ R a row := by
 have hlt : i < l.length := (List.getElem?_eq_some_iff.1 hi).1
 obtain ⟨id,g,off,vs,ro,row,e1,e2,e3,e4,e5,e6,e7⟩ := s.ix hi .i64
 rcases s with ⟨_,rfl⟩ | ⟨id', off', _,rfl,_⟩ | ⟨id', g', off', vs', ro', rows,rfl,a1,a2,_⟩
 ·simp at hi
 ·simp at hi
 ·rw [AM.ix_sl h a1 (Int.natCast_nonneg _) (by omega)] at e1
  simp only [Option.some.injEq,Prod.mk.injEq,AVal.ptr.injEq,and_true,Int.toNat_natCast] at e1
  obtain ⟨rfl,rfl,rfl⟩ := e1
  rw [a1] at e2
  simp only [AObj.cells.injEq,true_and] at e2
  obtain ⟨rfl,rfl⟩ := e2
  exact ⟨_,_,off', _,_,row,rfl,a1,a2,e4,e5,e6,e7⟩
theorem ProgR.cellv {h : AHeap} {p : PProg} {row : List AVal} (R : ProgR h p row) : row.all (·.cell) = true ∧ row.length = 3 := by
 obtain ⟨a,b,c,rfl,s1,s2,s3⟩ := R
 have c1 := SlR.cellv s1
 have c2 := SlIn.cellv s2
 have c3 := SlR.cellv s3
 simp only [List.all_cons,c1,c2,c3,List.all_nil,Bool.and_self,List.length_cons,List.length_nil]
 trivial
theorem ProgR.keep {h h' : AHeap} {p : PProg} {row : List AVal} (R : ProgR h p row) {F : List Nat} (f : HFrame h h' [] F) : ProgR h' p row := ProgR.mono f.n (fun j hj => f.get j hj (by simp)) R
theorem sum_take {α : Type} (sz : α → Nat) (l : List α) : ∀ i, ((l.take i).map sz).sum ≤ (l.map sz).sum := by
 induction l with
 | nil => simp
 | cons a l ih =>
  intro i
  cases i with
  | zero => simp
  | succ i => have := ih i; simp only [List.take_succ_cons,List.map_cons,List.sum_cons]; omega
theorem sum_mem {α : Type} (sz : α → Nat) {l : List α} {i : Nat} {a : α} (h : l[i]? = some a) : ((l.take i).map sz).sum + sz a ≤ (l.map sz).sum := by
 have h1 := sum_take sz l (i + 1)
 rw [take_succ_of h,List.map_append,List.sum_append] at h1
 simpa using h1
theorem len_sum {α : Type} (sz : α → Nat) (h : ∀ a,1 ≤ sz a) (l : List α) : l.length ≤ (l.map sz).sum := by
 induction l with
 | nil => simp
 | cons a l ih => have := h a; simp only [List.length_cons,List.map_cons,List.sum_cons]; omega
/-- The types of a program. -/
structure PT (P : Program) (tB tI tU tK tSK tSI tIns tSIns tFunc tSFunc tType tSType tProg : TypeId) : Prop where
 uB : P.underlying tB = some .bool
 uI : P.underlying tI = some (.int .i64)
 uU : P.underlying tU = some (.int .u64)
 uK : P.underlying tK = some (.int .i64)
 uSK : P.underlying tSK = some (.slice tK)
 uSI : P.underlying tSI = some (.slice tI)
 uIns : ∃ fs,P.underlying tIns = some (.struct fs) ∧ fs.toList.map (·.type) = [tI,tI,tI,tI,tU,tSI]
 uSIns : P.underlying tSIns = some (.slice tIns)
 uFunc : ∃ fs,P.underlying tFunc = some (.struct fs) ∧ fs.toList.map (·.type) = [tI,tSK,tSK,tSIns]
 uSFunc : P.underlying tSFunc = some (.slice tFunc)
 uType : ∃ fs,P.underlying tType = some (.struct fs) ∧ fs.toList.map (·.type) = [tB,tSK]
 uSType : P.underlying tSType = some (.slice tType)
 uProg : ∃ fs,P.underlying tProg = some (.struct fs) ∧ fs.toList.map (·.type) = [tSType,tSK,tSFunc]
 cK : P.cellsOf tK = 1
 cI : P.cellsOf tI = 1
 cIns : P.cellsOf tIns = 6
 cFunc : P.cellsOf tFunc = 4
 cType : P.cellsOf tType = 2
def sT (t : Bool × List Int) : Nat := t.2.length + 3
def sI (i : PIns) : Nat := i.list.length + 7
def sF (f : PFunc) : Nat := f.slots.length + f.results.length + (f.code.map sI).sum + 5
def sP (p : PProg) : Nat := (p.types.map sT).sum + p.globals.length + (p.funcs.map sF).sum + 4
theorem slr_map {h : AHeap} {m : Nat} {α β : Type} {f : α → β} {R : β → List AVal → Prop} {v : AVal} {l : List α} (s : SlR h m (fun a row => R (f a) row) v l) : SlR h m R v (l.map f) := by
 rcases s with ⟨a,rfl⟩ | ⟨id,off,a,rfl,c,e⟩ | ⟨id,g,off,vs,ro,rows,rfl,e1,e2,e0,e3,e4,e5,e6⟩
 ·exact .inl ⟨a,rfl⟩
 ·exact .inr (.inl ⟨id,off,a,rfl,c,e⟩)
 ·refine .inr (.inr ⟨id,g,off,vs,ro,rows,by simp,e1,e2,by simpa using e0,by simpa using e3,by simpa using e4,e5,fun i a row h1 h2 => ?_⟩)
  rw [List.getElem?_map] at h1
  simp only [Option.map_eq_some_iff] at h1
  obtain ⟨x,hx,rfl⟩ := h1
  exact e6 i x row hx h2
section
variable {H : Type} {P : Program} {tB tI tU tK tSK tSI tIns tSIns tFunc tSFunc tType tSType tProg : TypeId} (T : PT P tB tI tU tK tSK tSI tIns tSIns tFunc tSFunc tType tSType tProg) {bw : DataW H → Nat} {all : List (DataW H) → Nat} (B : Bulk H bw all) {h : AHeap} {F : Nat}
 include T B
theorem insIn {cs : List AVal} {d : DataW H} (ad : AD P h (F + 3) tIns cs d) : ∃ i : PIns,InsR h i cs ∧ i.Ok ∧ sI i ≤ bw d := by
 obtain ⟨fs,u,e⟩ := T.uIns
 obtain ⟨parts,rfl,q⟩ := adStruct u ad
 rw [e] at q
 obtain ⟨c0,x0,r0,d0,rfl,rfl,_,a0,c1,x1,r1,d1,rfl,rfl,_,a1,c2,x2,r2,d2,rfl,rfl,_,a2,c3,x3,r3,d3,rfl,rfl,_,a3,c4,x4,r4,d4,rfl,rfl,_,a4,c5,x5,r5,d5,rfl,rfl,_,a5,rfl,rfl⟩ := q
 obtain ⟨m0,rfl,rfl,l0,h0⟩ := adInt T.uI a0
 obtain ⟨m1,rfl,rfl,l1,h1⟩ := adInt T.uI a1
 obtain ⟨m2,rfl,rfl,l2,h2⟩ := adInt T.uI a2
 obtain ⟨m3,rfl,rfl,l3,h3⟩ := adInt T.uI a3
 obtain ⟨m4,rfl,rfl,l4,h4⟩ := adInt T.uU a4
 obtain ⟨v,rfl,l,s,hb,w⟩ := SlIn.ofW B T.uSI T.uI T.cI a5
 have mxi : IntKind.i64.max = mx := by decide
 have mxu : IntKind.u64.max = 18446744073709551615 := by decide
 have mnu : IntKind.u64.min = 0 := by decide
 rw [mxi] at h0 h1 h2 h3
 rw [mxu] at h4
 rw [mnu] at l4
 refine ⟨⟨m0,m1,m2,m3,m4.toNat,l⟩, ⟨by simp only; omega,v, ?_,s⟩, ⟨h0,h1,h2,h3,by simp only; omega,fun x hx => mxi ▸ (hb x hx).2⟩, ?_⟩
 ·have : ((m4.toNat : Nat) : Int) = m4 := by omega
  simp [this]
 ·simp only [B.agg,B.cons,B.nil,B.int,sI]
  omega
theorem funcIn {cs : List AVal} {d : DataW H} (ad : AD P h (F + 5) tFunc cs d) : ∃ f : PFunc,FuncR h f cs ∧ f.Ok ∧ sF f ≤ bw d := by
 obtain ⟨fs,u,e⟩ := T.uFunc
 obtain ⟨parts,rfl,q⟩ := adStruct u ad
 rw [e] at q
 obtain ⟨c0,x0,r0,d0,rfl,rfl,_,a0,c1,x1,r1,d1,rfl,rfl,_,a1,c2,x2,r2,d2,rfl,rfl,_,a2,c3,x3,r3,d3,rfl,rfl,_,a3,rfl,rfl⟩ := q
 obtain ⟨m0,rfl,rfl,l0,h0⟩ := adInt T.uI a0
 obtain ⟨sv,rfl,sl,s1,b1,w1⟩ := SlIn.ofW B T.uSK T.uK T.cK a1
 obtain ⟨rv,rfl,rl,s2,b2,w2⟩ := SlIn.ofW B T.uSK T.uK T.cK a2
 obtain ⟨cv,rfl,cl,s3,w3⟩ := SlR.ofW (F := F + 3) (α := {i : PIns // i.Ok}) B (fun i => sI i.1) T.uSIns a3 (R := fun i row => InsR h i.1 row) (fun row x hl a => by
  obtain ⟨i,q1,q2,q3⟩ := insIn T B a
  exact ⟨⟨i,q2⟩, q1,q3⟩)
 have mxi : IntKind.i64.max = mx := by decide
 rw [mxi] at h0
 rw [T.cIns] at s3
 refine ⟨⟨m0,sl,rl,cl.map (·.1)⟩, ⟨sv,rv,cv,rfl,s1,s2,slr_map s3⟩, ⟨h0,fun x hx => mxi ▸ (b1 x hx).2,fun x hx => mxi ▸ (b2 x hx).2, ?_⟩, ?_⟩
 ·intro x hx
  obtain ⟨y,_,rfl⟩ := List.mem_map.1 hx
  exact y.2
 ·simp only [B.agg,B.cons,B.nil,B.int,sF,List.map_map]
  have : (List.map (sI ∘ fun x : {i : PIns // i.Ok} => x.1) cl) = cl.map fun i => sI i.1 := rfl
  rw [this]
  omega
theorem typeIn {cs : List AVal} {d : DataW H} (ad : AD P h (F + 3) tType cs d) : ∃ t : Bool × List Int,TypeR h t cs ∧ (∀ x,x ∈ t.2 → x ≤ mx) ∧ sT t ≤ bw d := by
 obtain ⟨fs,u,e⟩ := T.uType
 obtain ⟨parts,rfl,q⟩ := adStruct u ad
 rw [e] at q
 obtain ⟨c0,x0,r0,d0,rfl,rfl,_,a0,c1,x1,r1,d1,rfl,rfl,_,a1,rfl,rfl⟩ := q
 obtain ⟨b,rfl,rfl⟩ := adBool T.uB a0
 obtain ⟨sv,rfl,sl,s1,b1,w1⟩ := SlIn.ofW B T.uSK T.uK T.cK a1
 have mxi : IntKind.i64.max = mx := by decide
 refine ⟨(b,sl), ⟨sv,rfl,s1⟩, fun x hx => mxi ▸ (b1 x hx).2, ?_⟩
 simp only [B.agg,B.cons,B.nil,B.bool,sT]
 omega
theorem progIn {cs : List AVal} {d : DataW H} (ad : AD P h (F + 7) tProg cs d) : ∃ p : PProg,ProgR h p cs ∧ p.Ok ∧ sP p ≤ bw d := by
 obtain ⟨fs,u,e⟩ := T.uProg
 obtain ⟨parts,rfl,q⟩ := adStruct u ad
 rw [e] at q
 obtain ⟨c0,x0,r0,d0,rfl,rfl,_,a0,c1,x1,r1,d1,rfl,rfl,_,a1,c2,x2,r2,d2,rfl,rfl,_,a2,rfl,rfl⟩ := q
 obtain ⟨tv,rfl,tl,s0,w0⟩ := SlR.ofW (F := F + 5) (α := {t : Bool × List Int // ∀ x,x ∈ t.2 → x ≤ mx}) B (fun t => sT t.1) T.uSType a0 (R := fun t row => TypeR h t.1 row) (fun row x hl a => by
  obtain ⟨i,q1,q2,q3⟩ := typeIn T B (F := F + 2) a
  exact ⟨⟨i,q2⟩, q1,q3⟩)
 obtain ⟨gv,rfl,gl,s1,b1,w1⟩ := SlIn.ofW B T.uSK T.uK T.cK a1
 obtain ⟨fv,rfl,fl,s2,w2⟩ := SlR.ofW (F := F + 5) (α := {f : PFunc // f.Ok}) B (fun f => sF f.1) T.uSFunc a2 (R := fun f row => FuncR h f.1 row) (fun row x hl a => by
  obtain ⟨i,q1,q2,q3⟩ := funcIn T B a
  exact ⟨⟨i,q2⟩, q1,q3⟩)
 have mxi : IntKind.i64.max = mx := by decide
 rw [T.cType] at s0
 rw [T.cFunc] at s2
 refine ⟨⟨tl.map (·.1), gl,fl.map (·.1)⟩, ⟨tv,gv,fv,rfl,slr_map s0,s1,slr_map s2⟩, ⟨?_,fun x hx => mxi ▸ (b1 x hx).2, ?_⟩, ?_⟩
 ·intro x hx
  obtain ⟨y,_,rfl⟩ := List.mem_map.1 hx
  exact y.2
 ·intro x hx
  obtain ⟨y,_,rfl⟩ := List.mem_map.1 hx
  exact y.2
 ·simp only [B.agg,B.cons,B.nil,sP,List.map_map]
  have e1 : (List.map (sT ∘ fun x : {t : Bool × List Int // ∀ x,x ∈ t.2 → x ≤ mx} => x.1) tl) = tl.map fun i => sT i.1 := rfl
  have e2 : (List.map (sF ∘ fun x : {f : PFunc // f.Ok} => x.1) fl) = fl.map fun i => sF i.1 := rfl
  rw [e1,e2]
  omega
end
/-- A chain of 'or' on one number. -/
def orC (t s : Nat) : List (Nat × Int) → ACode
 | [] => .skip
 | [(r,k)] => .region [⟨some r, .op (.bin .eql (.tmp s) (.val (.int .i64 k))), none⟩, ⟨some t, .op (.mov (.tmp r)), none⟩]
 | (r,k) :: l => .seq (.region [⟨some r, .op (.bin .eql (.tmp s) (.val (.int .i64 k))), none⟩, ⟨some t, .op (.mov (.tmp r)), none⟩]) (.cond (.tmp t) .skip (orC t s l))
def orB (x : Int) (l : List Int) : Bool := l.any fun k => decide (x = k)
theorem cI_or {P : AProg} {t s : Nat} {x : Int} (hst : s ≠ t) : ∀ (l : List (Nat × Int)) {c : Bool} {Q : Post} {e : Env} {h : AHeap}, e.val s = .int .i64 x → e.val t = .bool c → (∀ j,j ∈ l → j.1 ≠ t ∧ j.1 ≠ s) →
  (∀ e', e'.val t = .bool (c || orB x (l.map (·.2))) → (∀ j,j ≠ t → (∀ q,q ∈ l → q.1 ≠ j) → e'.val j = e.val j) → Q .normal e' h) → cI P (.bool c) .skip (orC t s l) Q e h := by
 intro l
 induction l with
 | nil =>
  intro c Q e h hs ht hl k
  have := k e (by rw [ht]; simp [orB]) (fun _ _ _ => rfl)
  cases c <;> simp -implicitDefEqProofs (disch := first|decide|assumption|omega|(simp -implicitDefEqProofs only [AM.RN];first|done|omega)|fail) only [↓AM.R0,AM.R1,AM.R2,Nat.reduceAdd,Nat.reduceLeDiff,Nat.reduceEqDiff,Int.reduceToNat,Nat.reduceLT,↓reduceIte,Int.reduceEq,Int.reduceLT,Int.reduceLE,orC] <;> exact this
 | cons a l ih =>
  intro c Q e h hs ht hl k
  cases c with
  | true =>
   have := k e (by rw [ht]; simp) (fun _ _ _ => rfl)
   simp -implicitDefEqProofs (disch := first|decide|assumption|omega|(simp -implicitDefEqProofs only [AM.RN];first|done|omega)|fail) only [↓AM.R0,AM.R1,AM.R2,Nat.reduceAdd,Nat.reduceLeDiff,Nat.reduceEqDiff,Int.reduceToNat,Nat.reduceLT,↓reduceIte,Int.reduceEq,Int.reduceLT,Int.reduceLE]; exact this
  | false =>
   obtain ⟨r,n⟩ := a
   have hr := hl (r,n) List.mem_cons_self
   have h1 : Nat.beq t r = false := by cases hq : Nat.beq t r with | false => rfl | true => exact absurd (Nat.eq_of_beq_eq_true hq).symm hr.1
   have nb : ∀ {a b : Nat}, a ≠ b → Nat.beq a b = false := fun {a b} q => by cases hq : Nat.beq a b with | false => rfl | true => exact absurd (Nat.eq_of_beq_eq_true hq) q
   have keep : ∀ j,j ≠ t → r ≠ j → Env.val ((Tr.set e r (AVal.bool (decide (x = n)))).set t (AVal.bool (decide (x = n)))) j = e.val j := fun j h1 h2 => by
    rw [AM.val_ne _ _ _ _ (nb h1), AM.val_ne _ _ _ _ (nb (Ne.symm h2))]
   cases l with
   | nil =>
    unfold orC
    simp -implicitDefEqProofs (disch := first|decide|assumption|omega|(simp -implicitDefEqProofs only [AM.RN];first|done|omega)|fail) only [↓AM.R0,AM.R1,AM.R2,Nat.reduceAdd,Nat.reduceLeDiff,Nat.reduceEqDiff,Int.reduceToNat,Nat.reduceLT,↓reduceIte,Int.reduceEq,Int.reduceLT,Int.reduceLE,hs]
    exact k _ (by rw [AM.val_same]; simp [orB]) fun j h1 h2 => keep j h1 (h2 (r,n) List.mem_cons_self)
   | cons b l =>
    unfold orC
    simp -implicitDefEqProofs (disch := first|decide|assumption|omega|(simp -implicitDefEqProofs only [AM.RN];first|done|omega)|fail) only [↓AM.R0,AM.R1,AM.R2,Nat.reduceAdd,Nat.reduceLeDiff,Nat.reduceEqDiff,Int.reduceToNat,Nat.reduceLT,↓reduceIte,Int.reduceEq,Int.reduceLT,Int.reduceLE,hs]
    refine ih ?_ (AM.val_same _ _ _) (fun j hj => hl j (List.mem_cons_of_mem _ hj)) fun e' h1 h2 => k e' ?_ fun j a1 a2 => ?_
    ·rw [keep s hst hr.2]; exact hs
    ·rw [h1]; simp [orB]
    ·rw [h2 j a1 fun q hq => a2 q (List.mem_cons_of_mem _ hq)]
     exact keep j a1 (a2 (r,n) List.mem_cons_self)
def retT (o : Option (AVal × AHeap)) (w : AVal) (h : AHeap) : Option (AVal × AHeap) := o.map fun p => (.tup [p.1,w],h)
theorem res_ct (e : Env) (h : AHeap) (t u : Nat) (n : Option Nat) : ((resOf ⟨e,h⟩ [.cell t n, .tmp u]).map fun v => (v,h)) = retT (aop e h (.load n (.tmp t))) (e.val u) h := by
 simp only [resOf,resVals,resVal,retT]
 cases aop e h (.load n (.tmp t)) <;> rfl
theorem retT_some (v w : AVal) (h' h : AHeap) : retT (some (v,h')) w h = some (.tup [v,w],h) := rfl
end Go.Proofs.Ytofcnjglnnoimaa.Vf
namespace Go.Proofs.Ytofcnjglnnoimaa.Vf
open Go Go.AM Go.Proofs.Ytofcnjglnnoimaa.AmGY
attribute [local irreducible] AM.wp AM.wpIs AM.wpTr AM.opI AM.gI AM.cI AM.trI AM.callI AM.fnI AM.trG AM.trOp AM.trCall AM.seqC AM.loopI
set_option maxRecDepth 100000
set_option linter.unusedVariables false
set_option linter.unusedSimpArgs false
/-! What is computed. -/
def slotK (sl : List Int) (n : Int) : Option Int := if 0 ≤ n ∧ n < sl.length then sl[n.toNat]? else none
def areF (sl : List Int) (l : List (Int × Int)) : Int := if l.any (fun x => (slotK sl x.1).isNone) then 11 else if l.any (fun x => slotK sl x.1 != some x.2) then 10 else 0
def alikeF (sl : List Int) (is : Int → Bool) (l : List Int) : Int :=
 if l.any (fun n => (slotK sl n).isNone) then 11 else if l.any (fun n => slotK sl n != slotK sl (l.headD 0) || !is ((slotK sl n).getD 0)) then 10 else 0
def kind1 (nt : Nat) (k : Int) : Bool := decide (k = 0 ∨ k = 1 ∨ (16 ≤ k ∧ k < 64 ∧ k - 16 < nt))
def kindF (nt : Nat) (k : Int) : Bool := kind1 nt k || (decide (64 ≤ k ∧ k < 128) && kind1 nt (k - 64))
def flat (l : List (Int × Int)) : List Int := l.flatMap fun x => [x.1,x.2]
/-- The checker. -/
def CkR (h : AHeap) (c : Nat) (p : PProg) (f : PFunc) (i : PIns) : Prop := ∃ tv gv fv sv rv cv at_ lv,
 h.get c = .cells 0 false [tv,gv,fv, .int .i64 f.params,sv,rv,cv, .int .i64 at_, .int .i64 i.op, .int .i64 i.a, .int .i64 i.b, .int .i64 i.c, .int .u64 i.imm,lv] ∧ c < h.n ∧
 SlR h 2 (TypeR h) tv p.types ∧ SlIn h 1 encK gv p.globals ∧ SlR h 4 (FuncR h) fv p.funcs ∧ SlIn h 1 encK sv f.slots ∧ SlIn h 1 encK rv f.results ∧ SlR h 6 (InsR h) cv f.code ∧ i.imm ≤ 18446744073709551615 ∧ SlIn h 1 encK lv i.list
theorem CkR.keep {h h' : AHeap} {c : Nat} {p : PProg} {f : PFunc} {i : PIns} (C : CkR h c p f i) {F : List Nat} (fr : HFrame h h' [] F) : CkR h' c p f i := by
 obtain ⟨tv,gv,fv,sv,rv,cv,at_,lv,g,lt,s1,s2,s3,s4,s5,s6,hi,s7⟩ := C
 have hn := fr.n
 have k : ∀ j,j < h.n → h'.get j = h.get j := fun j hj => fr.get j hj (by simp)
 exact ⟨tv,gv,fv,sv,rv,cv,at_,lv, (k c lt).trans g,by omega,s1.mono (fun _ _ q => TypeR.mono hn k q) hn k,s2.mono hn k,s3.mono (fun _ _ q => FuncR.mono hn k q) hn k,s4.mono hn k,s5.mono hn k,s6.mono (fun _ _ q => InsR.mono hn k q) hn k,hi,s7.mono hn k⟩
theorem slotK_some {sl : List Int} {n : Int} (h : 0 ≤ n ∧ n < sl.length) : ∃ k,sl[n.toNat]? = some k ∧ slotK sl n = some k := by
 have : n.toNat < sl.length := by omega
 exact ⟨_,List.getElem?_eq_getElem this,by rw [slotK,if_pos h,List.getElem?_eq_getElem this]⟩
/-- Reading a slot of numbers by a number. -/
theorem SlIn.ixI {h : AHeap} {v : AVal} {l : List Int} (L : SlIn h 1 encK v l) {n : Int} (hn : 0 ≤ n) {a : Int} (ha : l[n.toNat]? = some a) :
  ∃ id g off vs ro,ixV h 1 v (.int .i64 n) = some (.ptr id g off,h) ∧ h.get id = .cells g ro vs ∧ id < h.n ∧ vs[off]? = some (.int .i64 a) := by
 obtain ⟨j,g,off,vs,ro,x1,x2,x3,x5⟩ := (L.rd ha).ix1 (enc := fun n => .int .i64 n) ha .i64
 rw [show ((n.toNat : Nat) : Int) = n by omega] at x1
 exact ⟨j,g,off,vs,ro,x1,x2,x3,x5⟩
theorem slot {h : AHeap} {c : Nat} {p : PProg} {f : PFunc} {i : PIns} (C : CkR h c p f i) (n : Int) :
  CallP AP 81 [.ptr c 0 0, .int .i64 n] h fun r h' => h' = h ∧ r = .tup [.int .i64 ((slotK f.slots n).getD 0), .bool (slotK f.slots n).isSome] := by
 obtain ⟨tv,gv,fv,sv,rv,cv,at_,lv,g,lt,s1,s2,s3,s4,s5,s6,hi,s7⟩ := C
 refine callP (rfl : Tr.get AP 81 = some A81) ?_
 generalize hQ : (fun (r : AVal) (h' : AHeap) => _) = Q
 have l4 := s4.len
 simp -implicitDefEqProofs (disch := first|decide|assumption|omega|(simp -implicitDefEqProofs only [AM.RN];first|done|omega)|fail) only [AM.RGB,↓AM.R0,AM.R1,AM.R2,Nat.reduceAdd,Nat.reduceLeDiff,Nat.reduceEqDiff,Int.reduceToNat,Nat.reduceLT,↓reduceIte,Int.reduceEq,Int.reduceLT,Int.reduceLE,g,l4]
 refine AM.cI_bool (fun hb => ?_) (fun hb => ?_)
 ·simp -implicitDefEqProofs (disch := first|decide|assumption|omega|(simp -implicitDefEqProofs only [AM.RN];first|done|omega)|fail) only [↓AM.R0,AM.R1,AM.R2,Nat.reduceAdd,Nat.reduceLeDiff,Nat.reduceEqDiff,Int.reduceToNat,Nat.reduceLT,↓reduceIte,Int.reduceEq,Int.reduceLT,Int.reduceLE]
  subst hQ
  simp only [Bool.or_eq_true,decide_eq_true_eq] at hb
  have : slotK f.slots n = none := if_neg (by omega)
  rw [this]
  exact ⟨rfl,rfl⟩
 ·simp only [Bool.or_eq_false_iff,decide_eq_false_iff_not] at hb
  obtain ⟨k,hk,hs⟩ := slotK_some (sl := f.slots) (n := n) (by omega)
  obtain ⟨j,g2,off,vs,ro,x1,x2,x3,x5⟩ := SlIn.ixI s4 (by omega) hk
  simp -implicitDefEqProofs (disch := first|decide|assumption|omega|(simp -implicitDefEqProofs only [AM.RN];first|done|omega)|fail) only [↓AM.R0,AM.R1,AM.R2,Nat.reduceAdd,Nat.reduceLeDiff,Nat.reduceEqDiff,Int.reduceToNat,Nat.reduceLT,↓reduceIte,Int.reduceEq,Int.reduceLT,Int.reduceLE,g,x1,x2,x5]
  subst hQ
  rw [hs]
  exact ⟨rfl,rfl⟩
theorem flat_len (l : List (Int × Int)) : (flat l).length = 2 * l.length := by
 induction l with
 | nil => rfl
 | cons a l ih => rw [flat,List.flatMap_cons,List.length_append]; unfold flat at ih; rw [ih]; simp; omega
theorem flat_at : ∀ (l : List (Int × Int)) (i : Nat) (x : Int × Int), l[i]? = some x → (flat l)[2 * i]? = some x.1 ∧ (flat l)[2 * i + 1]? = some x.2
 | [],i,x,h => by simp at h
 | a :: l,0,x,h => by simp at h; subst h; exact ⟨rfl,rfl⟩
 | a :: l,i + 1,x,h => by
  have := flat_at l i x (by simpa using h)
  rw [show 2 * (i + 1) = 2 * i + 2 by omega]
  exact this
theorem any_drop {α : Type} {f : α → Bool} {l : List α} {i : Nat} {a : α} (h : l[i]? = some a) : (l.drop i).any f = (f a || (l.drop (i + 1)).any f) := by
 obtain ⟨hi,rfl⟩ := List.getElem?_eq_some_iff.1 h
 rw [List.drop_eq_getElem_cons hi,List.any_cons]
set_option maxHeartbeats 1000000 in
theorem are {h : AHeap} {c : Nat} {p : PProg} {f : PFunc} {i : PIns} (C : CkR h c p f i) {v : AVal} {l : List (Int × Int)} (L : SlIn h 1 encK v (flat l)) (hl : l.length < 1073741824) :
  CallP AP 56 [.ptr c 0 0,v] h fun r h' => h' = h ∧ r = .int .i64 (areF f.slots l) := by
 refine callP (rfl : Tr.get AP 56 = some A56) ?_
 generalize hQ : (fun (r : AVal) (h' : AHeap) => _) = Q
 have ll := L.len
 rw [flat_len] at ll
 simp -implicitDefEqProofs (disch := first|decide|assumption|omega|(simp -implicitDefEqProofs only [AM.RN];first|done|omega)|fail) only [↓AM.R0,AM.R1,AM.R2,Nat.reduceAdd,Nat.reduceLeDiff,Nat.reduceEqDiff,Int.reduceToNat,Nat.reduceLT,↓reduceIte,Int.reduceEq,Int.reduceLT,Int.reduceLE]
 refine AM.loopI_of (fun k e h' => ∃ x : Nat,k + x = l.length ∧ e.val 0 = .ptr c 0 0 ∧ e.val 1 = v ∧ e.val 5 = .int .i64 (2 * x : Nat) ∧ h' = h ∧ l.any (fun x => (slotK f.slots x.1).isNone) = (l.drop x).any (fun x => (slotK f.slots x.1).isNone)) l.length ?_ ?_
 ·refine ⟨0,by omega, ?_, ?_, ?_,rfl,by simp⟩ <;> simp -implicitDefEqProofs (disch := first|decide|assumption|omega|(simp -implicitDefEqProofs only [AM.RN];first|done|omega)|fail) only [↓AM.R0,AM.R1,AM.R2,Nat.reduceAdd,Nat.reduceLeDiff,Nat.reduceEqDiff,Int.reduceToNat,Nat.reduceLT,↓reduceIte,Int.reduceEq,Int.reduceLT,Int.reduceLE] <;> rfl
 ·rintro k e h' ⟨x,hk,e0,e1,e5,rfl,ha⟩
  simp -implicitDefEqProofs (disch := first|decide|assumption|omega|(simp -implicitDefEqProofs only [AM.RN];first|done|omega)|fail) only [↓AM.R0,AM.R1,AM.R2,Nat.reduceAdd,Nat.reduceLeDiff,Nat.reduceEqDiff,Int.reduceToNat,Nat.reduceLT,↓reduceIte,Int.reduceEq,Int.reduceLT,Int.reduceLE,e0,e1,e5,ll]
  refine AM.cI_bool (fun hb => ?_) (fun hb => ?_)
  ·simp only [decide_eq_true_eq] at hb
   obtain ⟨a,hx⟩ : ∃ a,l[x]? = some a := ⟨_,List.getElem?_eq_getElem (by omega)⟩
   obtain ⟨q1,q2⟩ := flat_at l x a hx
   obtain ⟨j,g,off,vs,ro,x1,x2,x3,x5⟩ := (L.rd q1).ix1 (enc := fun n => .int .i64 n) q1 .i64
   have hw : IntKind.i64.wrap (((2 * x : Nat) : Int) + 2) = ((2 * (x + 1) : Nat) : Int) := (wrap64 (by omega) (by omega)).trans (by omega)
   rw [any_drop hx] at ha
   simp -implicitDefEqProofs (disch := first|decide|assumption|omega|(simp -implicitDefEqProofs only [AM.RN];first|done|omega)|fail) only [↓AM.R0,AM.R1,AM.R2,Nat.reduceAdd,Nat.reduceLeDiff,Nat.reduceEqDiff,Int.reduceToNat,Nat.reduceLT,↓reduceIte,Int.reduceEq,Int.reduceLT,Int.reduceLE,e0,e1,e5,x1,x2,x5]
   refine AM.callI_of (slot C a.1) ?_
   rintro r h2 ⟨rfl,rfl⟩
   simp -implicitDefEqProofs (disch := first|decide|assumption|omega|(simp -implicitDefEqProofs only [AM.RN];first|done|omega)|fail) only [↓AM.R0,AM.R1,AM.R2,Nat.reduceAdd,Nat.reduceLeDiff,Nat.reduceEqDiff,Int.reduceToNat,Nat.reduceLT,↓reduceIte,Int.reduceEq,Int.reduceLT,Int.reduceLE,e0,e1,e5]
   refine AM.cI_bool (fun hc => ?_) (fun hc => ?_)
   ·simp -implicitDefEqProofs (disch := first|decide|assumption|omega|(simp -implicitDefEqProofs only [AM.RN];first|done|omega)|fail) only [↓AM.R0,AM.R1,AM.R2,Nat.reduceAdd,Nat.reduceLeDiff,Nat.reduceEqDiff,Int.reduceToNat,Nat.reduceLT,↓reduceIte,Int.reduceEq,Int.reduceLT,Int.reduceLE]
    subst hQ
    have : (slotK f.slots a.1).isNone = true := by simpa using hc
    rw [areF,ha,this]
    exact ⟨rfl,rfl⟩
   ·simp -implicitDefEqProofs (disch := first|decide|assumption|omega|(simp -implicitDefEqProofs only [AM.RN];first|done|omega)|fail) only [↓AM.R0,AM.R1,AM.R2,Nat.reduceAdd,Nat.reduceLeDiff,Nat.reduceEqDiff,Int.reduceToNat,Nat.reduceLT,↓reduceIte,Int.reduceEq,Int.reduceLT,Int.reduceLE,e0,e1,e5,hw]
    have : (slotK f.slots a.1).isNone = false := by simpa using hc
    rw [this,Bool.false_or] at ha
    exact ⟨l.length - (x + 1), by omega,x + 1,by omega,rfl,ha⟩
  ·simp only [decide_eq_false_iff_not] at hb
   rw [List.drop_of_length_le (by omega), List.any_nil] at ha
   simp -implicitDefEqProofs (disch := first|decide|assumption|omega|(simp -implicitDefEqProofs only [AM.RN];first|done|omega)|fail) only [↓AM.R0,AM.R1,AM.R2,Nat.reduceAdd,Nat.reduceLeDiff,Nat.reduceEqDiff,Int.reduceToNat,Nat.reduceLT,↓reduceIte,Int.reduceEq,Int.reduceLT,Int.reduceLE,e0,e1]
   refine AM.loopI_of (fun k e h2 => ∃ x : Nat,k + x = l.length ∧ e.val 0 = .ptr c 0 0 ∧ e.val 1 = v ∧ e.val 8 = .int .i64 (2 * x : Nat) ∧ h2 = h' ∧ l.any (fun x => slotK f.slots x.1 != some x.2) = (l.drop x).any (fun x => slotK f.slots x.1 != some x.2)) l.length ?_ ?_
   ·refine ⟨0,by omega, ?_, ?_, ?_,rfl,by simp⟩ <;> simp -implicitDefEqProofs (disch := first|decide|assumption|omega|(simp -implicitDefEqProofs only [AM.RN];first|done|omega)|fail) only [↓AM.R0,AM.R1,AM.R2,Nat.reduceAdd,Nat.reduceLeDiff,Nat.reduceEqDiff,Int.reduceToNat,Nat.reduceLT,↓reduceIte,Int.reduceEq,Int.reduceLT,Int.reduceLE,e0,e1] <;> rfl
   ·clear hb e0 e1 e5 hk
    rintro k e h' ⟨x,hk,e0,e1,e8,rfl,hA⟩
    simp -implicitDefEqProofs (disch := first|decide|assumption|omega|(simp -implicitDefEqProofs only [AM.RN];first|done|omega)|fail) only [↓AM.R0,AM.R1,AM.R2,Nat.reduceAdd,Nat.reduceLeDiff,Nat.reduceEqDiff,Int.reduceToNat,Nat.reduceLT,↓reduceIte,Int.reduceEq,Int.reduceLT,Int.reduceLE,e0,e1,e8,ll]
    refine AM.cI_bool (fun hb => ?_) (fun hb => ?_)
    ·simp only [decide_eq_true_eq] at hb
     obtain ⟨a,hx⟩ : ∃ a,l[x]? = some a := ⟨_,List.getElem?_eq_getElem (by omega)⟩
     obtain ⟨q1,q2⟩ := flat_at l x a hx
     obtain ⟨j,g,off,vs,ro,x1,x2,x3,x5⟩ := (L.rd q1).ix1 (enc := fun n => .int .i64 n) q1 .i64
     obtain ⟨j2,g2,off2,vs2,ro2,y1,y2,y3,y5⟩ := (L.rd q2).ix1 (enc := fun n => .int .i64 n) q2 .i64
     have hw : IntKind.i64.wrap (((2 * x : Nat) : Int) + 2) = ((2 * (x + 1) : Nat) : Int) := (wrap64 (by omega) (by omega)).trans (by omega)
     have hw1 : IntKind.i64.wrap (((2 * x : Nat) : Int) + 1) = ((2 * x + 1 : Nat) : Int) := (wrap64 (by omega) (by omega)).trans (by omega)
     rw [any_drop hx] at hA
     simp -implicitDefEqProofs (disch := first|decide|assumption|omega|(simp -implicitDefEqProofs only [AM.RN];first|done|omega)|fail) only [↓AM.R0,AM.R1,AM.R2,Nat.reduceAdd,Nat.reduceLeDiff,Nat.reduceEqDiff,Int.reduceToNat,Nat.reduceLT,↓reduceIte,Int.reduceEq,Int.reduceLT,Int.reduceLE,e0,e1,e8,x1,x2,x5]
     refine AM.callI_of (slot C a.1) ?_
     rintro r h2 ⟨rfl,rfl⟩
     simp -implicitDefEqProofs (disch := first|decide|assumption|omega|(simp -implicitDefEqProofs only [AM.RN];first|done|omega)|fail) only [↓AM.R0,AM.R1,AM.R2,Nat.reduceAdd,Nat.reduceLeDiff,Nat.reduceEqDiff,Int.reduceToNat,Nat.reduceLT,↓reduceIte,Int.reduceEq,Int.reduceLT,Int.reduceLE,e0,e1,e8,hw1,y1,y2,y5]
     obtain ⟨k', hk'⟩ : ∃ k', slotK f.slots a.1 = some k' := by
      cases hq : slotK f.slots a.1 with
      | some k' => exact ⟨_,rfl⟩
      | none =>
       have := List.any_eq_false.1 ha a (List.mem_of_getElem? hx)
       rw [hq] at this; simp at this
     refine AM.cI_bool (fun hc => ?_) (fun hc => ?_)
     ·simp -implicitDefEqProofs (disch := first|decide|assumption|omega|(simp -implicitDefEqProofs only [AM.RN];first|done|omega)|fail) only [↓AM.R0,AM.R1,AM.R2,Nat.reduceAdd,Nat.reduceLeDiff,Nat.reduceEqDiff,Int.reduceToNat,Nat.reduceLT,↓reduceIte,Int.reduceEq,Int.reduceLT,Int.reduceLE]
      subst hQ
      have : (slotK f.slots a.1 != some a.2) = true := by rw [hk'] at hc ⊢; simpa using hc
      rw [areF,ha,hA,this]
      exact ⟨rfl,rfl⟩
     ·simp -implicitDefEqProofs (disch := first|decide|assumption|omega|(simp -implicitDefEqProofs only [AM.RN];first|done|omega)|fail) only [↓AM.R0,AM.R1,AM.R2,Nat.reduceAdd,Nat.reduceLeDiff,Nat.reduceEqDiff,Int.reduceToNat,Nat.reduceLT,↓reduceIte,Int.reduceEq,Int.reduceLT,Int.reduceLE,e0,e1,e8,hw]
      have : (slotK f.slots a.1 != some a.2) = false := by rw [hk'] at hc ⊢; simpa using hc
      rw [this,Bool.false_or] at hA
      exact ⟨l.length - (x + 1), by omega,x + 1,by omega,rfl,hA⟩
    ·simp only [decide_eq_false_iff_not] at hb
     rw [List.drop_of_length_le (by omega), List.any_nil] at hA
     simp -implicitDefEqProofs (disch := first|decide|assumption|omega|(simp -implicitDefEqProofs only [AM.RN];first|done|omega)|fail) only [↓AM.R0,AM.R1,AM.R2,Nat.reduceAdd,Nat.reduceLeDiff,Nat.reduceEqDiff,Int.reduceToNat,Nat.reduceLT,↓reduceIte,Int.reduceEq,Int.reduceLT,Int.reduceLE]
     subst hQ
     rw [areF,ha,hA]
     exact ⟨rfl,rfl⟩
end Go.Proofs.Ytofcnjglnnoimaa.Vf
namespace Go.Proofs.Ytofcnjglnnoimaa.Vf
open Go Go.AM Go.Proofs.Ytofcnjglnnoimaa.AmGY
attribute [local irreducible] AM.wp AM.wpIs AM.wpTr AM.opI AM.gI AM.cI AM.trI AM.callI AM.fnI AM.trG AM.trOp AM.trCall AM.seqC AM.loopI
set_option maxRecDepth 100000
set_option linter.unusedVariables false
set_option linter.unusedSimpArgs false
theorem number (k : Int) (h : AHeap) : CallP AP 54 [.int .i64 k] h fun r h' => h' = h ∧ r = .bool (decide (k = 0) || decide (k = 1)) := by
 refine callP (rfl : Tr.get AP 54 = some A54) ?_
 generalize hQ : (fun (r : AVal) (h' : AHeap) => _) = Q
 simp -implicitDefEqProofs (disch := first|decide|assumption|omega|(simp -implicitDefEqProofs only [AM.RN];first|done|omega)|fail) only [AM.RGB,↓AM.R0,AM.R1,AM.R2,Nat.reduceAdd,Nat.reduceLeDiff,Nat.reduceEqDiff,Int.reduceToNat,Nat.reduceLT,↓reduceIte,Int.reduceEq,Int.reduceLT,Int.reduceLE]
 subst hQ
 exact ⟨rfl,rfl⟩
theorem any (k : Int) (h : AHeap) : CallP AP 55 [.int .i64 k] h fun r h' => h' = h ∧ r = .bool true := by
 refine callP (rfl : Tr.get AP 55 = some A55) ?_
 generalize hQ : (fun (r : AVal) (h' : AHeap) => _) = Q
 simp -implicitDefEqProofs (disch := first|decide|assumption|omega|(simp -implicitDefEqProofs only [AM.RN];first|done|omega)|fail) only [AM.RGB,↓AM.R0,AM.R1,AM.R2,Nat.reduceAdd,Nat.reduceLeDiff,Nat.reduceEqDiff,Int.reduceToNat,Nat.reduceLT,↓reduceIte,Int.reduceEq,Int.reduceLT,Int.reduceLE]
 subst hQ
 exact ⟨rfl,rfl⟩
theorem isRef (k : Int) (h : AHeap) : CallP AP 19 [.int .i64 k] h fun r h' => h' = h ∧ r = .bool (decide (16 ≤ k)) := by
 refine callP (rfl : Tr.get AP 19 = some A19) ?_
 generalize hQ : (fun (r : AVal) (h' : AHeap) => _) = Q
 simp -implicitDefEqProofs (disch := first|decide|assumption|omega|(simp -implicitDefEqProofs only [AM.RN];first|done|omega)|fail) only [AM.RGB,↓AM.R0,AM.R1,AM.R2,Nat.reduceAdd,Nat.reduceLeDiff,Nat.reduceEqDiff,Int.reduceToNat,Nat.reduceLT,↓reduceIte,Int.reduceEq,Int.reduceLT,Int.reduceLE]
 subst hQ
 exact ⟨rfl,rfl⟩
theorem kindLow {h : AHeap} {c : Nat} {p : PProg} {f : PFunc} {i : PIns} (C : CkR h c p f i) (k : Int) (hk : k < 64) :
  CallP AP 50 [.ptr c 0 0, .int .i64 k] h fun r h' => h' = h ∧ r = .bool (kind1 p.types.length k) := by
 obtain ⟨tv,gv,fv,sv,rv,cv,at_,lv,g,lt,s1,s2,s3,s4,s5,s6,hi,s7⟩ := C
 refine callP (rfl : Tr.get AP 50 = some A50) ?_
 generalize hQ : (fun (r : AVal) (h' : AHeap) => _) = Q
 have l1 := s1.len
 simp -implicitDefEqProofs (disch := first|decide|assumption|omega|(simp -implicitDefEqProofs only [AM.RN];first|done|omega)|fail) only [AM.RGB,↓AM.R0,AM.R1,AM.R2,Nat.reduceAdd,Nat.reduceLeDiff,Nat.reduceEqDiff,Int.reduceToNat,Nat.reduceLT,↓reduceIte,Int.reduceEq,Int.reduceLT,Int.reduceLE]
 refine AM.cI_bool (fun hb => ?_) (fun hb => ?_)
 ·simp -implicitDefEqProofs (disch := first|decide|assumption|omega|(simp -implicitDefEqProofs only [AM.RN];first|done|omega)|fail) only [AM.RGB,↓AM.R0,AM.R1,AM.R2,Nat.reduceAdd,Nat.reduceLeDiff,Nat.reduceEqDiff,Int.reduceToNat,Nat.reduceLT,↓reduceIte,Int.reduceEq,Int.reduceLT,Int.reduceLE]
  subst hQ
  simp only [Bool.or_eq_true,decide_eq_true_eq] at hb
  exact ⟨rfl,by rw [kind1,decide_eq_true (by omega)]⟩
 ·simp only [Bool.or_eq_false_iff,decide_eq_false_iff_not] at hb
  simp -implicitDefEqProofs (disch := first|decide|assumption|omega|(simp -implicitDefEqProofs only [AM.RN];first|done|omega)|fail) only [AM.RGB,↓AM.R0,AM.R1,AM.R2,Nat.reduceAdd,Nat.reduceLeDiff,Nat.reduceEqDiff,Int.reduceToNat,Nat.reduceLT,↓reduceIte,Int.reduceEq,Int.reduceLT,Int.reduceLE]
  refine AM.cI_bool (fun hc => ?_) (fun hc => ?_)
  ·simp only [Bool.and_eq_true,decide_eq_true_eq] at hc
   have hw : IntKind.i64.wrap (k - 16) = k - 16 := wrap64 (by omega) (by omega)
   simp -implicitDefEqProofs (disch := first|decide|assumption|omega|(simp -implicitDefEqProofs only [AM.RN];first|done|omega)|fail) only [AM.RGB,↓AM.R0,AM.R1,AM.R2,Nat.reduceAdd,Nat.reduceLeDiff,Nat.reduceEqDiff,Int.reduceToNat,Nat.reduceLT,↓reduceIte,Int.reduceEq,Int.reduceLT,Int.reduceLE,g,l1,hw]
   subst hQ
   refine ⟨rfl, ?_⟩
   rw [kind1]
   congr 1
   exact decide_eq_decide.2 (by omega)
  ·simp -implicitDefEqProofs (disch := first|decide|assumption|omega|(simp -implicitDefEqProofs only [AM.RN];first|done|omega)|fail) only [AM.RGB,↓AM.R0,AM.R1,AM.R2,Nat.reduceAdd,Nat.reduceLeDiff,Nat.reduceEqDiff,Int.reduceToNat,Nat.reduceLT,↓reduceIte,Int.reduceEq,Int.reduceLT,Int.reduceLE]
   have hd : decide (64 ≤ k) = false := decide_eq_false (by omega)
   simp -implicitDefEqProofs (disch := first|decide|assumption|omega|(simp -implicitDefEqProofs only [AM.RN];first|done|omega)|fail) only [AM.RGB,↓AM.R0,AM.R1,AM.R2,Nat.reduceAdd,Nat.reduceLeDiff,Nat.reduceEqDiff,Int.reduceToNat,Nat.reduceLT,↓reduceIte,Int.reduceEq,Int.reduceLT,Int.reduceLE,hd]
   subst hQ
   refine ⟨rfl, ?_⟩
   simp only [Bool.and_eq_false_iff,decide_eq_false_iff_not] at hc
   rw [kind1,decide_eq_false (by omega)]
theorem kind {h : AHeap} {c : Nat} {p : PProg} {f : PFunc} {i : PIns} (C : CkR h c p f i) (k : Int) (hk : k ≤ mx) :
  CallP AP 50 [.ptr c 0 0, .int .i64 k] h fun r h' => h' = h ∧ r = .bool (kindF p.types.length k) := by
 by_cases hlo : k < 64
 ·refine (kindLow C k hlo).mono ?_
  rintro r h' ⟨rfl,rfl⟩
  refine ⟨rfl, ?_⟩
  rw [kindF,decide_eq_false (by omega), Bool.false_and,Bool.or_false]
 have C0 := C
 obtain ⟨tv,gv,fv,sv,rv,cv,at_,lv,g,lt,s1,s2,s3,s4,s5,s6,hi,s7⟩ := C
 refine callP (rfl : Tr.get AP 50 = some A50) ?_
 generalize hQ : (fun (r : AVal) (h' : AHeap) => _) = Q
 have l1 := s1.len
 have d1 : (decide (k = 0) || decide (k = 1)) = false := by simp; omega
 have d2 : (decide (16 ≤ k) && decide (k < 64)) = false := by simp; omega
 have d3 : decide (64 ≤ k) = true := decide_eq_true (by omega)
 have hw : IntKind.i64.wrap (k - 64) = k - 64 := wrap64 (by omega) (by unfold mx at hk; omega)
 have e1 : kind1 p.types.length k = false := decide_eq_false (by omega)
 simp -implicitDefEqProofs (disch := first|decide|assumption|omega|(simp -implicitDefEqProofs only [AM.RN];first|done|omega)|fail) only [AM.RGB,↓AM.R0,AM.R1,AM.R2,Nat.reduceAdd,Nat.reduceLeDiff,Nat.reduceEqDiff,Int.reduceToNat,Nat.reduceLT,↓reduceIte,Int.reduceEq,Int.reduceLT,Int.reduceLE,d1,d2,d3,hw]
 refine AM.gI_bool (fun hb => ?_) (fun hb => ?_)
 ·simp only [decide_eq_true_eq] at hb
  have hb' : decide (k - 64 < 64) = true := decide_eq_true hb
  simp -implicitDefEqProofs (disch := first|decide|assumption|omega|(simp -implicitDefEqProofs only [AM.RN];first|done|omega)|fail) only [↓AM.R0,AM.R1,AM.R2,Nat.reduceAdd,Nat.reduceLeDiff,Nat.reduceEqDiff,Int.reduceToNat,Nat.reduceLT,↓reduceIte,Int.reduceEq,Int.reduceLT,Int.reduceLE,hw,hb']
  refine AM.callI_of (kindLow C0 (k - 64) hb) ?_
  rintro r h2 ⟨rfl,rfl⟩
  simp -implicitDefEqProofs (disch := first|decide|assumption|omega|(simp -implicitDefEqProofs only [AM.RN];first|done|omega)|fail) only [↓AM.R0,AM.R1,AM.R2,Nat.reduceAdd,Nat.reduceLeDiff,Nat.reduceEqDiff,Int.reduceToNat,Nat.reduceLT,↓reduceIte,Int.reduceEq,Int.reduceLT,Int.reduceLE,hb']
  subst hQ
  refine ⟨rfl, ?_⟩
  rw [kindF,e1,decide_eq_true (by omega), Bool.false_or,Bool.true_and]
 ·simp only [decide_eq_false_iff_not] at hb
  have hb' : decide (k - 64 < 64) = false := decide_eq_false hb
  simp -implicitDefEqProofs (disch := first|decide|assumption|omega|(simp -implicitDefEqProofs only [AM.RN];first|done|omega)|fail) only [↓AM.R0,AM.R1,AM.R2,Nat.reduceAdd,Nat.reduceLeDiff,Nat.reduceEqDiff,Int.reduceToNat,Nat.reduceLT,↓reduceIte,Int.reduceEq,Int.reduceLT,Int.reduceLE,hw,hb']
  subst hQ
  refine ⟨rfl, ?_⟩
  rw [kindF,e1,decide_eq_false (by omega), Bool.false_or,Bool.false_and]
def shapeF (op : Int) : Int × Bool × Bool :=
 if orB op [1,41] = true then (1,true,false) else if orB op [36] = true then (0,false,true) else if orB op [35,37,38] = true then (1,false,true) else if orB op [45] = true then (2,false,true) else if orB op [47] = true then (0,false,false)
 else if orB op [24,39,44,46,48,52] = true then (1,false,false) else if orB op [2,21,22,25,26,28,33,34,40,42,49,50,51] = true then (2,false,false) else (3,false,false)
set_option maxHeartbeats 1000000 in
theorem shape (op : Int) (h : AHeap) : CallP AP 52 [.int .i64 op] h fun r h' => h' = h ∧ r = .tup [.int .i64 (shapeF op).1, .bool (shapeF op).2.1, .bool (shapeF op).2.2] := by
 refine callP (rfl : Tr.get AP 52 = some A52) ?_
 generalize hQ : (fun (r : AVal) (h' : AHeap) => _) = Q
 simp -implicitDefEqProofs (disch := first|decide|assumption|omega|(simp -implicitDefEqProofs only [AM.RN];first|done|omega)|fail) only [↓AM.R0,AM.R1,AM.R2,Nat.reduceAdd,Nat.reduceLeDiff,Nat.reduceEqDiff,Int.reduceToNat,Nat.reduceLT,↓reduceIte,Int.reduceEq,Int.reduceLT,Int.reduceLE]
 refine cI_or (t := 6) (s := 5) (x := op) (by decide) [(8,41)] (by simp -implicitDefEqProofs (disch := first|decide|assumption|omega|(simp -implicitDefEqProofs only [AM.RN];first|done|omega)|fail) only [↓AM.R0,AM.R1,AM.R2,Nat.reduceAdd,Nat.reduceLeDiff,Nat.reduceEqDiff,Int.reduceToNat,Nat.reduceLT,↓reduceIte,Int.reduceEq,Int.reduceLT,Int.reduceLE]) (by simp -implicitDefEqProofs (disch := first|decide|assumption|omega|(simp -implicitDefEqProofs only [AM.RN];first|done|omega)|fail) only [↓AM.R0,AM.R1,AM.R2,Nat.reduceAdd,Nat.reduceLeDiff,Nat.reduceEqDiff,Int.reduceToNat,Nat.reduceLT,↓reduceIte,Int.reduceEq,Int.reduceLT,Int.reduceLE]) (by decide) ?_
 intro e' ht hk
 have e5' : Env.val e' 5 = .int .i64 op := (hk 5 (by decide) (by decide)).trans (by simp -implicitDefEqProofs (disch := first|decide|assumption|omega|(simp -implicitDefEqProofs only [AM.RN];first|done|omega)|fail) only [↓AM.R0,AM.R1,AM.R2,Nat.reduceAdd,Nat.reduceLeDiff,Nat.reduceEqDiff,Int.reduceToNat,Nat.reduceLT,↓reduceIte,Int.reduceEq,Int.reduceLT,Int.reduceLE])
 clear hk
 try clear e5
 have e5 := e5'
 clear e5'
 simp -implicitDefEqProofs (disch := first|decide|assumption|omega|(simp -implicitDefEqProofs only [AM.RN];first|done|omega)|fail) only [↓AM.R0,AM.R1,AM.R2,Nat.reduceAdd,Nat.reduceLeDiff,Nat.reduceEqDiff,Int.reduceToNat,Nat.reduceLT,↓reduceIte,Int.reduceEq,Int.reduceLT,Int.reduceLE,ht]
 refine AM.cI_bool (fun hb => ?_) (fun hb => ?_)
 ·have h1 : orB op [1,41] = true := hb
  simp -implicitDefEqProofs (disch := first|decide|assumption|omega|(simp -implicitDefEqProofs only [AM.RN];first|done|omega)|fail) only [↓AM.R0,AM.R1,AM.R2,Nat.reduceAdd,Nat.reduceLeDiff,Nat.reduceEqDiff,Int.reduceToNat,Nat.reduceLT,↓reduceIte,Int.reduceEq,Int.reduceLT,Int.reduceLE]
  subst hQ
  refine ⟨rfl, ?_⟩
  simp only [shapeF,h1,if_true,Bool.false_eq_true,if_false]
 have n1 : orB op [1,41] = false := hb
 clear hb
 clear ht
 simp -implicitDefEqProofs (disch := first|decide|assumption|omega|(simp -implicitDefEqProofs only [AM.RN];first|done|omega)|fail) only [↓AM.R0,AM.R1,AM.R2,Nat.reduceAdd,Nat.reduceLeDiff,Nat.reduceEqDiff,Int.reduceToNat,Nat.reduceLT,↓reduceIte,Int.reduceEq,Int.reduceLT,Int.reduceLE,e5]
 refine AM.cI_bool (fun hb => ?_) (fun hb => ?_)
 ·have h2 : orB op [36] = true := (Bool.or_false _).trans hb
  simp -implicitDefEqProofs (disch := first|decide|assumption|omega|(simp -implicitDefEqProofs only [AM.RN];first|done|omega)|fail) only [↓AM.R0,AM.R1,AM.R2,Nat.reduceAdd,Nat.reduceLeDiff,Nat.reduceEqDiff,Int.reduceToNat,Nat.reduceLT,↓reduceIte,Int.reduceEq,Int.reduceLT,Int.reduceLE]
  subst hQ
  refine ⟨rfl, ?_⟩
  simp only [shapeF,n1,h2,if_true,Bool.false_eq_true,if_false]
 have n2 : orB op [36] = false := (Bool.or_false _).trans hb
 clear hb
 simp -implicitDefEqProofs (disch := first|decide|assumption|omega|(simp -implicitDefEqProofs only [AM.RN];first|done|omega)|fail) only [↓AM.R0,AM.R1,AM.R2,Nat.reduceAdd,Nat.reduceLeDiff,Nat.reduceEqDiff,Int.reduceToNat,Nat.reduceLT,↓reduceIte,Int.reduceEq,Int.reduceLT,Int.reduceLE,e5]
 refine cI_or (t := 11) (s := 5) (x := op) (by decide) [(13,37), (14,38)] (by simp -implicitDefEqProofs (disch := first|decide|assumption|omega|(simp -implicitDefEqProofs only [AM.RN];first|done|omega)|fail) only [↓AM.R0,AM.R1,AM.R2,Nat.reduceAdd,Nat.reduceLeDiff,Nat.reduceEqDiff,Int.reduceToNat,Nat.reduceLT,↓reduceIte,Int.reduceEq,Int.reduceLT,Int.reduceLE,e5]) (by simp -implicitDefEqProofs (disch := first|decide|assumption|omega|(simp -implicitDefEqProofs only [AM.RN];first|done|omega)|fail) only [↓AM.R0,AM.R1,AM.R2,Nat.reduceAdd,Nat.reduceLeDiff,Nat.reduceEqDiff,Int.reduceToNat,Nat.reduceLT,↓reduceIte,Int.reduceEq,Int.reduceLT,Int.reduceLE,e5]) (by decide) ?_
 intro e' ht hk
 have e5' : Env.val e' 5 = .int .i64 op := (hk 5 (by decide) (by decide)).trans (by simp -implicitDefEqProofs (disch := first|decide|assumption|omega|(simp -implicitDefEqProofs only [AM.RN];first|done|omega)|fail) only [↓AM.R0,AM.R1,AM.R2,Nat.reduceAdd,Nat.reduceLeDiff,Nat.reduceEqDiff,Int.reduceToNat,Nat.reduceLT,↓reduceIte,Int.reduceEq,Int.reduceLT,Int.reduceLE,e5])
 clear hk
 try clear e5
 have e5 := e5'
 clear e5'
 simp -implicitDefEqProofs (disch := first|decide|assumption|omega|(simp -implicitDefEqProofs only [AM.RN];first|done|omega)|fail) only [↓AM.R0,AM.R1,AM.R2,Nat.reduceAdd,Nat.reduceLeDiff,Nat.reduceEqDiff,Int.reduceToNat,Nat.reduceLT,↓reduceIte,Int.reduceEq,Int.reduceLT,Int.reduceLE,ht]
 refine AM.cI_bool (fun hb => ?_) (fun hb => ?_)
 ·have h3 : orB op [35,37,38] = true := hb
  simp -implicitDefEqProofs (disch := first|decide|assumption|omega|(simp -implicitDefEqProofs only [AM.RN];first|done|omega)|fail) only [↓AM.R0,AM.R1,AM.R2,Nat.reduceAdd,Nat.reduceLeDiff,Nat.reduceEqDiff,Int.reduceToNat,Nat.reduceLT,↓reduceIte,Int.reduceEq,Int.reduceLT,Int.reduceLE]
  subst hQ
  refine ⟨rfl, ?_⟩
  simp only [shapeF,n1,n2,h3,if_true,Bool.false_eq_true,if_false]
 have n3 : orB op [35,37,38] = false := hb
 clear hb
 clear ht
 simp -implicitDefEqProofs (disch := first|decide|assumption|omega|(simp -implicitDefEqProofs only [AM.RN];first|done|omega)|fail) only [↓AM.R0,AM.R1,AM.R2,Nat.reduceAdd,Nat.reduceLeDiff,Nat.reduceEqDiff,Int.reduceToNat,Nat.reduceLT,↓reduceIte,Int.reduceEq,Int.reduceLT,Int.reduceLE,e5]
 refine AM.cI_bool (fun hb => ?_) (fun hb => ?_)
 ·have h4 : orB op [45] = true := (Bool.or_false _).trans hb
  simp -implicitDefEqProofs (disch := first|decide|assumption|omega|(simp -implicitDefEqProofs only [AM.RN];first|done|omega)|fail) only [↓AM.R0,AM.R1,AM.R2,Nat.reduceAdd,Nat.reduceLeDiff,Nat.reduceEqDiff,Int.reduceToNat,Nat.reduceLT,↓reduceIte,Int.reduceEq,Int.reduceLT,Int.reduceLE]
  subst hQ
  refine ⟨rfl, ?_⟩
  simp only [shapeF,n1,n2,n3,h4,if_true,Bool.false_eq_true,if_false]
 have n4 : orB op [45] = false := (Bool.or_false _).trans hb
 clear hb
 simp -implicitDefEqProofs (disch := first|decide|assumption|omega|(simp -implicitDefEqProofs only [AM.RN];first|done|omega)|fail) only [↓AM.R0,AM.R1,AM.R2,Nat.reduceAdd,Nat.reduceLeDiff,Nat.reduceEqDiff,Int.reduceToNat,Nat.reduceLT,↓reduceIte,Int.reduceEq,Int.reduceLT,Int.reduceLE,e5]
 refine AM.cI_bool (fun hb => ?_) (fun hb => ?_)
 ·have h5 : orB op [47] = true := (Bool.or_false _).trans hb
  simp -implicitDefEqProofs (disch := first|decide|assumption|omega|(simp -implicitDefEqProofs only [AM.RN];first|done|omega)|fail) only [↓AM.R0,AM.R1,AM.R2,Nat.reduceAdd,Nat.reduceLeDiff,Nat.reduceEqDiff,Int.reduceToNat,Nat.reduceLT,↓reduceIte,Int.reduceEq,Int.reduceLT,Int.reduceLE]
  subst hQ
  refine ⟨rfl, ?_⟩
  simp only [shapeF,n1,n2,n3,n4,h5,if_true,Bool.false_eq_true,if_false]
 have n5 : orB op [47] = false := (Bool.or_false _).trans hb
 clear hb
 simp -implicitDefEqProofs (disch := first|decide|assumption|omega|(simp -implicitDefEqProofs only [AM.RN];first|done|omega)|fail) only [↓AM.R0,AM.R1,AM.R2,Nat.reduceAdd,Nat.reduceLeDiff,Nat.reduceEqDiff,Int.reduceToNat,Nat.reduceLT,↓reduceIte,Int.reduceEq,Int.reduceLT,Int.reduceLE,e5]
 refine cI_or (t := 19) (s := 5) (x := op) (by decide) [(21,39), (22,44), (23,46), (24,48), (25,52)] (by simp -implicitDefEqProofs (disch := first|decide|assumption|omega|(simp -implicitDefEqProofs only [AM.RN];first|done|omega)|fail) only [↓AM.R0,AM.R1,AM.R2,Nat.reduceAdd,Nat.reduceLeDiff,Nat.reduceEqDiff,Int.reduceToNat,Nat.reduceLT,↓reduceIte,Int.reduceEq,Int.reduceLT,Int.reduceLE,e5]) (by simp -implicitDefEqProofs (disch := first|decide|assumption|omega|(simp -implicitDefEqProofs only [AM.RN];first|done|omega)|fail) only [↓AM.R0,AM.R1,AM.R2,Nat.reduceAdd,Nat.reduceLeDiff,Nat.reduceEqDiff,Int.reduceToNat,Nat.reduceLT,↓reduceIte,Int.reduceEq,Int.reduceLT,Int.reduceLE,e5]) (by decide) ?_
 intro e' ht hk
 have e5' : Env.val e' 5 = .int .i64 op := (hk 5 (by decide) (by decide)).trans (by simp -implicitDefEqProofs (disch := first|decide|assumption|omega|(simp -implicitDefEqProofs only [AM.RN];first|done|omega)|fail) only [↓AM.R0,AM.R1,AM.R2,Nat.reduceAdd,Nat.reduceLeDiff,Nat.reduceEqDiff,Int.reduceToNat,Nat.reduceLT,↓reduceIte,Int.reduceEq,Int.reduceLT,Int.reduceLE,e5])
 clear hk
 try clear e5
 have e5 := e5'
 clear e5'
 simp -implicitDefEqProofs (disch := first|decide|assumption|omega|(simp -implicitDefEqProofs only [AM.RN];first|done|omega)|fail) only [↓AM.R0,AM.R1,AM.R2,Nat.reduceAdd,Nat.reduceLeDiff,Nat.reduceEqDiff,Int.reduceToNat,Nat.reduceLT,↓reduceIte,Int.reduceEq,Int.reduceLT,Int.reduceLE,ht]
 refine AM.cI_bool (fun hb => ?_) (fun hb => ?_)
 ·have h6 : orB op [24,39,44,46,48,52] = true := hb
  simp -implicitDefEqProofs (disch := first|decide|assumption|omega|(simp -implicitDefEqProofs only [AM.RN];first|done|omega)|fail) only [↓AM.R0,AM.R1,AM.R2,Nat.reduceAdd,Nat.reduceLeDiff,Nat.reduceEqDiff,Int.reduceToNat,Nat.reduceLT,↓reduceIte,Int.reduceEq,Int.reduceLT,Int.reduceLE]
  subst hQ
  refine ⟨rfl, ?_⟩
  simp only [shapeF,n1,n2,n3,n4,n5,h6,if_true,Bool.false_eq_true,if_false]
 have n6 : orB op [24,39,44,46,48,52] = false := hb
 clear hb
 clear ht
 simp -implicitDefEqProofs (disch := first|decide|assumption|omega|(simp -implicitDefEqProofs only [AM.RN];first|done|omega)|fail) only [↓AM.R0,AM.R1,AM.R2,Nat.reduceAdd,Nat.reduceLeDiff,Nat.reduceEqDiff,Int.reduceToNat,Nat.reduceLT,↓reduceIte,Int.reduceEq,Int.reduceLT,Int.reduceLE,e5]
 refine cI_or (t := 26) (s := 5) (x := op) (by decide) [(28,21), (29,22), (30,25), (31,26), (32,28), (33,33), (34,34), (35,40), (36,42), (37,49), (38,50), (39,51)] (by simp -implicitDefEqProofs (disch := first|decide|assumption|omega|(simp -implicitDefEqProofs only [AM.RN];first|done|omega)|fail) only [↓AM.R0,AM.R1,AM.R2,Nat.reduceAdd,Nat.reduceLeDiff,Nat.reduceEqDiff,Int.reduceToNat,Nat.reduceLT,↓reduceIte,Int.reduceEq,Int.reduceLT,Int.reduceLE,e5]) (by simp -implicitDefEqProofs (disch := first|decide|assumption|omega|(simp -implicitDefEqProofs only [AM.RN];first|done|omega)|fail) only [↓AM.R0,AM.R1,AM.R2,Nat.reduceAdd,Nat.reduceLeDiff,Nat.reduceEqDiff,Int.reduceToNat,Nat.reduceLT,↓reduceIte,Int.reduceEq,Int.reduceLT,Int.reduceLE,e5]) (by decide) ?_
 intro e' ht hk
 have e5' : Env.val e' 5 = .int .i64 op := (hk 5 (by decide) (by decide)).trans (by simp -implicitDefEqProofs (disch := first|decide|assumption|omega|(simp -implicitDefEqProofs only [AM.RN];first|done|omega)|fail) only [↓AM.R0,AM.R1,AM.R2,Nat.reduceAdd,Nat.reduceLeDiff,Nat.reduceEqDiff,Int.reduceToNat,Nat.reduceLT,↓reduceIte,Int.reduceEq,Int.reduceLT,Int.reduceLE,e5])
 clear hk
 try clear e5
 have e5 := e5'
 clear e5'
 simp -implicitDefEqProofs (disch := first|decide|assumption|omega|(simp -implicitDefEqProofs only [AM.RN];first|done|omega)|fail) only [↓AM.R0,AM.R1,AM.R2,Nat.reduceAdd,Nat.reduceLeDiff,Nat.reduceEqDiff,Int.reduceToNat,Nat.reduceLT,↓reduceIte,Int.reduceEq,Int.reduceLT,Int.reduceLE,ht]
 refine AM.cI_bool (fun hb => ?_) (fun hb => ?_)
 ·have h7 : orB op [2,21,22,25,26,28,33,34,40,42,49,50,51] = true := hb
  simp -implicitDefEqProofs (disch := first|decide|assumption|omega|(simp -implicitDefEqProofs only [AM.RN];first|done|omega)|fail) only [↓AM.R0,AM.R1,AM.R2,Nat.reduceAdd,Nat.reduceLeDiff,Nat.reduceEqDiff,Int.reduceToNat,Nat.reduceLT,↓reduceIte,Int.reduceEq,Int.reduceLT,Int.reduceLE]
  subst hQ
  refine ⟨rfl, ?_⟩
  simp only [shapeF,n1,n2,n3,n4,n5,n6,h7,if_true,Bool.false_eq_true,if_false]
 have n7 : orB op [2,21,22,25,26,28,33,34,40,42,49,50,51] = false := hb
 clear hb
 clear ht
 simp -implicitDefEqProofs (disch := first|decide|assumption|omega|(simp -implicitDefEqProofs only [AM.RN];first|done|omega)|fail) only [↓AM.R0,AM.R1,AM.R2,Nat.reduceAdd,Nat.reduceLeDiff,Nat.reduceEqDiff,Int.reduceToNat,Nat.reduceLT,↓reduceIte,Int.reduceEq,Int.reduceLT,Int.reduceLE,e5]
 subst hQ
 refine ⟨rfl, ?_⟩
 simp only [shapeF,n1,n2,n3,n4,n5,n6,n7,Bool.false_eq_true,if_false]
def formB (i : PIns) : Bool := decide ((shapeF i.op).1 < 1) && !decide (i.a = 0) || decide ((shapeF i.op).1 < 2) && !decide (i.b = 0) || decide ((shapeF i.op).1 < 3) && !decide (i.c = 0) || !(shapeF i.op).2.1 && !decide ((i.imm : Int) = 0) || !(shapeF i.op).2.2 && !decide ((i.list.length : Int) = 0)
def formF (i : PIns) : Int := if formB i = true then 8 else if 24 < i.list.length then 16 else 0
set_option maxHeartbeats 1000000 in
theorem plain {h : AHeap} {c : Nat} {p : PProg} {f : PFunc} {i : PIns} (C : CkR h c p f i) :
  CallP AP 51 [.ptr c 0 0, .int .i64 (shapeF i.op).1, .bool (shapeF i.op).2.1, .bool (shapeF i.op).2.2] h fun r h' => HFrame h h' [] [] ∧ r = .int .i64 (formF i) := by
 obtain ⟨tv,gv,fv,sv,rv,cv,at_,lv,g,lt,s1,s2,s3,s4,s5,s6,hi,s7⟩ := C
 refine callP (rfl : Tr.get AP 51 = some A51) ?_
 generalize hQ : (fun (r : AVal) (h' : AHeap) => _) = Q
 have l7 := s7.len
 have c7 := SlIn.cellv s7
 have f0 := ((HFrame.refl (h := h) (F := []) (by simp)).pushTmp (.cells 0 false [.int .i64 0, .int .i64 0, .int .i64 0, .int .i64 0, .int .u64 0, .nils])).setTmp (i := h.n) (Nat.le_refl _) (.cells 0 false [.int .i64 i.op, .int .i64 i.a, .int .i64 i.b, .int .i64 i.c, .int .u64 i.imm,lv])
 simp -implicitDefEqProofs (disch := first|decide|assumption|omega|(simp -implicitDefEqProofs only [AM.RN];first|done|omega)|fail) only [AM.RGB,↓AM.R0,AM.R1,AM.R2,Nat.reduceAdd,Nat.reduceLeDiff,Nat.reduceEqDiff,Int.reduceToNat,Nat.reduceLT,↓reduceIte,Int.reduceEq,Int.reduceLT,Int.reduceLE,g,l7,c7]
 refine AM.cI_bool (fun hb => ?_) (fun hb => ?_)
 ·have hb' : formB i = true := hb
  simp -implicitDefEqProofs (disch := first|decide|assumption|omega|(simp -implicitDefEqProofs only [AM.RN];first|done|omega)|fail) only [↓AM.R0,AM.R1,AM.R2,Nat.reduceAdd,Nat.reduceLeDiff,Nat.reduceEqDiff,Int.reduceToNat,Nat.reduceLT,↓reduceIte,Int.reduceEq,Int.reduceLT,Int.reduceLE]
  subst hQ
  exact ⟨f0,by rw [formF,if_pos hb']⟩
 ·have hb' : formB i = false := hb
  simp -implicitDefEqProofs (disch := first|decide|assumption|omega|(simp -implicitDefEqProofs only [AM.RN];first|done|omega)|fail) only [↓AM.R0,AM.R1,AM.R2,Nat.reduceAdd,Nat.reduceLeDiff,Nat.reduceEqDiff,Int.reduceToNat,Nat.reduceLT,↓reduceIte,Int.reduceEq,Int.reduceLT,Int.reduceLE,l7]
  refine AM.cI_bool (fun hc => ?_) (fun hc => ?_)
  ·simp -implicitDefEqProofs (disch := first|decide|assumption|omega|(simp -implicitDefEqProofs only [AM.RN];first|done|omega)|fail) only [↓AM.R0,AM.R1,AM.R2,Nat.reduceAdd,Nat.reduceLeDiff,Nat.reduceEqDiff,Int.reduceToNat,Nat.reduceLT,↓reduceIte,Int.reduceEq,Int.reduceLT,Int.reduceLE]
   subst hQ
   simp only [decide_eq_true_eq] at hc
   exact ⟨f0,by rw [formF,if_neg (by simp [hb']), if_pos (by omega)]⟩
  ·simp -implicitDefEqProofs (disch := first|decide|assumption|omega|(simp -implicitDefEqProofs only [AM.RN];first|done|omega)|fail) only [↓AM.R0,AM.R1,AM.R2,Nat.reduceAdd,Nat.reduceLeDiff,Nat.reduceEqDiff,Int.reduceToNat,Nat.reduceLT,↓reduceIte,Int.reduceEq,Int.reduceLT,Int.reduceLE]
   subst hQ
   simp only [decide_eq_false_iff_not] at hc
   exact ⟨f0,by rw [formF,if_neg (by simp [hb']), if_neg (by omega)]⟩
set_option maxHeartbeats 1000000 in
theorem alike {h : AHeap} {c : Nat} {p : PProg} {f : PFunc} {i : PIns} (C : CkR h c p f i) {v : AVal} {l : List Int} (L : SlIn h 1 encK v l) (hl : l.length < 1073741824) (w : AVal) (is : Int → Bool) (fid : Nat) (hw : w = .fn (.func fid) [] [])
  (his : ∀ (k : Int) (h : AHeap), CallP AP fid [.int .i64 k] h fun r h' => h' = h ∧ r = .bool (is k)) :
  CallP AP 53 [.ptr c 0 0,w,v] h fun r h' => h' = h ∧ r = .int .i64 (alikeF f.slots is l) := by
 refine callP (rfl : Tr.get AP 53 = some A53) ?_
 generalize hQ : (fun (r : AVal) (h' : AHeap) => _) = Q
 have ll := L.len
 simp -implicitDefEqProofs (disch := first|decide|assumption|omega|(simp -implicitDefEqProofs only [AM.RN];first|done|omega)|fail) only [↓AM.R0,AM.R1,AM.R2,Nat.reduceAdd,Nat.reduceLeDiff,Nat.reduceEqDiff,Int.reduceToNat,Nat.reduceLT,↓reduceIte,Int.reduceEq,Int.reduceLT,Int.reduceLE,ll]
 refine AM.loopI_of (fun k e h' => ∃ x : Nat,k + x = l.length ∧ e.val 0 = .ptr c 0 0 ∧ e.val 1 = w ∧ e.val 2 = v ∧ e.val 7 = .int .i64 (-1) ∧ e.val 16 = v ∧ e.val 17 = .int .i64 l.length ∧ e.val 18 = .int .i64 x ∧ h' = h ∧ l.any (fun n => (slotK f.slots n).isNone) = (l.drop x).any (fun n => (slotK f.slots n).isNone)) l.length ?_ ?_
 ·refine ⟨0,by omega, ?_, ?_, ?_, ?_, ?_, ?_, ?_,rfl,by simp⟩ <;> simp -implicitDefEqProofs (disch := first|decide|assumption|omega|(simp -implicitDefEqProofs only [AM.RN];first|done|omega)|fail) only [↓AM.R0,AM.R1,AM.R2,Nat.reduceAdd,Nat.reduceLeDiff,Nat.reduceEqDiff,Int.reduceToNat,Nat.reduceLT,↓reduceIte,Int.reduceEq,Int.reduceLT,Int.reduceLE] <;> rfl
 ·rintro k e h' ⟨x,hk,e0,e1,e2,e7,e16,e17,e18,rfl,ha⟩
  simp -implicitDefEqProofs (disch := first|decide|assumption|omega|(simp -implicitDefEqProofs only [AM.RN];first|done|omega)|fail) only [↓AM.R0,AM.R1,AM.R2,Nat.reduceAdd,Nat.reduceLeDiff,Nat.reduceEqDiff,Int.reduceToNat,Nat.reduceLT,↓reduceIte,Int.reduceEq,Int.reduceLT,Int.reduceLE,e16,e17,e18]
  refine AM.cI_bool (fun hb => ?_) (fun hb => ?_)
  ·simp only [decide_eq_true_eq] at hb
   obtain ⟨a,hx⟩ : ∃ a,l[x]? = some a := ⟨_,List.getElem?_eq_getElem (by omega)⟩
   obtain ⟨j,g,off,vs,ro,x1,x2,x3,x5⟩ := (L.rd hx).ix1 (enc := fun n => .int .i64 n) hx .i64
   have hw1 : IntKind.i64.wrap ((x : Int) + 1) = ((x + 1 : Nat) : Int) := (wrap64 (by omega) (by omega)).trans (by omega)
   rw [any_drop hx] at ha
   simp -implicitDefEqProofs (disch := first|decide|assumption|omega|(simp -implicitDefEqProofs only [AM.RN];first|done|omega)|fail) only [↓AM.R0,AM.R1,AM.R2,Nat.reduceAdd,Nat.reduceLeDiff,Nat.reduceEqDiff,Int.reduceToNat,Nat.reduceLT,↓reduceIte,Int.reduceEq,Int.reduceLT,Int.reduceLE,e0,e16,e17,e18,x1,x2,x5]
   refine AM.callI_of (slot C a) ?_
   rintro r h2 ⟨rfl,rfl⟩
   simp -implicitDefEqProofs (disch := first|decide|assumption|omega|(simp -implicitDefEqProofs only [AM.RN];first|done|omega)|fail) only [↓AM.R0,AM.R1,AM.R2,Nat.reduceAdd,Nat.reduceLeDiff,Nat.reduceEqDiff,Int.reduceToNat,Nat.reduceLT,↓reduceIte,Int.reduceEq,Int.reduceLT,Int.reduceLE,e0,e16,e17,e18]
   refine AM.cI_bool (fun hc => ?_) (fun hc => ?_)
   ·simp -implicitDefEqProofs (disch := first|decide|assumption|omega|(simp -implicitDefEqProofs only [AM.RN];first|done|omega)|fail) only [↓AM.R0,AM.R1,AM.R2,Nat.reduceAdd,Nat.reduceLeDiff,Nat.reduceEqDiff,Int.reduceToNat,Nat.reduceLT,↓reduceIte,Int.reduceEq,Int.reduceLT,Int.reduceLE]
    subst hQ
    have : (slotK f.slots a).isNone = true := by simpa using hc
    rw [alikeF,ha,this]
    exact ⟨rfl,rfl⟩
   ·simp -implicitDefEqProofs (disch := first|decide|assumption|omega|(simp -implicitDefEqProofs only [AM.RN];first|done|omega)|fail) only [↓AM.R0,AM.R1,AM.R2,Nat.reduceAdd,Nat.reduceLeDiff,Nat.reduceEqDiff,Int.reduceToNat,Nat.reduceLT,↓reduceIte,Int.reduceEq,Int.reduceLT,Int.reduceLE,e0,e1,e2,e7,e16,e17,e18,hw1]
    have : (slotK f.slots a).isNone = false := by simpa using hc
    rw [this,Bool.false_or] at ha
    exact ⟨l.length - (x + 1), by omega,x + 1,by omega,rfl,ha⟩
  ·simp only [decide_eq_false_iff_not] at hb
   rw [List.drop_of_length_le (by omega), List.any_nil] at ha
   simp -implicitDefEqProofs (disch := first|decide|assumption|omega|(simp -implicitDefEqProofs only [AM.RN];first|done|omega)|fail) only [↓AM.R0,AM.R1,AM.R2,Nat.reduceAdd,Nat.reduceLeDiff,Nat.reduceEqDiff,Int.reduceToNat,Nat.reduceLT,↓reduceIte,Int.reduceEq,Int.reduceLT,Int.reduceLE,e2,ll]
   have hsome : ∀ {n : Int}, n ∈ l → ∃ k,slotK f.slots n = some k := fun {n} hn => by
    cases hq : slotK f.slots n with
    | some k => exact ⟨k,rfl⟩
    | none =>
     have := List.any_eq_false.1 ha n hn
     rw [hq] at this; simp at this
   refine AM.loopI_of (fun k e h2 => ∃ x : Nat,k + x = l.length ∧ e.val 0 = .ptr c 0 0 ∧ e.val 1 = w ∧ (0 < x → e.val 7 = .int .i64 ((slotK f.slots (l.headD 0)).getD 0)) ∧ e.val 31 = v ∧ e.val 32 = .int .i64 l.length ∧ e.val 33 = .int .i64 x ∧ h2 = h' ∧
    l.any (fun n => slotK f.slots n != slotK f.slots (l.headD 0) || !is ((slotK f.slots n).getD 0)) = (l.drop x).any (fun n => slotK f.slots n != slotK f.slots (l.headD 0) || !is ((slotK f.slots n).getD 0))) l.length ?_ ?_
   ·refine ⟨0,by omega, ?_, ?_,by omega, ?_, ?_, ?_,rfl,by simp⟩ <;> simp -implicitDefEqProofs (disch := first|decide|assumption|omega|(simp -implicitDefEqProofs only [AM.RN];first|done|omega)|fail) only [↓AM.R0,AM.R1,AM.R2,Nat.reduceAdd,Nat.reduceLeDiff,Nat.reduceEqDiff,Int.reduceToNat,Nat.reduceLT,↓reduceIte,Int.reduceEq,Int.reduceLT,Int.reduceLE,e0,e1] <;> rfl
   ·clear hb e0 e1 e2 e7 e16 e17 e18 hk
    rintro k e h2 ⟨x,hk,e0,e1,e7,e31,e32,e33,rfl,hA⟩
    simp -implicitDefEqProofs (disch := first|decide|assumption|omega|(simp -implicitDefEqProofs only [AM.RN];first|done|omega)|fail) only [↓AM.R0,AM.R1,AM.R2,Nat.reduceAdd,Nat.reduceLeDiff,Nat.reduceEqDiff,Int.reduceToNat,Nat.reduceLT,↓reduceIte,Int.reduceEq,Int.reduceLT,Int.reduceLE,e31,e32,e33]
    refine AM.cI_bool (fun hb => ?_) (fun hb => ?_)
    ·simp only [decide_eq_true_eq] at hb
     obtain ⟨a,hx⟩ : ∃ a,l[x]? = some a := ⟨_,List.getElem?_eq_getElem (by omega)⟩
     obtain ⟨j,g,off,vs,ro,x1,x2,x3,x5⟩ := (L.rd hx).ix1 (enc := fun n => .int .i64 n) hx .i64
     have hw1 : IntKind.i64.wrap ((x : Int) + 1) = ((x + 1 : Nat) : Int) := (wrap64 (by omega) (by omega)).trans (by omega)
     obtain ⟨ka,hka⟩ := hsome (List.mem_of_getElem? hx)
     obtain ⟨b,hb0⟩ : ∃ b,l[0]? = some b := ⟨_,List.getElem?_eq_getElem (by omega)⟩
     have hd0 : l.headD 0 = b := by cases l <;> simp_all
     obtain ⟨kb,hkb⟩ := hsome (List.mem_of_getElem? hb0)
     rw [any_drop hx] at hA
     simp -implicitDefEqProofs (disch := first|decide|assumption|omega|(simp -implicitDefEqProofs only [AM.RN];first|done|omega)|fail) only [↓AM.R0,AM.R1,AM.R2,Nat.reduceAdd,Nat.reduceLeDiff,Nat.reduceEqDiff,Int.reduceToNat,Nat.reduceLT,↓reduceIte,Int.reduceEq,Int.reduceLT,Int.reduceLE,e0,e1,e31,e32,e33,x1,x2,x5]
     refine AM.callI_of (slot C a) ?_
     rintro r h2 ⟨rfl,rfl⟩
     rw [hka]
     simp -implicitDefEqProofs (disch := first|decide|assumption|omega|(simp -implicitDefEqProofs only [AM.RN];first|done|omega)|fail) only [↓AM.R0,AM.R1,AM.R2,Nat.reduceAdd,Nat.reduceLeDiff,Nat.reduceEqDiff,Int.reduceToNat,Nat.reduceLT,↓reduceIte,Int.reduceEq,Int.reduceLT,Int.reduceLE,e0,e1,e31,e32,e33]
     have e7' : 0 < x → e.val 7 = .int .i64 kb := fun h => by rw [e7 h,hd0,hkb]; rfl
     refine AM.cI_cut (fun e' h3 => h3 = h2 ∧ e'.val 0 = .ptr c 0 0 ∧ e'.val 1 = w ∧ e'.val 14 = .int .i64 ka ∧ e'.val 7 = .int .i64 kb ∧ e'.val 31 = v ∧ e'.val 32 = .int .i64 l.length ∧ e'.val 33 = .int .i64 x) ?_ ?_
     ·intro e' h3 ⟨hh,v0,v1,v14,v7,v31,v32,v33⟩
      subst hh
      simp -implicitDefEqProofs (disch := first|decide|assumption|omega|(simp -implicitDefEqProofs only [AM.RN];first|done|omega)|fail) only [↓AM.R0,AM.R1,AM.R2,Nat.reduceAdd,Nat.reduceLeDiff,Nat.reduceEqDiff,Int.reduceToNat,Nat.reduceLT,↓reduceIte,Int.reduceEq,Int.reduceLT,Int.reduceLE,v1,v7,v14]
      have hlast : (slotK f.slots a != slotK f.slots (l.headD 0) || !is ((slotK f.slots a).getD 0)) = (!decide (ka = kb) || !is ka) := by
       rw [hka,hd0,hkb]
       by_cases hq : ka = kb <;> simp [hq]
      rw [hlast] at hA
      refine AM.gI_bool (fun hc => ?_) (fun hc => ?_)
      ·have hc' : decide (ka = kb) = false := by simpa using hc
       simp -implicitDefEqProofs (disch := first|decide|assumption|omega|(simp -implicitDefEqProofs only [AM.RN];first|done|omega)|fail) only [↓AM.R0,AM.R1,AM.R2,Nat.reduceAdd,Nat.reduceLeDiff,Nat.reduceEqDiff,Int.reduceToNat,Nat.reduceLT,↓reduceIte,Int.reduceEq,Int.reduceLT,Int.reduceLE,hc']
       subst hQ
       rw [alikeF,ha,hA,hc']
       exact ⟨rfl,rfl⟩
      ·have hc' : decide (ka = kb) = true := by simpa using hc
       rw [hc', Bool.not_true,Bool.false_or] at hA
       simp -implicitDefEqProofs (disch := first|decide|assumption|omega|(simp -implicitDefEqProofs only [AM.RN];first|done|omega)|fail) only [↓AM.R0,AM.R1,AM.R2,Nat.reduceAdd,Nat.reduceLeDiff,Nat.reduceEqDiff,Int.reduceToNat,Nat.reduceLT,↓reduceIte,Int.reduceEq,Int.reduceLT,Int.reduceLE,v1,v14,hw,hc']
       refine AM.callI_of (his ka h3) ?_
       rintro r h4 ⟨rfl,rfl⟩
       simp -implicitDefEqProofs (disch := first|decide|assumption|omega|(simp -implicitDefEqProofs only [AM.RN];first|done|omega)|fail) only [↓AM.R0,AM.R1,AM.R2,Nat.reduceAdd,Nat.reduceLeDiff,Nat.reduceEqDiff,Int.reduceToNat,Nat.reduceLT,↓reduceIte,Int.reduceEq,Int.reduceLT,Int.reduceLE,hc']
       refine AM.cI_bool (fun hd => ?_) (fun hd => ?_)
       ·simp -implicitDefEqProofs (disch := first|decide|assumption|omega|(simp -implicitDefEqProofs only [AM.RN];first|done|omega)|fail) only [↓AM.R0,AM.R1,AM.R2,Nat.reduceAdd,Nat.reduceLeDiff,Nat.reduceEqDiff,Int.reduceToNat,Nat.reduceLT,↓reduceIte,Int.reduceEq,Int.reduceLT,Int.reduceLE]
        subst hQ
        rw [alikeF,ha,hA,hd]
        exact ⟨rfl,rfl⟩
       ·simp -implicitDefEqProofs (disch := first|decide|assumption|omega|(simp -implicitDefEqProofs only [AM.RN];first|done|omega)|fail) only [↓AM.R0,AM.R1,AM.R2,Nat.reduceAdd,Nat.reduceLeDiff,Nat.reduceEqDiff,Int.reduceToNat,Nat.reduceLT,↓reduceIte,Int.reduceEq,Int.reduceLT,Int.reduceLE,v0,v1,v7,v31,v32,v33,hw1]
        rw [hd,Bool.false_or] at hA
        exact ⟨l.length - (x + 1), by omega,x + 1,by omega,hw,fun _ => by rw [hd0,hkb]; rfl,rfl,hA⟩
     ·refine AM.cI_bool (fun hc => ?_) (fun hc => ?_)
      ·have hx0 : x = 0 := by simp only [decide_eq_true_eq] at hc; omega
       subst hx0
       have hab : a = b := by rw [hx] at hb0; exact Option.some.inj hb0
       subst hab
       have hkk : ka = kb := by rw [hka] at hkb; exact Option.some.inj hkb
       subst hkk
       simp -implicitDefEqProofs (disch := first|decide|assumption|omega|(simp -implicitDefEqProofs only [AM.RN];first|done|omega)|fail) only [↓AM.R0,AM.R1,AM.R2,Nat.reduceAdd,Nat.reduceLeDiff,Nat.reduceEqDiff,Int.reduceToNat,Nat.reduceLT,↓reduceIte,Int.reduceEq,Int.reduceLT,Int.reduceLE,e0,e1,e31,e32,e33]
       rfl
      ·have hx0 : 0 < x := by simp only [decide_eq_false_iff_not] at hc; omega
       simp -implicitDefEqProofs (disch := first|decide|assumption|omega|(simp -implicitDefEqProofs only [AM.RN];first|done|omega)|fail) only [↓AM.R0,AM.R1,AM.R2,Nat.reduceAdd,Nat.reduceLeDiff,Nat.reduceEqDiff,Int.reduceToNat,Nat.reduceLT,↓reduceIte,Int.reduceEq,Int.reduceLT,Int.reduceLE,e0,e1,e31,e32,e33,e7' hx0]
       rfl
    ·simp only [decide_eq_false_iff_not] at hb
     rw [List.drop_of_length_le (by omega), List.any_nil] at hA
     simp -implicitDefEqProofs (disch := first|decide|assumption|omega|(simp -implicitDefEqProofs only [AM.RN];first|done|omega)|fail) only [↓AM.R0,AM.R1,AM.R2,Nat.reduceAdd,Nat.reduceLeDiff,Nat.reduceEqDiff,Int.reduceToNat,Nat.reduceLT,↓reduceIte,Int.reduceEq,Int.reduceLT,Int.reduceLE]
     subst hQ
     rw [alikeF,ha,hA]
     exact ⟨rfl,rfl⟩
end Go.Proofs.Ytofcnjglnnoimaa.Vf
namespace Go.Proofs.Ytofcnjglnnoimaa.Vf
open Go Go.AM Go.Proofs.Ytofcnjglnnoimaa.AmGY
attribute [local irreducible] AM.wp AM.wpIs AM.wpTr AM.opI AM.gI AM.cI AM.trI AM.callI AM.fnI AM.trG AM.trOp AM.trCall AM.seqC AM.loopI
set_option maxRecDepth 100000
set_option linter.unusedVariables false
set_option linter.unusedSimpArgs false
section
variable {h1 : AHeap} {c : Nat} {p : PProg} {f : PFunc} {i : PIns} (C : CkR h1 c p f i)
 include C
theorem are1 (a x : Int) : CallP AP 56 [.ptr c 0 0, .sl h1.n 0 0 2 1] (h1.push (.cells 0 false [.int .i64 a, .int .i64 x])) fun r h' => HFrame h1 h' [] [] ∧ r = .int .i64 (areF f.slots [(a,x)]) := by
 have f1 := (HFrame.refl (h := h1) (F := []) (by simp)).pushTmp (.cells 0 false [.int .i64 a, .int .i64 x])
 exact (are (C.keep f1) (l := [(a,x)]) (.inl (.inr ⟨h1.n,0,0,_,false,rfl,AHeap.get_push_same _ _,by simp,by simp [flat],by simp [flat]⟩)) (by simp)).mono fun r h' ⟨e,q⟩ => ⟨e ▸ f1,q⟩
theorem are2 (a x b y : Int) : CallP AP 56 [.ptr c 0 0, .sl h1.n 0 0 4 1] (h1.push (.cells 0 false [.int .i64 a, .int .i64 x, .int .i64 b, .int .i64 y])) fun r h' => HFrame h1 h' [] [] ∧ r = .int .i64 (areF f.slots [(a,x), (b,y)]) := by
 have f1 := (HFrame.refl (h := h1) (F := []) (by simp)).pushTmp (.cells 0 false [.int .i64 a, .int .i64 x, .int .i64 b, .int .i64 y])
 exact (are (C.keep f1) (l := [(a,x), (b,y)]) (.inl (.inr ⟨h1.n,0,0,_,false,rfl,AHeap.get_push_same _ _,by simp,by simp [flat],by simp [flat]⟩)) (by simp)).mono fun r h' ⟨e,q⟩ => ⟨e ▸ f1,q⟩
theorem are3 (a x b y d z : Int) : CallP AP 56 [.ptr c 0 0, .sl h1.n 0 0 6 1] (h1.push (.cells 0 false [.int .i64 a, .int .i64 x, .int .i64 b, .int .i64 y, .int .i64 d, .int .i64 z])) fun r h' => HFrame h1 h' [] [] ∧ r = .int .i64 (areF f.slots [(a,x), (b,y), (d,z)]) := by
 have f1 := (HFrame.refl (h := h1) (F := []) (by simp)).pushTmp (.cells 0 false [.int .i64 a, .int .i64 x, .int .i64 b, .int .i64 y, .int .i64 d, .int .i64 z])
 exact (are (C.keep f1) (l := [(a,x), (b,y), (d,z)]) (.inl (.inr ⟨h1.n,0,0,_,false,rfl,AHeap.get_push_same _ _,by simp,by simp [flat],by simp [flat]⟩)) (by simp)).mono fun r h' ⟨e,q⟩ => ⟨e ▸ f1,q⟩
theorem alike1 (w : AVal) (is : Int → Bool) (fid : Nat) (hw : w = .fn (.func fid) [] [])
  (his : ∀ (k : Int) (h : AHeap), CallP AP fid [.int .i64 k] h fun r h' => h' = h ∧ r = .bool (is k)) (a : Int) : CallP AP 53 [.ptr c 0 0,w, .sl h1.n 0 0 1 1] (h1.push (.cells 0 false [.int .i64 a])) fun r h' => HFrame h1 h' [] [] ∧ r = .int .i64 (alikeF f.slots is [a]) := by
 have f1 := (HFrame.refl (h := h1) (F := []) (by simp)).pushTmp (.cells 0 false [.int .i64 a])
 exact (alike (C.keep f1) (l := [a]) (.inl (.inr ⟨h1.n,0,0,_,false,rfl,AHeap.get_push_same _ _,by simp,by simp,by simp⟩)) (by simp) w is fid hw his).mono fun r h' ⟨e,q⟩ => ⟨e ▸ f1,q⟩
theorem alike2 (w : AVal) (is : Int → Bool) (fid : Nat) (hw : w = .fn (.func fid) [] [])
  (his : ∀ (k : Int) (h : AHeap), CallP AP fid [.int .i64 k] h fun r h' => h' = h ∧ r = .bool (is k)) (a b : Int) : CallP AP 53 [.ptr c 0 0,w, .sl h1.n 0 0 2 1] (h1.push (.cells 0 false [.int .i64 a, .int .i64 b])) fun r h' => HFrame h1 h' [] [] ∧ r = .int .i64 (alikeF f.slots is [a,b]) := by
 have f1 := (HFrame.refl (h := h1) (F := []) (by simp)).pushTmp (.cells 0 false [.int .i64 a, .int .i64 b])
 exact (alike (C.keep f1) (l := [a,b]) (.inl (.inr ⟨h1.n,0,0,_,false,rfl,AHeap.get_push_same _ _,by simp,by simp,by simp⟩)) (by simp) w is fid hw his).mono fun r h' ⟨e,q⟩ => ⟨e ▸ f1,q⟩
end
def toF (f : PFunc) (n : Int) : Int := if n < 0 ∨ f.code.length ≤ n then 12 else 0
def jumpF (f : PFunc) (i : PIns) : Int := if i.op = 25 then if areF f.slots [(i.a,0)] ≠ 0 then areF f.slots [(i.a,0)] else toF f i.b else toF f i.a
theorem InsR.keep {h h' : AHeap} {i : PIns} {row : List AVal} (r : InsR h i row) {F : List Nat} (f : HFrame h h' [] F) : InsR h' i row := InsR.mono f.n (fun j hj => f.get j hj (by simp)) r
set_option maxHeartbeats 1000000 in
theorem jump {h : AHeap} {c : Nat} {p : PProg} {f : PFunc} {i : PIns} (C : CkR h c p f i) {row : List AVal} (R : InsR h i row) :
  CallP AP 57 [.ptr c 0 0, .agg row] h fun r h' => HFrame h h' [] [] ∧ r = .int .i64 (jumpF f i) := by
 obtain ⟨_,lw,rfl,L⟩ := R
 refine callP (rfl : Tr.get AP 57 = some A57) ?_
 generalize hQ : (fun (r : AVal) (h' : AHeap) => _) = Q
 have cl := SlIn.cellv L
 have f0 := (HFrame.refl (h := h) (F := []) (by simp)).pushTmp (.cells 0 false [.int .i64 i.op, .int .i64 i.a, .int .i64 i.b, .int .i64 i.c, .int .u64 i.imm,lw])
 have C0 := C
 obtain ⟨tv,gv,fv,sv,rv,cv,at_,lv,g,lt,s1,s2,s3,s4,s5,s6,hi,s7⟩ := C
 have l6 := s6.len
 simp -implicitDefEqProofs (disch := first|decide|assumption|omega|(simp -implicitDefEqProofs only [AM.RN];first|done|omega)|fail) only [AM.RGB,↓AM.R0,AM.R1,AM.R2,Nat.reduceAdd,Nat.reduceLeDiff,Nat.reduceEqDiff,Int.reduceToNat,Nat.reduceLT,↓reduceIte,Int.reduceEq,Int.reduceLT,Int.reduceLE,cl]
 have gB : (h.push (.cells 0 false [.int .i64 i.op, .int .i64 i.a, .int .i64 i.b, .int .i64 i.c, .int .u64 i.imm,lw])).get h.n = _ := AHeap.get_push_same _ _
 have gC := (f0.get c lt (by simp)).trans g
 have hn0 : h.n < (h.push (.cells 0 false [.int .i64 i.op, .int .i64 i.a, .int .i64 i.b, .int .i64 i.c, .int .u64 i.imm,lw])).n := by simp
 generalize h.push (.cells 0 false [.int .i64 i.op, .int .i64 i.a, .int .i64 i.b, .int .i64 i.c, .int .u64 i.imm,lw]) = h1 at *
 refine AM.cI_bool (fun ho => ?_) (fun ho => ?_)
 ·simp only [decide_eq_true_eq] at ho
  simp -implicitDefEqProofs (disch := first|decide|assumption|omega|(simp -implicitDefEqProofs only [AM.RN];first|done|omega)|fail) only [AM.RGB,↓AM.R0,AM.R1,AM.R2,Nat.reduceAdd,Nat.reduceLeDiff,Nat.reduceEqDiff,Int.reduceToNat,Nat.reduceLT,↓reduceIte,Int.reduceEq,Int.reduceLT,Int.reduceLE,AM.a_buildSlice,List.range,List.range.loop,List.getD_cons_zero,Nat.mod_one,gB]
  refine AM.callI_of (are1 (C0.keep f0) i.a 0) ?_
  rintro r h2 ⟨f12,rfl⟩
  have f2 := f0.trans f12
  have gC2 := (f2.get c lt (by simp)).trans g
  have gB2 := (f12.get h.n hn0 (by simp)).trans gB
  have hn2 : h.n < h2.n := by have := f12.n; omega
  simp -implicitDefEqProofs (disch := first|decide|assumption|omega|(simp -implicitDefEqProofs only [AM.RN];first|done|omega)|fail) only [↓AM.R0,AM.R1,AM.R2,Nat.reduceAdd,Nat.reduceLeDiff,Nat.reduceEqDiff,Int.reduceToNat,Nat.reduceLT,↓reduceIte,Int.reduceEq,Int.reduceLT,Int.reduceLE]
  refine AM.cI_bool (fun hc => ?_) (fun hc => ?_)
  ·simp -implicitDefEqProofs (disch := first|decide|assumption|omega|(simp -implicitDefEqProofs only [AM.RN];first|done|omega)|fail) only [↓AM.R0,AM.R1,AM.R2,Nat.reduceAdd,Nat.reduceLeDiff,Nat.reduceEqDiff,Int.reduceToNat,Nat.reduceLT,↓reduceIte,Int.reduceEq,Int.reduceLT,Int.reduceLE]
   subst hQ
   have hc' : areF f.slots [(i.a,0)] ≠ 0 := by simpa using hc
   exact ⟨f2,by rw [jumpF,if_pos ho,if_pos hc']⟩
  ·have hc' : ¬ areF f.slots [(i.a,0)] ≠ 0 := by simpa using hc
   simp -implicitDefEqProofs (disch := first|decide|assumption|omega|(simp -implicitDefEqProofs only [AM.RN];first|done|omega)|fail) only [AM.RGB,↓AM.R0,AM.R1,AM.R2,Nat.reduceAdd,Nat.reduceLeDiff,Nat.reduceEqDiff,Int.reduceToNat,Nat.reduceLT,↓reduceIte,Int.reduceEq,Int.reduceLT,Int.reduceLE,gB2,gC2,l6]
   refine AM.cI_bool (fun hd => ?_) (fun hd => ?_)
   ·simp -implicitDefEqProofs (disch := first|decide|assumption|omega|(simp -implicitDefEqProofs only [AM.RN];first|done|omega)|fail) only [↓AM.R0,AM.R1,AM.R2,Nat.reduceAdd,Nat.reduceLeDiff,Nat.reduceEqDiff,Int.reduceToNat,Nat.reduceLT,↓reduceIte,Int.reduceEq,Int.reduceLT,Int.reduceLE]
    subst hQ
    simp only [Bool.or_eq_true,decide_eq_true_eq] at hd
    exact ⟨f2,by rw [jumpF,if_pos ho,if_neg hc', toF,if_pos (by omega)]⟩
   ·simp -implicitDefEqProofs (disch := first|decide|assumption|omega|(simp -implicitDefEqProofs only [AM.RN];first|done|omega)|fail) only [↓AM.R0,AM.R1,AM.R2,Nat.reduceAdd,Nat.reduceLeDiff,Nat.reduceEqDiff,Int.reduceToNat,Nat.reduceLT,↓reduceIte,Int.reduceEq,Int.reduceLT,Int.reduceLE]
    subst hQ
    simp only [Bool.or_eq_false_iff,decide_eq_false_iff_not] at hd
    exact ⟨f2,by rw [jumpF,if_pos ho,if_neg hc', toF,if_neg (by omega)]⟩
 ·simp only [decide_eq_false_iff_not] at ho
  simp -implicitDefEqProofs (disch := first|decide|assumption|omega|(simp -implicitDefEqProofs only [AM.RN];first|done|omega)|fail) only [AM.RGB,↓AM.R0,AM.R1,AM.R2,Nat.reduceAdd,Nat.reduceLeDiff,Nat.reduceEqDiff,Int.reduceToNat,Nat.reduceLT,↓reduceIte,Int.reduceEq,Int.reduceLT,Int.reduceLE,l6,gB,gC]
  refine AM.cI_bool (fun hd => ?_) (fun hd => ?_)
  ·simp -implicitDefEqProofs (disch := first|decide|assumption|omega|(simp -implicitDefEqProofs only [AM.RN];first|done|omega)|fail) only [↓AM.R0,AM.R1,AM.R2,Nat.reduceAdd,Nat.reduceLeDiff,Nat.reduceEqDiff,Int.reduceToNat,Nat.reduceLT,↓reduceIte,Int.reduceEq,Int.reduceLT,Int.reduceLE]
   subst hQ
   simp only [Bool.or_eq_true,decide_eq_true_eq] at hd
   exact ⟨f0,by rw [jumpF,if_neg ho,toF,if_pos (by omega)]⟩
  ·simp -implicitDefEqProofs (disch := first|decide|assumption|omega|(simp -implicitDefEqProofs only [AM.RN];first|done|omega)|fail) only [↓AM.R0,AM.R1,AM.R2,Nat.reduceAdd,Nat.reduceLeDiff,Nat.reduceEqDiff,Int.reduceToNat,Nat.reduceLT,↓reduceIte,Int.reduceEq,Int.reduceLT,Int.reduceLE]
   subst hQ
   simp only [Bool.or_eq_false_iff,decide_eq_false_iff_not] at hd
   exact ⟨f0,by rw [jumpF,if_neg ho,toF,if_neg (by omega)]⟩
/-- An object's type,or the fault. -/
def objF (p : PProg) (sl : List Int) (n : Int) (arr : Bool) : Int × (Bool × List Int) :=
 match slotK sl n with
 | none => (11, (false, []))
 | some k => if k < 16 ∨ 64 ≤ k then (10, (false, [])) else
  match p.types[(k - 16).toNat]? with
  | none => (0, (false, []))
  | some t => if t.1 ≠ arr then (14, (false, [])) else (0,t)
/-- The slots of a function are kinds. -/
def Hs (p : PProg) (sl : List Int) : Prop := ∀ k,k ∈ sl → k = 2 ∨ kindF p.types.length k = true
theorem Hs.at {p : PProg} {sl : List Int} (H : Hs p sl) {n k : Int} (h : slotK sl n = some k) : k = 2 ∨ kindF p.types.length k = true := by
 unfold slotK at h
 split at h
 ·exact H k (List.mem_of_getElem? h)
 ·cases h
theorem kind_ptr {nt : Nat} {k : Int} (h : kindF nt k = true) (h1 : 16 ≤ k) (h2 : k < 64) : k - 16 < nt := by
 unfold kindF kind1 at h
 rw [decide_eq_false (by omega : ¬ (64 ≤ k ∧ k < 128))] at h
 simp only [Bool.false_and,Bool.or_false,decide_eq_true_eq] at h
 omega
set_option maxHeartbeats 1000000 in
theorem object {h : AHeap} {c : Nat} {p : PProg} {f : PFunc} {i : PIns} (C : CkR h c p f i) (H : Hs p f.slots) (n : Int) (arr : Bool) :
  CallP AP 82 [.ptr c 0 0, .int .i64 n, .bool arr] h fun r h' => HFrame h h' [] [] ∧ ∃ row,r = .tup [.agg row, .int .i64 (objF p f.slots n arr).1] ∧ TypeR h' (objF p f.slots n arr).2 row := by
 have C0 := C
 obtain ⟨tv,gv,fv,sv,rv,cv,at_,lv,g,lt,s1,s2,s3,s4,s5,s6,hi,s7⟩ := C
 have l1 := s1.len
 refine callP (rfl : Tr.get AP 82 = some A82) ?_
 generalize hQ : (fun (r : AVal) (h' : AHeap) => _) = Q
 have f0 := (HFrame.refl (h := h) (F := []) (by simp)).pushTmp (.cells 0 false [.bool false, .nils])
 have gB : (h.push (.cells 0 false [.bool false, .nils])).get h.n = _ := AHeap.get_push_same _ _
 have gC := (f0.get c lt (by simp)).trans g
 have hn0 : h.n < (h.push (.cells 0 false [.bool false, .nils])).n := by simp
 have hnn : (h.push (.cells 0 false [.bool false, .nils])).n = h.n + 1 := by simp
 simp -implicitDefEqProofs (disch := first|decide|assumption|omega|(simp -implicitDefEqProofs only [AM.RN];first|done|omega)|fail) only [AM.RGB,↓AM.R0,AM.R1,AM.R2,Nat.reduceAdd,Nat.reduceLeDiff,Nat.reduceEqDiff,Int.reduceToNat,Nat.reduceLT,↓reduceIte,Int.reduceEq,Int.reduceLT,Int.reduceLE]
 generalize h.push (.cells 0 false [.bool false, .nils]) = h1 at *
 refine AM.callI_of (slot (C0.keep f0) n) ?_
 rintro r h2 ⟨rfl,rfl⟩
 simp -implicitDefEqProofs (disch := first|decide|assumption|omega|(simp -implicitDefEqProofs only [AM.RN];first|done|omega)|fail) only [↓AM.R0,AM.R1,AM.R2,Nat.reduceAdd,Nat.reduceLeDiff,Nat.reduceEqDiff,Int.reduceToNat,Nat.reduceLT,↓reduceIte,Int.reduceEq,Int.reduceLT,Int.reduceLE]
 have nilT : ∀ {h : AHeap}, TypeR h (false, []) [.bool false, .nils] := ⟨.nils,rfl, .inl (.inl ⟨rfl,rfl⟩)⟩
 refine AM.cI_bool (fun hb => ?_) (fun hb => ?_)
 ·simp -implicitDefEqProofs (disch := first|decide|assumption|omega|(simp -implicitDefEqProofs only [AM.RN];first|done|omega)|fail) only [AM.RGB,↓AM.R0,AM.R1,AM.R2,Nat.reduceAdd,Nat.reduceLeDiff,Nat.reduceEqDiff,Int.reduceToNat,Nat.reduceLT,↓reduceIte,Int.reduceEq,Int.reduceLT,Int.reduceLE,gB,res_ct,retT_some]
  have hk : slotK f.slots n = none := by simpa using hb
  subst hQ
  refine ⟨f0.setTmp (Nat.le_refl _) _, [.bool false, .nils], ?_, ?_⟩
  rotate_left
  ·rw [objF,hk]; exact nilT
  ·rw [objF,hk]
 obtain ⟨k,hk⟩ : ∃ k,slotK f.slots n = some k := by
  cases hq : slotK f.slots n with
  | some k => exact ⟨k,rfl⟩
  | none => rw [hq] at hb; simp at hb
 rw [hk,Option.getD_some]
 simp -implicitDefEqProofs (disch := first|decide|assumption|omega|(simp -implicitDefEqProofs only [AM.RN];first|done|omega)|fail) only [AM.RGB,↓AM.R0,AM.R1,AM.R2,Nat.reduceAdd,Nat.reduceLeDiff,Nat.reduceEqDiff,Int.reduceToNat,Nat.reduceLT,↓reduceIte,Int.reduceEq,Int.reduceLT,Int.reduceLE]
 refine AM.cI_bool (fun hc => ?_) (fun hc => ?_)
 ·simp -implicitDefEqProofs (disch := first|decide|assumption|omega|(simp -implicitDefEqProofs only [AM.RN];first|done|omega)|fail) only [AM.RGB,↓AM.R0,AM.R1,AM.R2,Nat.reduceAdd,Nat.reduceLeDiff,Nat.reduceEqDiff,Int.reduceToNat,Nat.reduceLT,↓reduceIte,Int.reduceEq,Int.reduceLT,Int.reduceLE,gB,res_ct,retT_some]
  simp only [Bool.or_eq_true,decide_eq_true_eq] at hc
  subst hQ
  refine ⟨f0.setTmp (Nat.le_refl _) _, [.bool false, .nils], ?_, ?_⟩
  rotate_left
  ·rw [objF,hk]; simp only; rw [if_pos hc]; exact nilT
  ·rw [objF,hk]; simp only; rw [if_pos hc]
 ·simp only [Bool.or_eq_false_iff,decide_eq_false_iff_not] at hc
  have hkt := kind_ptr ((H.at hk).resolve_left (by omega)) (by omega) (by omega)
  obtain ⟨t,ht⟩ : ∃ t,p.types[(k - 16).toNat]? = some t := ⟨_,List.getElem?_eq_getElem (by omega)⟩
  have hw : IntKind.i64.wrap (k - 16) = k - 16 := wrap64 (by omega) (by omega)
  have n1 := f0.n
  have k1 : ∀ j,j < h.n → h2.get j = h.get j := fun j hj => f0.get j hj (by simp)
  obtain ⟨j,g2,off,vs,ro,row,x1,x2,x3,x4,x5,x6,fl,rfl,xl⟩ := (s1.mono (h' := h2) (R' := TypeR h) (fun _ _ q => q) n1 k1).ix ht .i64
  rw [show (((k - 16).toNat : Nat) : Int) = k - 16 by omega] at x1
  have cfl := SlIn.cellv xl
  obtain ⟨p1,p2⟩ := two_of x5
  simp -implicitDefEqProofs (disch := first|decide|assumption|omega|(simp -implicitDefEqProofs only [AM.RN];first|done|omega)|fail) only [AM.RGB,↓AM.R0,AM.R1,AM.R2,Nat.reduceAdd,Nat.reduceLeDiff,Nat.reduceEqDiff,Int.reduceToNat,Nat.reduceLT,↓reduceIte,Int.reduceEq,Int.reduceLT,Int.reduceLE,gC,hw,x1,x2,x5,cfl]
  refine AM.cI_bool (fun hd => ?_) (fun hd => ?_)
  ·simp -implicitDefEqProofs (disch := first|decide|assumption|omega|(simp -implicitDefEqProofs only [AM.RN];first|done|omega)|fail) only [AM.RGB,↓AM.R0,AM.R1,AM.R2,Nat.reduceAdd,Nat.reduceLeDiff,Nat.reduceEqDiff,Int.reduceToNat,Nat.reduceLT,↓reduceIte,Int.reduceEq,Int.reduceLT,Int.reduceLE,gB,res_ct,retT_some]
   have hd' : t.1 ≠ arr := by simpa using hd
   subst hQ
   refine ⟨((f0.pushTmp _).setTmp f0.n _).setTmp (Nat.le_refl _) _, [.bool false, .nils], ?_, ?_⟩
   rotate_left
   ·rw [objF,hk]; simp only; rw [if_neg (by omega), ht]; simp only; rw [if_pos hd']; exact nilT
   ·rw [objF,hk]; simp only; rw [if_neg (by omega), ht]; simp only; rw [if_pos hd']
  ·simp -implicitDefEqProofs (disch := first|decide|assumption|omega|(simp -implicitDefEqProofs only [AM.RN];first|done|omega)|fail) only [AM.RGB,↓AM.R0,AM.R1,AM.R2,Nat.reduceAdd,Nat.reduceLeDiff,Nat.reduceEqDiff,Int.reduceToNat,Nat.reduceLT,↓reduceIte,Int.reduceEq,Int.reduceLT,Int.reduceLE,gB,res_ct,retT_some,cfl]
   have hd' : ¬ t.1 ≠ arr := by simpa using hd
   subst hQ
   have fe := ((f0.pushTmp (.cells 0 false [.bool false, .nils])).setTmp (i := h2.n) f0.n (.cells 0 false [.bool t.1,fl])).setTmp (i := h.n) (Nat.le_refl _) (.cells 0 false [.bool t.1,fl])
   refine ⟨fe, [.bool t.1,fl], ?_, ?_⟩
   rotate_left
   ·rw [objF,hk]; simp only; rw [if_neg (by omega), ht]; simp only; rw [if_neg hd']
    exact ⟨fl,rfl,xl.keep fe⟩
   ·rw [objF,hk]; simp only; rw [if_neg (by omega), ht]; simp only; rw [if_neg hd']
end Go.Proofs.Ytofcnjglnnoimaa.Vf
namespace Go.Proofs.Ytofcnjglnnoimaa.Vf
open Go Go.AM Go.Proofs.Ytofcnjglnnoimaa.AmGY
attribute [local irreducible] AM.wp AM.wpIs AM.wpTr AM.opI AM.gI AM.cI AM.trI AM.callI AM.fnI AM.trG AM.trOp AM.trCall AM.seqC AM.loopI
set_option maxRecDepth 100000
set_option linter.unusedVariables false
set_option linter.unusedSimpArgs false
def newF (p : PProg) (sl : List Int) (i : PIns) : Int :=
 if i.b < 0 ∨ p.types.length ≤ i.b ∨ (p.types[i.b.toNat]?.map (·.1)) ≠ some (decide (i.op = 27)) then 14 else if i.op = 27 then areF sl [(i.a,16 + i.b), (i.c,0)] else areF sl [(i.a,16 + i.b)]
def lenF (p : PProg) (sl : List Int) (i : PIns) : Int := if (objF p sl i.b true).1 ≠ 0 then (objF p sl i.b true).1 else areF sl [(i.a,0)]
def globF (p : PProg) (sl : List Int) (slot glob : Int) : Int := if glob < 0 ∨ p.globals.length ≤ glob then 15 else areF sl [(slot, (p.globals[glob.toNat]?).getD 0)]
def wordF (p : PProg) (sl : List Int) (i : PIns) (object slot : Int) (array : Bool) : Int :=
 if (objF p sl object array).1 ≠ 0 then (objF p sl object array).1
 else if array = true then areF sl [(slot, (objF p sl object array).2.2.headD 0), (i.c,0)]
 else if i.c < 0 ∨ (objF p sl object array).2.2.length ≤ i.c then 14 else areF sl [(slot, (((objF p sl object array).2.2)[i.c.toNat]?).getD 0)]
def memF (p : PProg) (sl : List Int) (i : PIns) : Int :=
 if orB i.op [26,27] = true then newF p sl i
 else if orB i.op [28] = true then lenF p sl i
 else if orB i.op [33,34] = true then (if i.op = 34 then globF p sl i.b i.a else globF p sl i.a i.b)
 else if orB i.op [30,32] = true then wordF p sl i i.a i.b (orB i.op [31,32]) else wordF p sl i i.b i.a (orB i.op [31,32])
/-- Types have fields. -/
def Ht (p : PProg) : Prop := ∀ t,t ∈ p.types → t.2 ≠ []
theorem objF_ne {p : PProg} {sl : List Int} (H : Ht p) (Hk : Hs p sl) {n : Int} {arr : Bool} (e : (objF p sl n arr).1 = 0) : (objF p sl n arr).2.2 ≠ [] ∧ (objF p sl n arr).2 ∈ p.types := by
 unfold objF at e ⊢
 cases hk : slotK sl n with
 | none => rw [hk] at e; simp at e
 | some k =>
  rw [hk] at e
  simp only at e ⊢
  by_cases h1 : k < 16 ∨ 64 ≤ k
  ·rw [if_pos h1] at e; simp at e
  ·rw [if_neg h1] at e ⊢
   have hkt := kind_ptr ((Hk.at hk).resolve_left (by omega)) (by omega) (by omega)
   obtain ⟨t,ht⟩ : ∃ t,p.types[(k - 16).toNat]? = some t := ⟨_,List.getElem?_eq_getElem (by omega)⟩
   rw [ht] at e ⊢
   simp only at e ⊢
   by_cases h2 : t.1 ≠ arr
   ·rw [if_pos h2] at e; simp at e
   ·rw [if_neg h2]
    exact ⟨H t (List.mem_of_getElem? ht), List.mem_of_getElem? ht⟩
set_option maxHeartbeats 4000000 in
theorem memory {h : AHeap} {c : Nat} {p : PProg} {f : PFunc} {i : PIns} (C : CkR h c p f i) (H : Hs p f.slots) (T : Ht p) (hT : p.types.length ≤ 32) {row : List AVal} (R : InsR h i row) :
  CallP AP 58 [.ptr c 0 0, .agg row] h fun r h' => HFrame h h' [] [] ∧ r = .int .i64 (memF p f.slots i) := by
 obtain ⟨_,lw,rfl,L⟩ := R
 refine callP (rfl : Tr.get AP 58 = some A58) ?_
 generalize hQ : (fun (r : AVal) (h' : AHeap) => _) = Q
 have cl := SlIn.cellv L
 have f0 := (HFrame.refl (h := h) (F := []) (by simp)).pushTmp (.cells 0 false [.int .i64 i.op, .int .i64 i.a, .int .i64 i.b, .int .i64 i.c, .int .u64 i.imm,lw])
 have C0 := C
 obtain ⟨tv,gv,fv,sv,rv,cv,at_,lv,g,lt,s1,s2,s3,s4,s5,s6,hi,s7⟩ := C
 have l1 := s1.len
 have l2 := s2.len
 simp -implicitDefEqProofs (disch := first|decide|assumption|omega|(simp -implicitDefEqProofs only [AM.RN];first|done|omega)|fail) only [AM.RGB,↓AM.R0,AM.R1,AM.R2,Nat.reduceAdd,Nat.reduceLeDiff,Nat.reduceEqDiff,Int.reduceToNat,Nat.reduceLT,↓reduceIte,Int.reduceEq,Int.reduceLT,Int.reduceLE,cl]
 have gB : (h.push (.cells 0 false [.int .i64 i.op, .int .i64 i.a, .int .i64 i.b, .int .i64 i.c, .int .u64 i.imm,lw])).get h.n = _ := AHeap.get_push_same _ _
 have gC := (f0.get c lt (by simp)).trans g
 have hn0 : h.n < (h.push (.cells 0 false [.int .i64 i.op, .int .i64 i.a, .int .i64 i.b, .int .i64 i.c, .int .u64 i.imm,lw])).n := by simp
 generalize h.push (.cells 0 false [.int .i64 i.op, .int .i64 i.a, .int .i64 i.b, .int .i64 i.c, .int .u64 i.imm,lw]) = h1 at *
 have C1 := C0.keep f0
 have n1 := f0.n
 have k1 : ∀ j,j < h.n → h1.get j = h.get j := fun j hj => f0.get j hj (by simp)
 refine cI_or (t := 16) (s := 15) (x := i.op) (by decide) [(18,27)] (by simp -implicitDefEqProofs (disch := first|decide|assumption|omega|(simp -implicitDefEqProofs only [AM.RN];first|done|omega)|fail) only [↓AM.R0,AM.R1,AM.R2,Nat.reduceAdd,Nat.reduceLeDiff,Nat.reduceEqDiff,Int.reduceToNat,Nat.reduceLT,↓reduceIte,Int.reduceEq,Int.reduceLT,Int.reduceLE]) (by simp -implicitDefEqProofs (disch := first|decide|assumption|omega|(simp -implicitDefEqProofs only [AM.RN];first|done|omega)|fail) only [↓AM.R0,AM.R1,AM.R2,Nat.reduceAdd,Nat.reduceLeDiff,Nat.reduceEqDiff,Int.reduceToNat,Nat.reduceLT,↓reduceIte,Int.reduceEq,Int.reduceLT,Int.reduceLE]) (by decide) ?_
 intro e' ht hk
 have e0' : Env.val e' 0 = .ptr c 0 0 := (hk 0 (by decide) (by decide)).trans (by simp -implicitDefEqProofs (disch := first|decide|assumption|omega|(simp -implicitDefEqProofs only [AM.RN];first|done|omega)|fail) only [↓AM.R0,AM.R1,AM.R2,Nat.reduceAdd,Nat.reduceLeDiff,Nat.reduceEqDiff,Int.reduceToNat,Nat.reduceLT,↓reduceIte,Int.reduceEq,Int.reduceLT,Int.reduceLE])
 have e3' : Env.val e' 3 = .ptr h.n 0 0 := (hk 3 (by decide) (by decide)).trans (by simp -implicitDefEqProofs (disch := first|decide|assumption|omega|(simp -implicitDefEqProofs only [AM.RN];first|done|omega)|fail) only [↓AM.R0,AM.R1,AM.R2,Nat.reduceAdd,Nat.reduceLeDiff,Nat.reduceEqDiff,Int.reduceToNat,Nat.reduceLT,↓reduceIte,Int.reduceEq,Int.reduceLT,Int.reduceLE])
 have e15' : Env.val e' 15 = .int .i64 i.op := (hk 15 (by decide) (by decide)).trans (by simp -implicitDefEqProofs (disch := first|decide|assumption|omega|(simp -implicitDefEqProofs only [AM.RN];first|done|omega)|fail) only [↓AM.R0,AM.R1,AM.R2,Nat.reduceAdd,Nat.reduceLeDiff,Nat.reduceEqDiff,Int.reduceToNat,Nat.reduceLT,↓reduceIte,Int.reduceEq,Int.reduceLT,Int.reduceLE])
 clear hk
 try clear e0
 have e0 := e0'
 clear e0'
 try clear e3
 have e3 := e3'
 clear e3'
 try clear e15
 have e15 := e15'
 clear e15'
 simp -implicitDefEqProofs (disch := first|decide|assumption|omega|(simp -implicitDefEqProofs only [AM.RN];first|done|omega)|fail) only [↓AM.R0,AM.R1,AM.R2,Nat.reduceAdd,Nat.reduceLeDiff,Nat.reduceEqDiff,Int.reduceToNat,Nat.reduceLT,↓reduceIte,Int.reduceEq,Int.reduceLT,Int.reduceLE,ht]
 refine AM.cI_bool (fun hb => ?_) (fun hb => ?_)
 ·have m1 : orB i.op [26,27] = true := hb
  clear hb ht
  have hm : memF p f.slots i = newF p f.slots i := by rw [memF,if_pos m1]
  rw [hm] at hQ
  clear hm
  by_cases hin : 0 ≤ i.b ∧ i.b < p.types.length
  ·have d1 : decide ((p.types.length : Int) ≤ i.b) = false := decide_eq_false (by omega)
   have d2 : decide (i.b < 0) = false := decide_eq_false (by omega)
   obtain ⟨t,ht⟩ : ∃ t,p.types[i.b.toNat]? = some t := ⟨_,List.getElem?_eq_getElem (by omega)⟩
   obtain ⟨j,g2,off,vs,ro,row,x1,x2,x3,x4,x5,x6,fl,rfl,xl⟩ := (s1.mono (h' := h1) (R' := TypeR h) (fun _ _ q => q) n1 k1).ix ht .i64
   rw [show ((i.b.toNat : Nat) : Int) = i.b by omega] at x1
   obtain ⟨p1,p2⟩ := two_of x5
   have hw : IntKind.i64.wrap (16 + i.b) = 16 + i.b := wrap64 (by omega) (by omega)
   have hnew : newF p f.slots i = if t.1 ≠ decide (i.op = 27) then 14 else if i.op = 27 then areF f.slots [(i.a,16 + i.b), (i.c,0)] else areF f.slots [(i.a,16 + i.b)] := by
    rw [newF,ht]
    have e1 : ¬ i.b < 0 := by omega
    have e2 : ¬ (p.types.length : Int) ≤ i.b := by omega
    simp only [e1,e2,false_or,Option.map_some,ne_eq,Option.some.injEq]
   simp -implicitDefEqProofs (disch := first|decide|assumption|omega|(simp -implicitDefEqProofs only [AM.RN];first|done|omega)|fail) only [↓AM.R0,AM.R1,AM.R2,Nat.reduceAdd,Nat.reduceLeDiff,Nat.reduceEqDiff,Int.reduceToNat,Nat.reduceLT,↓reduceIte,Int.reduceEq,Int.reduceLT,Int.reduceLE,e0,e3,gB,gC,l1,d1,d2,x1,x2,p1,p2]
   refine AM.cI_bool (fun hc => ?_) (fun hc => ?_)
   ·simp -implicitDefEqProofs (disch := first|decide|assumption|omega|(simp -implicitDefEqProofs only [AM.RN];first|done|omega)|fail) only [↓AM.R0,AM.R1,AM.R2,Nat.reduceAdd,Nat.reduceLeDiff,Nat.reduceEqDiff,Int.reduceToNat,Nat.reduceLT,↓reduceIte,Int.reduceEq,Int.reduceLT,Int.reduceLE]
    subst hQ
    exact ⟨f0,by rw [hnew,if_pos (by simpa using hc)]⟩
   ·simp -implicitDefEqProofs (disch := first|decide|assumption|omega|(simp -implicitDefEqProofs only [AM.RN];first|done|omega)|fail) only [↓AM.R0,AM.R1,AM.R2,Nat.reduceAdd,Nat.reduceLeDiff,Nat.reduceEqDiff,Int.reduceToNat,Nat.reduceLT,↓reduceIte,Int.reduceEq,Int.reduceLT,Int.reduceLE,e0,e3,gB]
    have hc' : ¬ t.1 ≠ decide (i.op = 27) := by simpa using hc
    refine AM.cI_bool (fun hd => ?_) (fun hd => ?_)
    ·simp only [decide_eq_true_eq] at hd
     simp -implicitDefEqProofs (disch := first|decide|assumption|omega|(simp -implicitDefEqProofs only [AM.RN];first|done|omega)|fail) only [↓AM.R0,AM.R1,AM.R2,Nat.reduceAdd,Nat.reduceLeDiff,Nat.reduceEqDiff,Int.reduceToNat,Nat.reduceLT,↓reduceIte,Int.reduceEq,Int.reduceLT,Int.reduceLE,e0,e3,gB,AM.a_buildSlice,List.range,List.range.loop,List.getD_cons_zero,Nat.mod_one,hw]
     refine AM.callI_of (are2 C1 i.a (16 + i.b) i.c 0) ?_
     rintro r h2 ⟨f12,rfl⟩
     simp -implicitDefEqProofs (disch := first|decide|assumption|omega|(simp -implicitDefEqProofs only [AM.RN];first|done|omega)|fail) only [↓AM.R0,AM.R1,AM.R2,Nat.reduceAdd,Nat.reduceLeDiff,Nat.reduceEqDiff,Int.reduceToNat,Nat.reduceLT,↓reduceIte,Int.reduceEq,Int.reduceLT,Int.reduceLE]
     subst hQ
     exact ⟨f0.trans f12,by rw [hnew,if_neg hc', if_pos hd]⟩
    ·simp only [decide_eq_false_iff_not] at hd
     simp -implicitDefEqProofs (disch := first|decide|assumption|omega|(simp -implicitDefEqProofs only [AM.RN];first|done|omega)|fail) only [↓AM.R0,AM.R1,AM.R2,Nat.reduceAdd,Nat.reduceLeDiff,Nat.reduceEqDiff,Int.reduceToNat,Nat.reduceLT,↓reduceIte,Int.reduceEq,Int.reduceLT,Int.reduceLE,e0,e3,gB,AM.a_buildSlice,List.range,List.range.loop,List.getD_cons_zero,Nat.mod_one,hw]
     refine AM.callI_of (are1 C1 i.a (16 + i.b)) ?_
     rintro r h2 ⟨f12,rfl⟩
     simp -implicitDefEqProofs (disch := first|decide|assumption|omega|(simp -implicitDefEqProofs only [AM.RN];first|done|omega)|fail) only [↓AM.R0,AM.R1,AM.R2,Nat.reduceAdd,Nat.reduceLeDiff,Nat.reduceEqDiff,Int.reduceToNat,Nat.reduceLT,↓reduceIte,Int.reduceEq,Int.reduceLT,Int.reduceLE]
     subst hQ
     exact ⟨f0.trans f12,by rw [hnew,if_neg hc', if_neg hd]⟩
  ·have hnew : newF p f.slots i = 14 := if_pos (by omega)
   rcases Int.lt_or_le i.b 0 with hlt | hle
   ·have d1 : decide ((p.types.length : Int) ≤ i.b) = false := decide_eq_false (by omega)
    have d2 : decide (i.b < 0) = true := decide_eq_true (by omega)
    simp -implicitDefEqProofs (disch := first|decide|assumption|omega|(simp -implicitDefEqProofs only [AM.RN];first|done|omega)|fail) only [↓AM.R0,AM.R1,AM.R2,Nat.reduceAdd,Nat.reduceLeDiff,Nat.reduceEqDiff,Int.reduceToNat,Nat.reduceLT,↓reduceIte,Int.reduceEq,Int.reduceLT,Int.reduceLE,e0,e3,gB,gC,l1,d1,d2]
    subst hQ
    exact ⟨f0,by rw [hnew]⟩
   ·have d1 : decide ((p.types.length : Int) ≤ i.b) = true := decide_eq_true (by omega)
    simp -implicitDefEqProofs (disch := first|decide|assumption|omega|(simp -implicitDefEqProofs only [AM.RN];first|done|omega)|fail) only [↓AM.R0,AM.R1,AM.R2,Nat.reduceAdd,Nat.reduceLeDiff,Nat.reduceEqDiff,Int.reduceToNat,Nat.reduceLT,↓reduceIte,Int.reduceEq,Int.reduceLT,Int.reduceLE,e0,e3,gB,gC,l1,d1]
    subst hQ
    exact ⟨f0,by rw [hnew]⟩
 have m1 : orB i.op [26,27] = false := hb
 clear hb ht
 simp -implicitDefEqProofs (disch := first|decide|assumption|omega|(simp -implicitDefEqProofs only [AM.RN];first|done|omega)|fail) only [↓AM.R0,AM.R1,AM.R2,Nat.reduceAdd,Nat.reduceLeDiff,Nat.reduceEqDiff,Int.reduceToNat,Nat.reduceLT,↓reduceIte,Int.reduceEq,Int.reduceLT,Int.reduceLE,e15]
 refine AM.cI_bool (fun hb => ?_) (fun hb => ?_)
 ·have m2 : orB i.op [28] = true := (Bool.or_false _).trans hb
  clear hb
  have hm : memF p f.slots i = lenF p f.slots i := by rw [memF,if_neg (by simp [m1]), if_pos m2]
  rw [hm] at hQ
  clear hm
  simp -implicitDefEqProofs (disch := first|decide|assumption|omega|(simp -implicitDefEqProofs only [AM.RN];first|done|omega)|fail) only [↓AM.R0,AM.R1,AM.R2,Nat.reduceAdd,Nat.reduceLeDiff,Nat.reduceEqDiff,Int.reduceToNat,Nat.reduceLT,↓reduceIte,Int.reduceEq,Int.reduceLT,Int.reduceLE,e0,e3,gB]
  refine AM.callI_of (object C1 H i.b true) ?_
  rintro r h2 ⟨f12,row,rfl,fl,rfl,xl⟩
  have cf := SlIn.cellv xl
  simp -implicitDefEqProofs (disch := first|decide|assumption|omega|(simp -implicitDefEqProofs only [AM.RN];first|done|omega)|fail) only [↓AM.R0,AM.R1,AM.R2,Nat.reduceAdd,Nat.reduceLeDiff,Nat.reduceEqDiff,Int.reduceToNat,Nat.reduceLT,↓reduceIte,Int.reduceEq,Int.reduceLT,Int.reduceLE,e0,e3,cf]
  have f2 := (f0.trans f12).pushTmp (.cells 0 false [.bool (objF p f.slots i.b true).2.1,fl])
  have fT := ((f0.trans f12).pushTmp (.cells 0 false [.bool false, .nils])).setTmp (i := h2.n) (f0.trans f12).n (.cells 0 false [.bool (objF p f.slots i.b true).2.1,fl])
  refine AM.cI_bool (fun hc => ?_) (fun hc => ?_)
  ·have hc' : (objF p f.slots i.b true).1 ≠ 0 := by simpa using hc
   simp -implicitDefEqProofs (disch := first|decide|assumption|omega|(simp -implicitDefEqProofs only [AM.RN];first|done|omega)|fail) only [↓AM.R0,AM.R1,AM.R2,Nat.reduceAdd,Nat.reduceLeDiff,Nat.reduceEqDiff,Int.reduceToNat,Nat.reduceLT,↓reduceIte,Int.reduceEq,Int.reduceLT,Int.reduceLE]
   subst hQ
   exact ⟨fT,by rw [lenF,if_pos hc']⟩
  ·have hc' : ¬ (objF p f.slots i.b true).1 ≠ 0 := by simpa using hc
   have gB2 := (f12.get h.n hn0 (by simp)).trans gB
   have hn2 : h.n < h2.n := by have := f12.n; omega
   simp -implicitDefEqProofs (disch := first|decide|assumption|omega|(simp -implicitDefEqProofs only [AM.RN];first|done|omega)|fail) only [↓AM.R0,AM.R1,AM.R2,Nat.reduceAdd,Nat.reduceLeDiff,Nat.reduceEqDiff,Int.reduceToNat,Nat.reduceLT,↓reduceIte,Int.reduceEq,Int.reduceLT,Int.reduceLE,e0,e3,gB2,AM.a_buildSlice,List.range,List.range.loop,List.getD_cons_zero,Nat.mod_one]
   refine AM.callI_of (are1 (C0.keep fT) i.a 0) ?_
   rintro r h3 ⟨f23,rfl⟩
   simp -implicitDefEqProofs (disch := first|decide|assumption|omega|(simp -implicitDefEqProofs only [AM.RN];first|done|omega)|fail) only [↓AM.R0,AM.R1,AM.R2,Nat.reduceAdd,Nat.reduceLeDiff,Nat.reduceEqDiff,Int.reduceToNat,Nat.reduceLT,↓reduceIte,Int.reduceEq,Int.reduceLT,Int.reduceLE]
   subst hQ
   exact ⟨fT.trans f23,by rw [lenF,if_neg hc']⟩
 have m2 : orB i.op [28] = false := (Bool.or_false _).trans hb
 clear hb
 simp -implicitDefEqProofs (disch := first|decide|assumption|omega|(simp -implicitDefEqProofs only [AM.RN];first|done|omega)|fail) only [↓AM.R0,AM.R1,AM.R2,Nat.reduceAdd,Nat.reduceLeDiff,Nat.reduceEqDiff,Int.reduceToNat,Nat.reduceLT,↓reduceIte,Int.reduceEq,Int.reduceLT,Int.reduceLE,e15]
 refine cI_or (t := 87) (s := 15) (x := i.op) (by decide) [(89,34)] (by simp -implicitDefEqProofs (disch := first|decide|assumption|omega|(simp -implicitDefEqProofs only [AM.RN];first|done|omega)|fail) only [↓AM.R0,AM.R1,AM.R2,Nat.reduceAdd,Nat.reduceLeDiff,Nat.reduceEqDiff,Int.reduceToNat,Nat.reduceLT,↓reduceIte,Int.reduceEq,Int.reduceLT,Int.reduceLE,e0,e3,e15]) (by simp -implicitDefEqProofs (disch := first|decide|assumption|omega|(simp -implicitDefEqProofs only [AM.RN];first|done|omega)|fail) only [↓AM.R0,AM.R1,AM.R2,Nat.reduceAdd,Nat.reduceLeDiff,Nat.reduceEqDiff,Int.reduceToNat,Nat.reduceLT,↓reduceIte,Int.reduceEq,Int.reduceLT,Int.reduceLE,e0,e3,e15]) (by decide) ?_
 intro e' ht hk
 have e0' : Env.val e' 0 = .ptr c 0 0 := (hk 0 (by decide) (by decide)).trans (by simp -implicitDefEqProofs (disch := first|decide|assumption|omega|(simp -implicitDefEqProofs only [AM.RN];first|done|omega)|fail) only [↓AM.R0,AM.R1,AM.R2,Nat.reduceAdd,Nat.reduceLeDiff,Nat.reduceEqDiff,Int.reduceToNat,Nat.reduceLT,↓reduceIte,Int.reduceEq,Int.reduceLT,Int.reduceLE,e0,e3,e15])
 have e3' : Env.val e' 3 = .ptr h.n 0 0 := (hk 3 (by decide) (by decide)).trans (by simp -implicitDefEqProofs (disch := first|decide|assumption|omega|(simp -implicitDefEqProofs only [AM.RN];first|done|omega)|fail) only [↓AM.R0,AM.R1,AM.R2,Nat.reduceAdd,Nat.reduceLeDiff,Nat.reduceEqDiff,Int.reduceToNat,Nat.reduceLT,↓reduceIte,Int.reduceEq,Int.reduceLT,Int.reduceLE,e0,e3,e15])
 have e15' : Env.val e' 15 = .int .i64 i.op := (hk 15 (by decide) (by decide)).trans (by simp -implicitDefEqProofs (disch := first|decide|assumption|omega|(simp -implicitDefEqProofs only [AM.RN];first|done|omega)|fail) only [↓AM.R0,AM.R1,AM.R2,Nat.reduceAdd,Nat.reduceLeDiff,Nat.reduceEqDiff,Int.reduceToNat,Nat.reduceLT,↓reduceIte,Int.reduceEq,Int.reduceLT,Int.reduceLE,e0,e3,e15])
 clear hk
 try clear e0
 have e0 := e0'
 clear e0'
 try clear e3
 have e3 := e3'
 clear e3'
 try clear e15
 have e15 := e15'
 clear e15'
 simp -implicitDefEqProofs (disch := first|decide|assumption|omega|(simp -implicitDefEqProofs only [AM.RN];first|done|omega)|fail) only [↓AM.R0,AM.R1,AM.R2,Nat.reduceAdd,Nat.reduceLeDiff,Nat.reduceEqDiff,Int.reduceToNat,Nat.reduceLT,↓reduceIte,Int.reduceEq,Int.reduceLT,Int.reduceLE,ht]
 refine AM.cI_bool (fun hb => ?_) (fun hb => ?_)
 ·have m3 : orB i.op [33,34] = true := hb
  clear hb ht
  simp -implicitDefEqProofs (disch := first|decide|assumption|omega|(simp -implicitDefEqProofs only [AM.RN];first|done|omega)|fail) only [↓AM.R0,AM.R1,AM.R2,Nat.reduceAdd,Nat.reduceLeDiff,Nat.reduceEqDiff,Int.reduceToNat,Nat.reduceLT,↓reduceIte,Int.reduceEq,Int.reduceLT,Int.reduceLE,e0,e3,gB]
  have hm : memF p f.slots i = globF p f.slots (if i.op = 34 then i.b else i.a) (if i.op = 34 then i.a else i.b) := by
   rw [memF,if_neg (by simp [m1]), if_neg (by simp [m2]), if_pos m3]; split <;> rfl
  rw [hm] at hQ
  clear hm
  refine AM.cI_cut (fun e' h' => h' = h1 ∧ e'.val 0 = .ptr c 0 0 ∧ e'.val 3 = .ptr h.n 0 0 ∧ e'.val 7 = .int .i64 (if i.op = 34 then i.b else i.a) ∧ e'.val 8 = .int .i64 (if i.op = 34 then i.a else i.b)) ?_ ?_
  ·generalize (if i.op = 34 then i.b else i.a) = s at *
   generalize (if i.op = 34 then i.a else i.b) = g0 at *
   clear e0 e3 e15
   rintro e h' ⟨hh,e0,e3,e7,e8⟩
   subst hh
   by_cases hin : 0 ≤ g0 ∧ g0 < p.globals.length
   ·have d1 : decide ((p.globals.length : Int) ≤ g0) = false := decide_eq_false (by omega)
    have d2 : decide (g0 < 0) = false := decide_eq_false (by omega)
    obtain ⟨k,hk⟩ : ∃ k,p.globals[g0.toNat]? = some k := ⟨_,List.getElem?_eq_getElem (by omega)⟩
    obtain ⟨j,g2,off,vs,ro,x1,x2,x3,x5⟩ := SlIn.ixI (s2.mono n1 k1) hin.1 hk
    simp -implicitDefEqProofs (disch := first|decide|assumption|omega|(simp -implicitDefEqProofs only [AM.RN];first|done|omega)|fail) only [↓AM.R0,AM.R1,AM.R2,Nat.reduceAdd,Nat.reduceLeDiff,Nat.reduceEqDiff,Int.reduceToNat,Nat.reduceLT,↓reduceIte,Int.reduceEq,Int.reduceLT,Int.reduceLE,e0,e3,e7,e8,gB,gC,l2,d1,d2,x1,x2,x5,AM.a_buildSlice,List.range,List.range.loop,List.getD_cons_zero,Nat.mod_one]
    refine AM.callI_of (are1 C1 s k) ?_
    rintro r h3 ⟨f23,rfl⟩
    simp -implicitDefEqProofs (disch := first|decide|assumption|omega|(simp -implicitDefEqProofs only [AM.RN];first|done|omega)|fail) only [↓AM.R0,AM.R1,AM.R2,Nat.reduceAdd,Nat.reduceLeDiff,Nat.reduceEqDiff,Int.reduceToNat,Nat.reduceLT,↓reduceIte,Int.reduceEq,Int.reduceLT,Int.reduceLE]
    subst hQ
    exact ⟨f0.trans f23,by rw [globF,if_neg (by omega), hk]; rfl⟩
   ·have hg : globF p f.slots s g0 = 15 := if_pos (by omega)
    rcases Int.lt_or_le g0 0 with hlt | hle
    ·have d2 : decide (g0 < 0) = true := decide_eq_true (by omega)
     simp -implicitDefEqProofs (disch := first|decide|assumption|omega|(simp -implicitDefEqProofs only [AM.RN];first|done|omega)|fail) only [↓AM.R0,AM.R1,AM.R2,Nat.reduceAdd,Nat.reduceLeDiff,Nat.reduceEqDiff,Int.reduceToNat,Nat.reduceLT,↓reduceIte,Int.reduceEq,Int.reduceLT,Int.reduceLE,e0,e3,e7,e8,gB,gC,l2,d2]
     subst hQ
     exact ⟨f0,by rw [hg]⟩
    ·have d1 : decide ((p.globals.length : Int) ≤ g0) = true := decide_eq_true (by omega)
     have d2 : decide (g0 < 0) = false := decide_eq_false (by omega)
     simp -implicitDefEqProofs (disch := first|decide|assumption|omega|(simp -implicitDefEqProofs only [AM.RN];first|done|omega)|fail) only [↓AM.R0,AM.R1,AM.R2,Nat.reduceAdd,Nat.reduceLeDiff,Nat.reduceEqDiff,Int.reduceToNat,Nat.reduceLT,↓reduceIte,Int.reduceEq,Int.reduceLT,Int.reduceLE,e0,e3,e7,e8,gB,gC,l2,d1,d2]
     subst hQ
     exact ⟨f0,by rw [hg]⟩
  ·refine AM.cI_bool (fun hc => ?_) (fun hc => ?_)
   ·simp only [decide_eq_true_eq] at hc
    simp -implicitDefEqProofs (disch := first|decide|assumption|omega|(simp -implicitDefEqProofs only [AM.RN];first|done|omega)|fail) only [↓AM.R0,AM.R1,AM.R2,Nat.reduceAdd,Nat.reduceLeDiff,Nat.reduceEqDiff,Int.reduceToNat,Nat.reduceLT,↓reduceIte,Int.reduceEq,Int.reduceLT,Int.reduceLE,e0,e3,gB]
    simp only [if_pos hc]
    trivial
   ·simp only [decide_eq_false_iff_not] at hc
    simp -implicitDefEqProofs (disch := first|decide|assumption|omega|(simp -implicitDefEqProofs only [AM.RN];first|done|omega)|fail) only [↓AM.R0,AM.R1,AM.R2,Nat.reduceAdd,Nat.reduceLeDiff,Nat.reduceEqDiff,Int.reduceToNat,Nat.reduceLT,↓reduceIte,Int.reduceEq,Int.reduceLT,Int.reduceLE,e0,e3,gB]
    simp only [if_neg hc]
    trivial
 have m3 : orB i.op [33,34] = false := hb
 clear hb ht
 simp -implicitDefEqProofs (disch := first|decide|assumption|omega|(simp -implicitDefEqProofs only [AM.RN];first|done|omega)|fail) only [AM.RGB,↓AM.R0,AM.R1,AM.R2,Nat.reduceAdd,Nat.reduceLeDiff,Nat.reduceEqDiff,Int.reduceToNat,Nat.reduceLT,↓reduceIte,Int.reduceEq,Int.reduceLT,Int.reduceLE,e0,e3,gB]
 have hm : memF p f.slots i = wordF p f.slots i (if orB i.op [30,32] = true then i.a else i.b) (if orB i.op [30,32] = true then i.b else i.a) (orB i.op [31,32]) := by
  rw [memF,if_neg (by simp [m1]), if_neg (by simp [m2]), if_neg (by simp [m3])]; split <;> rfl
 rw [hm] at hQ
 clear hm
 have harr : (decide (i.op = 31) || decide (i.op = 32)) = orB i.op [31,32] := by simp [orB]
 have hst : (decide (i.op = 30) || decide (i.op = 32)) = orB i.op [30,32] := by simp [orB]
 rw [harr,hst]
 refine AM.cI_cut (fun e' h' => h' = h1 ∧ e'.val 0 = .ptr c 0 0 ∧ e'.val 3 = .ptr h.n 0 0 ∧ e'.val 9 = .int .i64 (if orB i.op [30,32] = true then i.a else i.b) ∧ e'.val 10 = .int .i64 (if orB i.op [30,32] = true then i.b else i.a) ∧ e'.val 11 = .bool (orB i.op [31,32])) ?_ ?_
 ·generalize (if orB i.op [30,32] = true then i.a else i.b) = ob at *
  generalize (if orB i.op [30,32] = true then i.b else i.a) = s at *
  generalize orB i.op [31,32] = arr at *
  clear e0 e3 e15
  rintro e h' ⟨hh,e0,e3,e9,e10,e11⟩
  subst hh
  simp -implicitDefEqProofs (disch := first|decide|assumption|omega|(simp -implicitDefEqProofs only [AM.RN];first|done|omega)|fail) only [↓AM.R0,AM.R1,AM.R2,Nat.reduceAdd,Nat.reduceLeDiff,Nat.reduceEqDiff,Int.reduceToNat,Nat.reduceLT,↓reduceIte,Int.reduceEq,Int.reduceLT,Int.reduceLE,e0,e3,e9,e11]
  refine AM.callI_of (object C1 H ob arr) ?_
  rintro r h2 ⟨f12,row,rfl,fl,rfl,xl⟩
  have cf := SlIn.cellv xl
  simp -implicitDefEqProofs (disch := first|decide|assumption|omega|(simp -implicitDefEqProofs only [AM.RN];first|done|omega)|fail) only [↓AM.R0,AM.R1,AM.R2,Nat.reduceAdd,Nat.reduceLeDiff,Nat.reduceEqDiff,Int.reduceToNat,Nat.reduceLT,↓reduceIte,Int.reduceEq,Int.reduceLT,Int.reduceLE,e0,e3,cf]
  have fT := ((f0.trans f12).pushTmp (.cells 0 false [.bool false, .nils])).setTmp (i := h2.n) (f0.trans f12).n (.cells 0 false [.bool (objF p f.slots ob arr).2.1,fl])
  refine AM.cI_bool (fun hc => ?_) (fun hc => ?_)
  ·have hc' : (objF p f.slots ob arr).1 ≠ 0 := by simpa using hc
   simp -implicitDefEqProofs (disch := first|decide|assumption|omega|(simp -implicitDefEqProofs only [AM.RN];first|done|omega)|fail) only [↓AM.R0,AM.R1,AM.R2,Nat.reduceAdd,Nat.reduceLeDiff,Nat.reduceEqDiff,Int.reduceToNat,Nat.reduceLT,↓reduceIte,Int.reduceEq,Int.reduceLT,Int.reduceLE]
   subst hQ
   exact ⟨fT,by rw [wordF,if_pos hc']⟩
  ·have hc' : ¬ (objF p f.slots ob arr).1 ≠ 0 := by simpa using hc
   have gB2 := (f12.get h.n hn0 (by simp)).trans gB
   have hn2 : h.n < h2.n := by have := f12.n; omega
   obtain ⟨t1,t2⟩ := objF_ne T H (n := ob) (arr := arr) (by simpa using hc)
   have fX := (HFrame.refl (h := h2) (F := []) (by simp)).pushTmp (.cells 0 false [.bool false, .nils])
   have fY := fX.setTmp (i := h2.n) (Nat.le_refl _) (.cells 0 false [.bool (objF p f.slots ob arr).2.1,fl])
   have xl2 := xl.keep fY
   have len := xl.len
   simp -implicitDefEqProofs (disch := first|decide|assumption|omega|(simp -implicitDefEqProofs only [AM.RN];first|done|omega)|fail) only [↓AM.R0,AM.R1,AM.R2,Nat.reduceAdd,Nat.reduceLeDiff,Nat.reduceEqDiff,Int.reduceToNat,Nat.reduceLT,↓reduceIte,Int.reduceEq,Int.reduceLT,Int.reduceLE,e0,e3,e10,e11]
   refine AM.cI_bool (fun ha => ?_) (fun ha => ?_)
   ·subst ha
    obtain ⟨k,ks,hks⟩ := List.exists_cons_of_ne_nil t1
    have hk0 : (objF p f.slots ob true).2.2[0]? = some k := by rw [hks]; rfl
    obtain ⟨j,g2,off,vs,ro,x1,x2,x3,x5⟩ := (xl2.rd hk0).ix1 (enc := fun n => .int .i64 n) hk0 .i64
    rw [show ((0 : Nat) : Int) = 0 from rfl] at x1
    simp -implicitDefEqProofs (disch := first|decide|assumption|omega|(simp -implicitDefEqProofs only [AM.RN];first|done|omega)|fail) only [↓AM.R0,AM.R1,AM.R2,Nat.reduceAdd,Nat.reduceLeDiff,Nat.reduceEqDiff,Int.reduceToNat,Nat.reduceLT,↓reduceIte,Int.reduceEq,Int.reduceLT,Int.reduceLE,e0,e3,e10,e11,gB2,x1,x2,x5,AM.a_buildSlice,List.range,List.range.loop,List.getD_cons_zero,Nat.mod_one]
    refine AM.trCall_of (are2 (C0.keep fT) s k i.c 0) ?_
    rintro r h3 ⟨f23,rfl⟩
    simp -implicitDefEqProofs (disch := first|decide|assumption|omega|(simp -implicitDefEqProofs only [AM.RN];first|done|omega)|fail) only [↓AM.R0,AM.R1,AM.R2,Nat.reduceAdd,Nat.reduceLeDiff,Nat.reduceEqDiff,Int.reduceToNat,Nat.reduceLT,↓reduceIte,Int.reduceEq,Int.reduceLT,Int.reduceLE]
    subst hQ
    exact ⟨fT.trans f23,by rw [wordF,if_neg hc', if_pos rfl,hks]; rfl⟩
   ·subst ha
    simp -implicitDefEqProofs (disch := first|decide|assumption|omega|(simp -implicitDefEqProofs only [AM.RN];first|done|omega)|fail) only [AM.RGB,↓AM.R0,AM.R1,AM.R2,Nat.reduceAdd,Nat.reduceLeDiff,Nat.reduceEqDiff,Int.reduceToNat,Nat.reduceLT,↓reduceIte,Int.reduceEq,Int.reduceLT,Int.reduceLE,e0,e3,e10,e11,gB2,len]
    refine AM.cI_bool (fun hd => ?_) (fun hd => ?_)
    ·simp only [Bool.or_eq_true,decide_eq_true_eq] at hd
     simp -implicitDefEqProofs (disch := first|decide|assumption|omega|(simp -implicitDefEqProofs only [AM.RN];first|done|omega)|fail) only [↓AM.R0,AM.R1,AM.R2,Nat.reduceAdd,Nat.reduceLeDiff,Nat.reduceEqDiff,Int.reduceToNat,Nat.reduceLT,↓reduceIte,Int.reduceEq,Int.reduceLT,Int.reduceLE]
     subst hQ
     exact ⟨fT,by rw [wordF,if_neg hc', if_neg (by simp), if_pos hd]⟩
    ·simp only [Bool.or_eq_false_iff,decide_eq_false_iff_not] at hd
     obtain ⟨k,hk⟩ : ∃ k, (objF p f.slots ob false).2.2[i.c.toNat]? = some k := ⟨_,List.getElem?_eq_getElem (by omega)⟩
     obtain ⟨j,g2,off,vs,ro,x1,x2,x3,x5⟩ := SlIn.ixI xl2 (by omega) hk
     simp -implicitDefEqProofs (disch := first|decide|assumption|omega|(simp -implicitDefEqProofs only [AM.RN];first|done|omega)|fail) only [↓AM.R0,AM.R1,AM.R2,Nat.reduceAdd,Nat.reduceLeDiff,Nat.reduceEqDiff,Int.reduceToNat,Nat.reduceLT,↓reduceIte,Int.reduceEq,Int.reduceLT,Int.reduceLE,e0,e3,e10,e11,gB2,x1,x2,x5,AM.a_buildSlice,List.range,List.range.loop,List.getD_cons_zero,Nat.mod_one]
     refine AM.callI_of (are1 (C0.keep fT) s k) ?_
     rintro r h3 ⟨f23,rfl⟩
     simp -implicitDefEqProofs (disch := first|decide|assumption|omega|(simp -implicitDefEqProofs only [AM.RN];first|done|omega)|fail) only [↓AM.R0,AM.R1,AM.R2,Nat.reduceAdd,Nat.reduceLeDiff,Nat.reduceEqDiff,Int.reduceToNat,Nat.reduceLT,↓reduceIte,Int.reduceEq,Int.reduceLT,Int.reduceLE]
     subst hQ
     exact ⟨fT.trans f23,by rw [wordF,if_neg hc', if_neg (by simp), if_neg (by omega), hk]; rfl⟩
 ·refine AM.cI_bool (fun hc => ?_) (fun hc => ?_)
  ·simp -implicitDefEqProofs (disch := first|decide|assumption|omega|(simp -implicitDefEqProofs only [AM.RN];first|done|omega)|fail) only [↓AM.R0,AM.R1,AM.R2,Nat.reduceAdd,Nat.reduceLeDiff,Nat.reduceEqDiff,Int.reduceToNat,Nat.reduceLT,↓reduceIte,Int.reduceEq,Int.reduceLT,Int.reduceLE,e0,e3,gB]
   simp only [if_pos hc]
   trivial
  ·simp -implicitDefEqProofs (disch := first|decide|assumption|omega|(simp -implicitDefEqProofs only [AM.RN];first|done|omega)|fail) only [↓AM.R0,AM.R1,AM.R2,Nat.reduceAdd,Nat.reduceLeDiff,Nat.reduceEqDiff,Int.reduceToNat,Nat.reduceLT,↓reduceIte,Int.reduceEq,Int.reduceLT,Int.reduceLE,e0,e3,gB]
   simp only [hc,Bool.false_eq_true,if_false]
   trivial
end Go.Proofs.Ytofcnjglnnoimaa.Vf
namespace Go.Proofs.Ytofcnjglnnoimaa.Vf
open Go Go.AM Go.Proofs.Ytofcnjglnnoimaa.AmGY
attribute [local irreducible] AM.wp AM.wpIs AM.wpTr AM.opI AM.gI AM.cI AM.trI AM.callI AM.fnI AM.trG AM.trOp AM.trCall AM.seqC AM.loopI
set_option maxRecDepth 100000
set_option linter.unusedVariables false
set_option linter.unusedSimpArgs false
theorem HFrame.non {h h' : AHeap} {A B : List Nat} (f : HFrame h h' A B) : HFrame h h' A [] := ⟨f.n,f.g,f.get,fun j hj => (nomatch hj), fun j hj => (nomatch hj)⟩
def listF (sl slots kinds : List Int) : Int := if slots.length ≠ kinds.length then 16 else areF sl (slots.zip kinds)
theorem flat_take {l : List (Int × Int)} {i : Nat} {x : Int × Int} (h : l[i]? = some x) : flat (l.take (i + 1)) = flat (l.take i) ++ [x.1,x.2] := by
 rw [take_succ_of h,flat,List.flatMap_append]; rfl
set_option maxHeartbeats 2000000 in
theorem list {h : AHeap} {c : Nat} {p : PProg} {f : PFunc} {i : PIns} (C : CkR h c p f i) {v w : AVal} {slots kinds : List Int} (L : SlIn h 1 encK v slots) (K : SlIn h 1 encK w kinds) (hl : slots.length < 1000) :
  CallP AP 83 [.ptr c 0 0,v,w] h fun r h' => HFrame h h' [] [] ∧ r = .int .i64 (listF f.slots slots kinds) := by
 refine callP (rfl : Tr.get AP 83 = some A83) ?_
 generalize hQ : (fun (r : AVal) (h' : AHeap) => _) = Q
 have l1 := L.len
 have l2 := K.len
 simp -implicitDefEqProofs (disch := first|decide|assumption|omega|(simp -implicitDefEqProofs only [AM.RN];first|done|omega)|fail) only [↓AM.R0,AM.R1,AM.R2,Nat.reduceAdd,Nat.reduceLeDiff,Nat.reduceEqDiff,Int.reduceToNat,Nat.reduceLT,↓reduceIte,Int.reduceEq,Int.reduceLT,Int.reduceLE,l1,l2]
 refine AM.cI_bool (fun hb => ?_) (fun hb => ?_)
 ·have hb' : slots.length ≠ kinds.length := by simp at hb; omega
  simp -implicitDefEqProofs (disch := first|decide|assumption|omega|(simp -implicitDefEqProofs only [AM.RN];first|done|omega)|fail) only [↓AM.R0,AM.R1,AM.R2,Nat.reduceAdd,Nat.reduceLeDiff,Nat.reduceEqDiff,Int.reduceToNat,Nat.reduceLT,↓reduceIte,Int.reduceEq,Int.reduceLT,Int.reduceLE]
  subst hQ
  exact ⟨HFrame.refl (by simp), by rw [listF,if_pos hb']⟩
 ·have hb' : slots.length = kinds.length := by simp at hb; omega
  simp -implicitDefEqProofs (disch := first|decide|assumption|omega|(simp -implicitDefEqProofs only [AM.RN];first|done|omega)|fail) only [↓AM.R0,AM.R1,AM.R2,Nat.reduceAdd,Nat.reduceLeDiff,Nat.reduceEqDiff,Int.reduceToNat,Nat.reduceLT,↓reduceIte,Int.reduceEq,Int.reduceLT,Int.reduceLE,l1]
  refine AM.loopI_of (fun k e h' => ∃ (x : Nat) (u : AVal) (F : List Nat), k + x = slots.length ∧ e.val 0 = .ptr c 0 0 ∧ e.val 2 = w ∧ e.val 7 = u ∧ e.val 15 = v ∧ e.val 16 = .int .i64 slots.length ∧ e.val 17 = .int .i64 x ∧ HFrame h h' [] F ∧ SlOf h' 1 encK u (flat ((slots.zip kinds).take x)) F) slots.length ?_ ?_
  ·refine ⟨0, .nils, [],by omega, ?_, ?_, ?_, ?_, ?_, ?_,HFrame.refl (by simp), SlOf.nil⟩ <;> simp -implicitDefEqProofs (disch := first|decide|assumption|omega|(simp -implicitDefEqProofs only [AM.RN];first|done|omega)|fail) only [↓AM.R0,AM.R1,AM.R2,Nat.reduceAdd,Nat.reduceLeDiff,Nat.reduceEqDiff,Int.reduceToNat,Nat.reduceLT,↓reduceIte,Int.reduceEq,Int.reduceLT,Int.reduceLE] <;> rfl
  ·rintro k e h' ⟨x,u,F,hk,e0,e2,e7,e15,e16,e17,fr,s⟩
   simp -implicitDefEqProofs (disch := first|decide|assumption|omega|(simp -implicitDefEqProofs only [AM.RN];first|done|omega)|fail) only [↓AM.R0,AM.R1,AM.R2,Nat.reduceAdd,Nat.reduceLeDiff,Nat.reduceEqDiff,Int.reduceToNat,Nat.reduceLT,↓reduceIte,Int.reduceEq,Int.reduceLT,Int.reduceLE,e15,e16,e17]
   refine AM.cI_bool (fun hc => ?_) (fun hc => ?_)
   ·simp only [decide_eq_true_eq] at hc
    obtain ⟨a,ha⟩ : ∃ a,slots[x]? = some a := ⟨_,List.getElem?_eq_getElem (by omega)⟩
    obtain ⟨b,hb2⟩ : ∃ a,kinds[x]? = some a := ⟨_,List.getElem?_eq_getElem (by omega)⟩
    have hz : (slots.zip kinds)[x]? = some (a,b) := by rw [List.getElem?_zip_eq_some]; exact ⟨ha,hb2⟩
    obtain ⟨j,g,off,vs,ro,x1,x2,x3,x5⟩ := ((L.keep fr).rd ha).ix1 (enc := fun n => .int .i64 n) ha .i64
    obtain ⟨j2,g2,off2,vs2,ro2,y1,y2,y3,y5⟩ := ((K.keep fr).rd hb2).ix1 (enc := fun n => .int .i64 n) hb2 .i64
    have hw : IntKind.i64.wrap ((x : Int) + 1) = ((x + 1 : Nat) : Int) := wrap64 (by omega) (by omega)
    simp -implicitDefEqProofs (disch := first|decide|assumption|omega|(simp -implicitDefEqProofs only [AM.RN];first|done|omega)|fail) only [↓AM.R0,AM.R1,AM.R2,Nat.reduceAdd,Nat.reduceLeDiff,Nat.reduceEqDiff,Int.reduceToNat,Nat.reduceLT,↓reduceIte,Int.reduceEq,Int.reduceLT,Int.reduceLE,e0,e2,e7,e15,e16,e17,x1,x2,x5,y1,y2,y5,AM.a_buildSlice,List.range,List.range.loop,List.getD_cons_zero,Nat.mod_one]
    have fP := fr.pushTmp (.cells 0 false [.int .i64 a, .int .i64 b])
    have sP : SlOf (h'.push (.cells 0 false [.int .i64 a, .int .i64 b])) 1 encK u (flat ((slots.zip kinds).take x)) F := s.frame (by simp) fun j hj => AHeap.get_push_ne _ _ (by have := s.lt j hj; omega)
    have len1 : (flat ((slots.zip kinds).take x)).length ≤ 2 * x := by rw [flat_len,List.length_take]; omega
    refine AM.opI_of (SlOf.app sP (l2 := [a,b]) (.inr ⟨h'.n,0,0,_,false,rfl,AHeap.get_push_same _ _,by simp,by simp,by simp⟩) (fun _ => rfl) (fun _ => rfl) (by simp only [List.length_cons,List.length_nil]; omega) fun mv h4 F4 s4 f4 => ?_)
    simp -implicitDefEqProofs (disch := first|decide|assumption|omega|(simp -implicitDefEqProofs only [AM.RN];first|done|omega)|fail) only [↓AM.R0,AM.R1,AM.R2,Nat.reduceAdd,Nat.reduceLeDiff,Nat.reduceEqDiff,Int.reduceToNat,Nat.reduceLT,↓reduceIte,Int.reduceEq,Int.reduceLT,Int.reduceLE,e0,e2,e7,e15,e16,e17,hw]
    refine ⟨slots.length - (x + 1), by omega,x + 1,mv,F4,by omega,rfl,rfl,fP.trans f4, ?_⟩
    rw [flat_take hz]
    exact s4
   ·have hx : x = slots.length := by simp only [decide_eq_false_iff_not] at hc; omega
    have hlen : (slots.zip kinds).length = slots.length := by rw [List.length_zip]; omega
    rw [List.take_of_length_le (by omega)] at s
    simp -implicitDefEqProofs (disch := first|decide|assumption|omega|(simp -implicitDefEqProofs only [AM.RN];first|done|omega)|fail) only [↓AM.R0,AM.R1,AM.R2,Nat.reduceAdd,Nat.reduceLeDiff,Nat.reduceEqDiff,Int.reduceToNat,Nat.reduceLT,↓reduceIte,Int.reduceEq,Int.reduceLT,Int.reduceLE,e0,e7]
    refine AM.callI_of (are ((C.keep (HFrame.non fr))) (.inl s.rd) (by omega)) ?_
    rintro r h3 ⟨rfl,rfl⟩
    simp -implicitDefEqProofs (disch := first|decide|assumption|omega|(simp -implicitDefEqProofs only [AM.RN];first|done|omega)|fail) only [↓AM.R0,AM.R1,AM.R2,Nat.reduceAdd,Nat.reduceLeDiff,Nat.reduceEqDiff,Int.reduceToNat,Nat.reduceLT,↓reduceIte,Int.reduceEq,Int.reduceLT,Int.reduceLE]
    subst hQ
    exact ⟨HFrame.non fr,by rw [listF,if_neg (by omega)]⟩
theorem SlIn.upto {h : AHeap} {v : AVal} {l : List Int} (L : SlIn h 1 encK v l) {n : Int} (h0 : 0 ≤ n) (h1 : n ≤ l.length) : ∃ v', slV h 1 v none (some (.int .i64 n)) = some (v', h) ∧ SlIn h 1 encK v' (l.take n.toNat) := by
 rcases L with (⟨rfl,rfl⟩ | ⟨id,g,off,vs,ro,rfl,e1,e2,e3,e4⟩) | ⟨rfl,id,off,rfl,e1,e2⟩
 ·have : n = 0 := by simp at h1; omega
  subst this
  exact ⟨.nils,rfl, .inl (.inl ⟨rfl,by simp⟩)⟩
 ·refine ⟨.sl id g off n.toNat 1,AM.sl_upto _ e1 h0 h1, .inl (.inr ⟨id,g,off,vs,ro, ?_,e1,e2, ?_, ?_⟩)⟩
  ·rw [List.length_take,Nat.min_eq_left (by omega)]
  ·rw [List.length_take]; omega
  ·have hm : ∀ l : List Int,l.flatMap encK = l.map fun n => .int .i64 n := fun l => by
    induction l with
    | nil => rfl
    | cons a l ih => rw [List.flatMap_cons,ih]; rfl
   rw [hm] at e4
   rw [hm,List.map_take, ← e4,List.take_take,List.length_take]
   congr 1
   omega
 ·have : n = 0 := by simp at h1; omega
  subst this
  refine ⟨.sl id 0 off 0 1, ?_, .inr ⟨by simp,id,off,rfl,e1,e2⟩⟩
  simp [slV,e2]
theorem SlOf.appIn {h : AHeap} {esz : Nat} {α : Type} {enc : α → List AVal} {v : AVal} {l : List α} {F : List Nat} (s : SlOf h esz enc v l F) {y : AVal} {l2 : List α} (t : SlIn h esz enc y l2) (hE : ∀ a, (enc a).length = esz) (hC : ∀ a, (enc a).all (·.cell) = true) {bytes : Nat} (hb : (l.length + l2.length) * bytes ≤ 1099511627776) {k : AVal → AHeap → Prop}
  (w : ∀ v' h' F', SlOf h' esz enc v' (l ++ l2) F' → HFrame h h' F F' → k v' h') : AM.wpOp (h.app esz bytes v y) k := by
 rcases t with t | ⟨rfl,id,off,rfl,e1,e2⟩
 ·exact SlOf.app s t hE hC hb w
 ·have e : h.app esz bytes v (.sl id 0 off 0 esz) = h.app esz bytes v .nils := by
   have a1 : h.elems esz (.sl id 0 off 0 esz) = some (0, []) := by simp [AHeap.elems,e1,e2]
   have a2 : h.elems esz .nils = some (0, []) := rfl
   unfold AHeap.app
   rw [a1,a2]
  rw [e]
  exact SlOf.app s (.inl ⟨rfl,rfl⟩) hE hC hb w
def goF (p : PProg) (f : PFunc) (i : PIns) : Int :=
 if i.a < 0 ∨ p.funcs.length ≤ i.a then 13 else
 match p.funcs[i.a.toNat]? with
 | none => 0
 | some g => if i.op ≠ 35 then (if g.results.length ≠ 0 then 13 else if (g.slots.take g.params.toNat).any (fun k => decide (k = 2)) = true then 10 else listF f.slots i.list (g.slots.take g.params.toNat)) else listF f.slots i.list (g.slots.take g.params.toNat ++ g.results)
def callsF (p : PProg) (f : PFunc) (i : PIns) : Int := if i.op = 36 then listF f.slots i.list f.results else goF p f i
/-- Parameters are slots. -/
def Hp (p : PProg) : Prop := ∀ g,g ∈ p.funcs → 0 ≤ g.params ∧ g.params ≤ g.slots.length ∧ g.slots.length ≤ 32 ∧ g.results.length ≤ 32
set_option maxHeartbeats 4000000 in
theorem calls {h : AHeap} {c : Nat} {p : PProg} {f : PFunc} {i : PIns} (C : CkR h c p f i) (H : Hp p) (hl : i.list.length ≤ 24) {row : List AVal} (R : InsR h i row) :
  CallP AP 59 [.ptr c 0 0, .agg row] h fun r h' => HFrame h h' [] [] ∧ r = .int .i64 (callsF p f i) := by
 obtain ⟨_,lw,rfl,L⟩ := R
 refine callP (rfl : Tr.get AP 59 = some A59) ?_
 generalize hQ : (fun (r : AVal) (h' : AHeap) => _) = Q
 have cl := SlIn.cellv L
 have f0 := (HFrame.refl (h := h) (F := []) (by simp)).pushTmp (.cells 0 false [.int .i64 i.op, .int .i64 i.a, .int .i64 i.b, .int .i64 i.c, .int .u64 i.imm,lw])
 have C0 := C
 obtain ⟨tv,gv,fv,sv,rv,cv,at_,lv,g,lt,s1,s2,s3,s4,s5,s6,hi,s7⟩ := C
 have l3 := s3.len
 simp -implicitDefEqProofs (disch := first|decide|assumption|omega|(simp -implicitDefEqProofs only [AM.RN];first|done|omega)|fail) only [AM.RGB,↓AM.R0,AM.R1,AM.R2,Nat.reduceAdd,Nat.reduceLeDiff,Nat.reduceEqDiff,Int.reduceToNat,Nat.reduceLT,↓reduceIte,Int.reduceEq,Int.reduceLT,Int.reduceLE,cl]
 have gB : (h.push (.cells 0 false [.int .i64 i.op, .int .i64 i.a, .int .i64 i.b, .int .i64 i.c, .int .u64 i.imm,lw])).get h.n = _ := AHeap.get_push_same _ _
 have gC := (f0.get c lt (by simp)).trans g
 have hn0 : h.n < (h.push (.cells 0 false [.int .i64 i.op, .int .i64 i.a, .int .i64 i.b, .int .i64 i.c, .int .u64 i.imm,lw])).n := by simp
 generalize h.push (.cells 0 false [.int .i64 i.op, .int .i64 i.a, .int .i64 i.b, .int .i64 i.c, .int .u64 i.imm,lw]) = h1 at *
 have C1 := C0.keep f0
 have n1 := f0.n
 have k1 : ∀ j,j < h.n → h1.get j = h.get j := fun j hj => f0.get j hj (by simp)
 refine AM.cI_bool (fun hb => ?_) (fun hb => ?_)
 ·simp only [decide_eq_true_eq] at hb
  simp -implicitDefEqProofs (disch := first|decide|assumption|omega|(simp -implicitDefEqProofs only [AM.RN];first|done|omega)|fail) only [↓AM.R0,AM.R1,AM.R2,Nat.reduceAdd,Nat.reduceLeDiff,Nat.reduceEqDiff,Int.reduceToNat,Nat.reduceLT,↓reduceIte,Int.reduceEq,Int.reduceLT,Int.reduceLE,gB,gC]
  refine AM.trCall_of (list C1 (L.keep f0) (s5.keep f0) (by omega)) ?_
  rintro r h2 ⟨f12,rfl⟩
  simp -implicitDefEqProofs (disch := first|decide|assumption|omega|(simp -implicitDefEqProofs only [AM.RN];first|done|omega)|fail) only [↓AM.R0,AM.R1,AM.R2,Nat.reduceAdd,Nat.reduceLeDiff,Nat.reduceEqDiff,Int.reduceToNat,Nat.reduceLT,↓reduceIte,Int.reduceEq,Int.reduceLT,Int.reduceLE]
  subst hQ
  exact ⟨f0.trans f12,by rw [callsF,if_pos hb]⟩
 ·simp only [decide_eq_false_iff_not] at hb
  have hm : callsF p f i = goF p f i := if_neg hb
  rw [hm] at hQ
  clear hm
  by_cases hin : 0 ≤ i.a ∧ i.a < p.funcs.length
  ·have d1 : decide ((p.funcs.length : Int) ≤ i.a) = false := decide_eq_false (by omega)
   have d2 : decide (i.a < 0) = false := decide_eq_false (by omega)
   obtain ⟨q,hq⟩ : ∃ t,p.funcs[i.a.toNat]? = some t := ⟨_,List.getElem?_eq_getElem (by omega)⟩
   obtain ⟨q1,q2,q3,q4⟩ := H q (List.mem_of_getElem? hq)
   obtain ⟨j,g2,off,vs,ro,row,rfl,w2,x3,x4,x5,x6,qs,qr,qc,rfl,ys,yr,yc⟩ := SlR.atv s3 hq
   have x2 := (k1 j x3).trans w2
   have hj : j ≠ h1.n := by omega
   have x1 := AM.ix_sl (k := .i64) (esz := 4) (off := off) h1 x2 hin.1 hin.2
   have bs := SlIn.beqv ys
   have br := SlIn.beqv yr
   have bc := SlR.beqv yc
   have bf : ∀ a b c d e, (AVal.sl a b c d e).beq (AVal.sl a b c d e) = true := AM.beq_sl
   have bp : ∀ a b c, (AVal.ptr a b c).beq (AVal.ptr a b c) = true := fun a b c => by simp [AVal.beq]
   have c1 := SlIn.cellv ys
   have c2 := SlIn.cellv yr
   have c3 := SlR.cellv yc
   have ls := ys.len
   have lr := yr.len
   have x1p : ∀ o,ixV (h1.push o) 4 (.sl j g2 off p.funcs.length 4) (.int .i64 i.a) = some (.ptr j g2 (off + i.a.toNat * 4), h1.push o) := fun o => AM.ix_sl (k := .i64) (esz := 4) _ ((AHeap.get_push_ne _ _ hj).trans x2) hin.1 hin.2
   simp -implicitDefEqProofs (disch := first|decide|assumption|omega|(simp -implicitDefEqProofs only [AM.RN];first|done|omega)|fail) only [↓AM.R0,AM.R1,AM.R2,Nat.reduceAdd,Nat.reduceLeDiff,Nat.reduceEqDiff,Int.reduceToNat,Nat.reduceLT,↓reduceIte,Int.reduceEq,Int.reduceLT,Int.reduceLE,gB,gC,l3,d1,d2,x1,x2,x5,c1,c2,c3,bs,br,bc,bf,bp,AM.sameO_some,x1p]
   have fA := (f0.pushTmp (.cells 0 false [.int .i64 0, .nils, .nils, .nils])).setTmp (i := h1.n) n1 (.cells 0 false [.int .i64 q.params,qs,qr,qc])
   obtain ⟨pv,sl1,PS⟩ := SlIn.upto (ys.keep fA) q1 (by omega)
   have gA := AHeap.get_set_same (h1.push (.cells 0 false [.int .i64 0, .nils, .nils, .nils])) h1.n (.cells 0 false [.int .i64 q.params,qs,qr,qc])
   have gBA : ((h1.push (.cells 0 false [.int .i64 0, .nils, .nils, .nils])).set h1.n (.cells 0 false [.int .i64 q.params,qs,qr,qc])).get h.n = _ := (AHeap.get_set_ne _ _ (by omega)).trans ((AHeap.get_push_ne _ _ (by omega)).trans gB)
   have nA : ((h1.push (.cells 0 false [.int .i64 0, .nils, .nils, .nils])).set h1.n (.cells 0 false [.int .i64 q.params,qs,qr,qc])).n = h1.n + 1 := by simp
   generalize ((h1.push (.cells 0 false [.int .i64 0, .nils, .nils, .nils])).set h1.n (.cells 0 false [.int .i64 q.params,qs,qr,qc])) = hA at *
   have lp := PS.len
   have hgo : goF p f i = if i.op ≠ 35 then (if q.results.length ≠ 0 then 13 else if (q.slots.take q.params.toNat).any (fun k => decide (k = 2)) = true then 10 else listF f.slots i.list (q.slots.take q.params.toNat)) else listF f.slots i.list (q.slots.take q.params.toNat ++ q.results) := by
    rw [goF,if_neg (by omega), hq]
   have lenP : (q.slots.take q.params.toNat).length ≤ 32 := by rw [List.length_take]; omega
   generalize q.slots.take q.params.toNat = ps at *
   simp -implicitDefEqProofs (disch := first|decide|assumption|omega|(simp -implicitDefEqProofs only [AM.RN];first|done|omega)|fail) only [↓AM.R0,AM.R1,AM.R2,Nat.reduceAdd,Nat.reduceLeDiff,Nat.reduceEqDiff,Int.reduceToNat,Nat.reduceLT,↓reduceIte,Int.reduceEq,Int.reduceLT,Int.reduceLE,sl1,gBA]
   refine AM.cI_bool (fun hd => ?_) (fun hd => ?_)
   ·have hop : i.op ≠ 35 := by simpa using hd
    rw [if_pos hop] at hgo
    simp -implicitDefEqProofs (disch := first|decide|assumption|omega|(simp -implicitDefEqProofs only [AM.RN];first|done|omega)|fail) only [↓AM.R0,AM.R1,AM.R2,Nat.reduceAdd,Nat.reduceLeDiff,Nat.reduceEqDiff,Int.reduceToNat,Nat.reduceLT,↓reduceIte,Int.reduceEq,Int.reduceLT,Int.reduceLE,gA,lr]
    refine AM.cI_bool (fun he => ?_) (fun he => ?_)
    ·have hr0 : q.results.length ≠ 0 := by simpa using he
     simp -implicitDefEqProofs (disch := first|decide|assumption|omega|(simp -implicitDefEqProofs only [AM.RN];first|done|omega)|fail) only [↓AM.R0,AM.R1,AM.R2,Nat.reduceAdd,Nat.reduceLeDiff,Nat.reduceEqDiff,Int.reduceToNat,Nat.reduceLT,↓reduceIte,Int.reduceEq,Int.reduceLT,Int.reduceLE]
     subst hQ
     exact ⟨fA,by rw [hgo,if_pos hr0]⟩
    ·have hr0 : ¬ q.results.length ≠ 0 := by simp at he; simp [he]
     rw [if_neg hr0] at hgo
     simp -implicitDefEqProofs (disch := first|decide|assumption|omega|(simp -implicitDefEqProofs only [AM.RN];first|done|omega)|fail) only [↓AM.R0,AM.R1,AM.R2,Nat.reduceAdd,Nat.reduceLeDiff,Nat.reduceEqDiff,Int.reduceToNat,Nat.reduceLT,↓reduceIte,Int.reduceEq,Int.reduceLT,Int.reduceLE,lp]
     refine AM.loopI_of (fun k e h' => ∃ x : Nat,k + x = ps.length ∧ e.val 0 = .ptr c 0 0 ∧ e.val 3 = .ptr h.n 0 0 ∧ e.val 6 = pv ∧ e.val 57 = pv ∧ e.val 58 = .int .i64 ps.length ∧ e.val 59 = .int .i64 x ∧ h' = hA ∧ ps.any (fun k => decide (k = 2)) = (ps.drop x).any (fun k => decide (k = 2))) ps.length ?_ ?_
     ·refine ⟨0,by omega, ?_, ?_, ?_, ?_, ?_, ?_,rfl,by simp⟩ <;> simp -implicitDefEqProofs (disch := first|decide|assumption|omega|(simp -implicitDefEqProofs only [AM.RN];first|done|omega)|fail) only [↓AM.R0,AM.R1,AM.R2,Nat.reduceAdd,Nat.reduceLeDiff,Nat.reduceEqDiff,Int.reduceToNat,Nat.reduceLT,↓reduceIte,Int.reduceEq,Int.reduceLT,Int.reduceLE] <;> rfl
     ·rintro k e h' ⟨x,hk,e0,e3,e6,e57,e58,e59,hh,ha⟩
      subst hh
      simp -implicitDefEqProofs (disch := first|decide|assumption|omega|(simp -implicitDefEqProofs only [AM.RN];first|done|omega)|fail) only [↓AM.R0,AM.R1,AM.R2,Nat.reduceAdd,Nat.reduceLeDiff,Nat.reduceEqDiff,Int.reduceToNat,Nat.reduceLT,↓reduceIte,Int.reduceEq,Int.reduceLT,Int.reduceLE,e57,e58,e59]
      refine AM.cI_bool (fun hx => ?_) (fun hx => ?_)
      ·simp only [decide_eq_true_eq] at hx
       obtain ⟨a,hax⟩ : ∃ a,ps[x]? = some a := ⟨_,List.getElem?_eq_getElem (by omega)⟩
       obtain ⟨j2,g3,off2,vs2,ro2,y1,y2,y3,y5⟩ := (PS.rd hax).ix1 (enc := fun n => .int .i64 n) hax .i64
       have hw1 : IntKind.i64.wrap ((x : Int) + 1) = ((x + 1 : Nat) : Int) := (wrap64 (by omega) (by omega)).trans (by omega)
       rw [any_drop hax] at ha
       simp -implicitDefEqProofs (disch := first|decide|assumption|omega|(simp -implicitDefEqProofs only [AM.RN];first|done|omega)|fail) only [↓AM.R0,AM.R1,AM.R2,Nat.reduceAdd,Nat.reduceLeDiff,Nat.reduceEqDiff,Int.reduceToNat,Nat.reduceLT,↓reduceIte,Int.reduceEq,Int.reduceLT,Int.reduceLE,e0,e3,e6,e57,e58,e59,y1,y2,y5]
       refine AM.cI_bool (fun hy => ?_) (fun hy => ?_)
       ·simp -implicitDefEqProofs (disch := first|decide|assumption|omega|(simp -implicitDefEqProofs only [AM.RN];first|done|omega)|fail) only [↓AM.R0,AM.R1,AM.R2,Nat.reduceAdd,Nat.reduceLeDiff,Nat.reduceEqDiff,Int.reduceToNat,Nat.reduceLT,↓reduceIte,Int.reduceEq,Int.reduceLT,Int.reduceLE]
        rw [hy,Bool.true_or] at ha
        subst hQ
        exact ⟨fA,by rw [hgo,if_pos ha]⟩
       ·rw [hy,Bool.false_or] at ha
        simp -implicitDefEqProofs (disch := first|decide|assumption|omega|(simp -implicitDefEqProofs only [AM.RN];first|done|omega)|fail) only [↓AM.R0,AM.R1,AM.R2,Nat.reduceAdd,Nat.reduceLeDiff,Nat.reduceEqDiff,Int.reduceToNat,Nat.reduceLT,↓reduceIte,Int.reduceEq,Int.reduceLT,Int.reduceLE,e0,e3,e6,e57,e58,e59,hw1]
        exact ⟨ps.length - (x + 1), by omega,x + 1,by omega,rfl,ha⟩
      ·simp only [decide_eq_false_iff_not] at hx
       rw [List.drop_of_length_le (by omega), List.any_nil] at ha
       rw [if_neg (by simp [ha])] at hgo
       simp -implicitDefEqProofs (disch := first|decide|assumption|omega|(simp -implicitDefEqProofs only [AM.RN];first|done|omega)|fail) only [↓AM.R0,AM.R1,AM.R2,Nat.reduceAdd,Nat.reduceLeDiff,Nat.reduceEqDiff,Int.reduceToNat,Nat.reduceLT,↓reduceIte,Int.reduceEq,Int.reduceLT,Int.reduceLE,e0,e3,e6,gBA]
       refine AM.callI_of (list (C0.keep fA) (L.keep fA) PS (by omega)) ?_
       rintro r h3 ⟨f23,rfl⟩
       simp -implicitDefEqProofs (disch := first|decide|assumption|omega|(simp -implicitDefEqProofs only [AM.RN];first|done|omega)|fail) only [↓AM.R0,AM.R1,AM.R2,Nat.reduceAdd,Nat.reduceLeDiff,Nat.reduceEqDiff,Int.reduceToNat,Nat.reduceLT,↓reduceIte,Int.reduceEq,Int.reduceLT,Int.reduceLE]
       subst hQ
       exact ⟨fA.trans f23,by rw [hgo]⟩
   ·have hop : ¬ i.op ≠ 35 := by simpa using hd
    rw [if_neg hop] at hgo
    simp -implicitDefEqProofs (disch := first|decide|assumption|omega|(simp -implicitDefEqProofs only [AM.RN];first|done|omega)|fail) only [↓AM.R0,AM.R1,AM.R2,Nat.reduceAdd,Nat.reduceLeDiff,Nat.reduceEqDiff,Int.reduceToNat,Nat.reduceLT,↓reduceIte,Int.reduceEq,Int.reduceLT,Int.reduceLE,gA]
    refine AM.trOp_of (SlOf.appIn (SlOf.nil (enc := encK)) PS (fun _ => rfl) (fun _ => rfl) (by simp only [List.length_nil]; omega) fun v1 h3 F3 s3' f3 => ?_)
    have gA3 := (f3.get h1.n (by omega) (by simp)).trans gA
    have hA3 : h1.n < h3.n := by have := f3.n; omega
    have fA3 := fA.trans f3
    simp -implicitDefEqProofs (disch := first|decide|assumption|omega|(simp -implicitDefEqProofs only [AM.RN];first|done|omega)|fail) only [↓AM.R0,AM.R1,AM.R2,Nat.reduceAdd,Nat.reduceLeDiff,Nat.reduceEqDiff,Int.reduceToNat,Nat.reduceLT,↓reduceIte,Int.reduceEq,Int.reduceLT,Int.reduceLE,gA3]
    refine AM.trOp_of (SlOf.appIn s3' (yr.keep fA3) (fun _ => rfl) (fun _ => rfl) (by simp only [List.length_append,List.length_nil]; omega) fun v2 h4 F4 s4' f4 => ?_)
    have f34 := f3.trans f4
    have gB4 := (f34.get h.n (by omega) (by simp)).trans gBA
    have hn4 : h.n < h4.n := by have := f34.n; omega
    have fA4 := HFrame.non (fA.trans f34)
    simp -implicitDefEqProofs (disch := first|decide|assumption|omega|(simp -implicitDefEqProofs only [AM.RN];first|done|omega)|fail) only [↓AM.R0,AM.R1,AM.R2,Nat.reduceAdd,Nat.reduceLeDiff,Nat.reduceEqDiff,Int.reduceToNat,Nat.reduceLT,↓reduceIte,Int.reduceEq,Int.reduceLT,Int.reduceLE,gA,gA3,br,gB4]
    refine AM.callI_of (list (C0.keep fA4) (L.keep fA4) (.inl s4'.rd) (by omega)) ?_
    rintro r h5 ⟨f45,rfl⟩
    simp -implicitDefEqProofs (disch := first|decide|assumption|omega|(simp -implicitDefEqProofs only [AM.RN];first|done|omega)|fail) only [↓AM.R0,AM.R1,AM.R2,Nat.reduceAdd,Nat.reduceLeDiff,Nat.reduceEqDiff,Int.reduceToNat,Nat.reduceLT,↓reduceIte,Int.reduceEq,Int.reduceLT,Int.reduceLE]
    subst hQ
    exact ⟨fA4.trans f45,by rw [hgo]⟩
  ·have hg : goF p f i = 13 := if_pos (by omega)
   rcases Int.lt_or_le i.a 0 with hlt | hle
   ·have d2 : decide (i.a < 0) = true := decide_eq_true (by omega)
    simp -implicitDefEqProofs (disch := first|decide|assumption|omega|(simp -implicitDefEqProofs only [AM.RN];first|done|omega)|fail) only [↓AM.R0,AM.R1,AM.R2,Nat.reduceAdd,Nat.reduceLeDiff,Nat.reduceEqDiff,Int.reduceToNat,Nat.reduceLT,↓reduceIte,Int.reduceEq,Int.reduceLT,Int.reduceLE,gB,gC,l3,d2]
    subst hQ
    exact ⟨f0,by rw [hg]⟩
   ·have d1 : decide ((p.funcs.length : Int) ≤ i.a) = true := decide_eq_true (by omega)
    have d2 : decide (i.a < 0) = false := decide_eq_false (by omega)
    simp -implicitDefEqProofs (disch := first|decide|assumption|omega|(simp -implicitDefEqProofs only [AM.RN];first|done|omega)|fail) only [↓AM.R0,AM.R1,AM.R2,Nat.reduceAdd,Nat.reduceLeDiff,Nat.reduceEqDiff,Int.reduceToNat,Nat.reduceLT,↓reduceIte,Int.reduceEq,Int.reduceLT,Int.reduceLE,gB,gC,l3,d1,d2]
    subst hQ
    exact ⟨f0,by rw [hg]⟩
end Go.Proofs.Ytofcnjglnnoimaa.Vf
namespace Go.Proofs.Ytofcnjglnnoimaa.Vf
open Go Go.AM Go.Proofs.Ytofcnjglnnoimaa.AmGY
attribute [local irreducible] AM.wp AM.wpIs AM.wpTr AM.opI AM.gI AM.cI AM.trI AM.callI AM.fnI AM.trG AM.trOp AM.trCall AM.seqC AM.loopI
set_option maxRecDepth 100000
set_option linter.unusedVariables false
set_option linter.unusedSimpArgs false
def chanF (sl : List Int) (n : Int) : Int × Int :=
 match slotK sl n with
 | none => (0,11)
 | some k => if k < 64 then (0,10) else (k - 64,0)
def oneC (sl : List Int) (d c v : Int) : Int := if d ≠ 0 ∧ d ≠ 1 then 8 else if (chanF sl c).2 ≠ 0 then (chanF sl c).2 else areF sl [(v, (chanF sl c).1)]
def threes (sl : List Int) : List Int → Int
 | d :: c :: v :: r => if oneC sl d c v ≠ 0 then oneC sl d c v else threes sl r
 | _ => 0
def chooseF (sl : List Int) (i : PIns) : Int := if i.b < 0 ∨ 1 < i.b ∨ i.list.length % 3 ≠ 0 then 16 else if threes sl i.list ≠ 0 then threes sl i.list else areF sl [(i.a,0)]
def sendF (sl : List Int) (i : PIns) (ch v : Int) : Int := if (chanF sl ch).2 ≠ 0 then (chanF sl ch).2 else if i.op = 43 then areF sl [(v, (chanF sl ch).1), (i.c,0)] else areF sl [(v, (chanF sl ch).1)]
def channelsF (sl : List Int) (i : PIns) : Int :=
 if orB i.op [41,44] = true then (if 16 < i.imm then 16 else (chanF sl i.a).2) else if i.op = 43 then sendF sl i i.b i.a else if i.op = 45 then chooseF sl i else sendF sl i i.a i.b
theorem kind_top {nt : Nat} {k : Int} (h : kindF nt k = true) : k < 128 := by
 unfold kindF kind1 at h
 simp only [Bool.or_eq_true,Bool.and_eq_true,decide_eq_true_eq] at h
 omega
theorem channel {h : AHeap} {c : Nat} {p : PProg} {f : PFunc} {i : PIns} (C : CkR h c p f i) (H : Hs p f.slots) (n : Int) :
  CallP AP 84 [.ptr c 0 0, .int .i64 n] h fun r h' => h' = h ∧ r = .tup [.int .i64 (chanF f.slots n).1, .int .i64 (chanF f.slots n).2] := by
 refine callP (rfl : Tr.get AP 84 = some A84) ?_
 generalize hQ : (fun (r : AVal) (h' : AHeap) => _) = Q
 simp -implicitDefEqProofs (disch := first|decide|assumption|omega|(simp -implicitDefEqProofs only [AM.RN];first|done|omega)|fail) only [↓AM.R0,AM.R1,AM.R2,Nat.reduceAdd,Nat.reduceLeDiff,Nat.reduceEqDiff,Int.reduceToNat,Nat.reduceLT,↓reduceIte,Int.reduceEq,Int.reduceLT,Int.reduceLE]
 refine AM.callI_of (slot C n) ?_
 rintro r h2 ⟨rfl,rfl⟩
 simp -implicitDefEqProofs (disch := first|decide|assumption|omega|(simp -implicitDefEqProofs only [AM.RN];first|done|omega)|fail) only [↓AM.R0,AM.R1,AM.R2,Nat.reduceAdd,Nat.reduceLeDiff,Nat.reduceEqDiff,Int.reduceToNat,Nat.reduceLT,↓reduceIte,Int.reduceEq,Int.reduceLT,Int.reduceLE]
 cases hk : slotK f.slots n with
 | none =>
  simp -implicitDefEqProofs (disch := first|decide|assumption|omega|(simp -implicitDefEqProofs only [AM.RN];first|done|omega)|fail) only [↓AM.R0,AM.R1,AM.R2,Nat.reduceAdd,Nat.reduceLeDiff,Nat.reduceEqDiff,Int.reduceToNat,Nat.reduceLT,↓reduceIte,Int.reduceEq,Int.reduceLT,Int.reduceLE,Option.isSome_none]
  subst hQ
  exact ⟨rfl,by rw [chanF,hk]⟩
 | some k =>
  simp -implicitDefEqProofs (disch := first|decide|assumption|omega|(simp -implicitDefEqProofs only [AM.RN];first|done|omega)|fail) only [↓AM.R0,AM.R1,AM.R2,Nat.reduceAdd,Nat.reduceLeDiff,Nat.reduceEqDiff,Int.reduceToNat,Nat.reduceLT,↓reduceIte,Int.reduceEq,Int.reduceLT,Int.reduceLE,Option.isSome_some,Option.getD_some]
  refine AM.cI_bool (fun hd => ?_) (fun hd => ?_)
  ·simp only [decide_eq_true_eq] at hd
   simp -implicitDefEqProofs (disch := first|decide|assumption|omega|(simp -implicitDefEqProofs only [AM.RN];first|done|omega)|fail) only [↓AM.R0,AM.R1,AM.R2,Nat.reduceAdd,Nat.reduceLeDiff,Nat.reduceEqDiff,Int.reduceToNat,Nat.reduceLT,↓reduceIte,Int.reduceEq,Int.reduceLT,Int.reduceLE]
   subst hQ
   exact ⟨rfl,by rw [chanF,hk]; simp only; rw [if_pos hd]⟩
  ·simp only [decide_eq_false_iff_not] at hd
   have := kind_top ((H.at hk).resolve_left (by omega))
   have hw : IntKind.i64.wrap (k - 64) = k - 64 := wrap64 (by omega) (by omega)
   simp -implicitDefEqProofs (disch := first|decide|assumption|omega|(simp -implicitDefEqProofs only [AM.RN];first|done|omega)|fail) only [↓AM.R0,AM.R1,AM.R2,Nat.reduceAdd,Nat.reduceLeDiff,Nat.reduceEqDiff,Int.reduceToNat,Nat.reduceLT,↓reduceIte,Int.reduceEq,Int.reduceLT,Int.reduceLE,hw]
   subst hQ
   exact ⟨rfl,by rw [chanF,hk]; simp only; rw [if_neg hd]⟩
set_option maxHeartbeats 4000000 in
theorem choose {h : AHeap} {c : Nat} {p : PProg} {f : PFunc} {i : PIns} (C : CkR h c p f i) (H : Hs p f.slots) (hl : i.list.length ≤ 24) {row : List AVal} (R : InsR h i row) :
  CallP AP 85 [.ptr c 0 0, .agg row] h fun r h' => HFrame h h' [] [] ∧ r = .int .i64 (chooseF f.slots i) := by
 obtain ⟨_,lw,rfl,L⟩ := R
 refine callP (rfl : Tr.get AP 85 = some A85) ?_
 generalize hQ : (fun (r : AVal) (h' : AHeap) => _) = Q
 have cl := SlIn.cellv L
 have ll := L.len
 have f0 := (HFrame.refl (h := h) (F := []) (by simp)).pushTmp (.cells 0 false [.int .i64 i.op, .int .i64 i.a, .int .i64 i.b, .int .i64 i.c, .int .u64 i.imm,lw])
 simp -implicitDefEqProofs (disch := first|decide|assumption|omega|(simp -implicitDefEqProofs only [AM.RN];first|done|omega)|fail) only [AM.RGB,↓AM.R0,AM.R1,AM.R2,Nat.reduceAdd,Nat.reduceLeDiff,Nat.reduceEqDiff,Int.reduceToNat,Nat.reduceLT,↓reduceIte,Int.reduceEq,Int.reduceLT,Int.reduceLE,cl]
 have gB : (h.push (.cells 0 false [.int .i64 i.op, .int .i64 i.a, .int .i64 i.b, .int .i64 i.c, .int .u64 i.imm,lw])).get h.n = _ := AHeap.get_push_same _ _
 have hn0 : h.n < (h.push (.cells 0 false [.int .i64 i.op, .int .i64 i.a, .int .i64 i.b, .int .i64 i.c, .int .u64 i.imm,lw])).n := by simp
 generalize h.push (.cells 0 false [.int .i64 i.op, .int .i64 i.a, .int .i64 i.b, .int .i64 i.c, .int .u64 i.imm,lw]) = h1 at *
 have C1 := C.keep f0
 have htm : (((i.list.length : Int).tmod 3 = 0)) ↔ i.list.length % 3 = 0 := by
  rw [Int.tmod_eq_emod_of_nonneg (by omega)]; omega
 simp -implicitDefEqProofs (disch := first|decide|assumption|omega|(simp -implicitDefEqProofs only [AM.RN];first|done|omega)|fail) only [AM.RGB,↓AM.R0,AM.R1,AM.R2,Nat.reduceAdd,Nat.reduceLeDiff,Nat.reduceEqDiff,Int.reduceToNat,Nat.reduceLT,↓reduceIte,Int.reduceEq,Int.reduceLT,Int.reduceLE,gB,ll]
 refine AM.cI_bool (fun hb => ?_) (fun hb => ?_)
 ·simp -implicitDefEqProofs (disch := first|decide|assumption|omega|(simp -implicitDefEqProofs only [AM.RN];first|done|omega)|fail) only [↓AM.R0,AM.R1,AM.R2,Nat.reduceAdd,Nat.reduceLeDiff,Nat.reduceEqDiff,Int.reduceToNat,Nat.reduceLT,↓reduceIte,Int.reduceEq,Int.reduceLT,Int.reduceLE]
  simp only [Bool.or_eq_true,decide_eq_true_eq,Bool.not_eq_true', decide_eq_false_iff_not,htm] at hb
  subst hQ
  exact ⟨f0,by rw [chooseF,if_pos (by omega)]⟩
 ·simp only [Bool.or_eq_false_iff,decide_eq_false_iff_not,Bool.not_eq_false', decide_eq_true_eq,htm] at hb
  simp -implicitDefEqProofs (disch := first|decide|assumption|omega|(simp -implicitDefEqProofs only [AM.RN];first|done|omega)|fail) only [↓AM.R0,AM.R1,AM.R2,Nat.reduceAdd,Nat.reduceLeDiff,Nat.reduceEqDiff,Int.reduceToNat,Nat.reduceLT,↓reduceIte,Int.reduceEq,Int.reduceLT,Int.reduceLE]
  have hch : chooseF f.slots i = if threes f.slots i.list ≠ 0 then threes f.slots i.list else areF f.slots [(i.a,0)] := by rw [chooseF,if_neg (by omega)]
  refine AM.loopI_of (fun k e h' => ∃ x : Nat,k + x = i.list.length ∧ 3 * x ≤ i.list.length ∧ e.val 0 = .ptr c 0 0 ∧ e.val 3 = .ptr h.n 0 0 ∧ e.val 5 = .int .i64 (3 * x : Nat) ∧ HFrame h1 h' [] [] ∧ threes f.slots i.list = threes f.slots (i.list.drop (3 * x))) i.list.length ?_ ?_
  ·refine ⟨0,by omega,by omega, ?_, ?_, ?_,HFrame.refl (by simp), by simp⟩ <;> simp -implicitDefEqProofs (disch := first|decide|assumption|omega|(simp -implicitDefEqProofs only [AM.RN];first|done|omega)|fail) only [↓AM.R0,AM.R1,AM.R2,Nat.reduceAdd,Nat.reduceLeDiff,Nat.reduceEqDiff,Int.reduceToNat,Nat.reduceLT,↓reduceIte,Int.reduceEq,Int.reduceLT,Int.reduceLE] <;> rfl
  ·rintro k e h' ⟨x,hk,hx,e0,e3,e5,fr,ht⟩
   have gB' := (fr.get h.n hn0 (by simp)).trans gB
   have hn' : h.n < h'.n := by have := fr.n; omega
   have C' := C1.keep fr
   have L' := (L.keep f0).keep fr
   simp -implicitDefEqProofs (disch := first|decide|assumption|omega|(simp -implicitDefEqProofs only [AM.RN];first|done|omega)|fail) only [↓AM.R0,AM.R1,AM.R2,Nat.reduceAdd,Nat.reduceLeDiff,Nat.reduceEqDiff,Int.reduceToNat,Nat.reduceLT,↓reduceIte,Int.reduceEq,Int.reduceLT,Int.reduceLE,e0,e3,e5,gB', ll]
   refine AM.cI_bool (fun hc => ?_) (fun hc => ?_)
   ·simp only [decide_eq_true_eq] at hc
    obtain ⟨a,ha⟩ : ∃ a,i.list[3 * x]? = some a := ⟨_,List.getElem?_eq_getElem (by omega)⟩
    obtain ⟨b,hb2⟩ : ∃ a,i.list[3 * x + 1]? = some a := ⟨_,List.getElem?_eq_getElem (by omega)⟩
    obtain ⟨d,hd⟩ : ∃ a,i.list[3 * x + 2]? = some a := ⟨_,List.getElem?_eq_getElem (by omega)⟩
    obtain ⟨j,g,off,vs,ro,x1,x2,x3,x5⟩ := (L'.rd ha).ix1 (enc := fun n => .int .i64 n) ha .i64
    obtain ⟨j2,g2,off2,vs2,ro2,y1,y2,y3,y5⟩ := (L'.rd hb2).ix1 (enc := fun n => .int .i64 n) hb2 .i64
    obtain ⟨j3,g3,off3,vs3,ro3,z1,z2,z3,z5⟩ := (L'.rd hd).ix1 (enc := fun n => .int .i64 n) hd .i64
    have hdr : i.list.drop (3 * x) = a :: b :: d :: i.list.drop (3 * (x + 1)) := by
     obtain ⟨q1,rfl⟩ := List.getElem?_eq_some_iff.1 ha
     obtain ⟨q2,rfl⟩ := List.getElem?_eq_some_iff.1 hb2
     obtain ⟨q3,rfl⟩ := List.getElem?_eq_some_iff.1 hd
     rw [List.drop_eq_getElem_cons q1,List.drop_eq_getElem_cons q2,List.drop_eq_getElem_cons q3]
     rfl
    rw [hdr] at ht
    have hw1 : IntKind.i64.wrap (((3 * x : Nat) : Int) + 1) = ((3 * x + 1 : Nat) : Int) := (wrap64 (by omega) (by omega)).trans (by omega)
    have hw2 : IntKind.i64.wrap (((3 * x : Nat) : Int) + 2) = ((3 * x + 2 : Nat) : Int) := (wrap64 (by omega) (by omega)).trans (by omega)
    have hw3 : IntKind.i64.wrap (((3 * x : Nat) : Int) + 3) = ((3 * (x + 1) : Nat) : Int) := (wrap64 (by omega) (by omega)).trans (by omega)
    simp -implicitDefEqProofs (disch := first|decide|assumption|omega|(simp -implicitDefEqProofs only [AM.RN];first|done|omega)|fail) only [AM.RGB,↓AM.R0,AM.R1,AM.R2,Nat.reduceAdd,Nat.reduceLeDiff,Nat.reduceEqDiff,Int.reduceToNat,Nat.reduceLT,↓reduceIte,Int.reduceEq,Int.reduceLT,Int.reduceLE,e0,e3,e5,gB', x1,x2,x5]
    refine AM.cI_bool (fun hd => ?_) (fun hd => ?_)
    ·simp -implicitDefEqProofs (disch := first|decide|assumption|omega|(simp -implicitDefEqProofs only [AM.RN];first|done|omega)|fail) only [↓AM.R0,AM.R1,AM.R2,Nat.reduceAdd,Nat.reduceLeDiff,Nat.reduceEqDiff,Int.reduceToNat,Nat.reduceLT,↓reduceIte,Int.reduceEq,Int.reduceLT,Int.reduceLE]
     have h8 : oneC f.slots a b d = 8 := by rw [oneC,if_pos (by simpa using hd)]
     have h9 : threes f.slots i.list = 8 := by rw [ht,threes,h8]; rfl
     subst hQ
     exact ⟨f0.trans fr,by rw [hch,h9]; rfl⟩
    ·have hone : oneC f.slots a b d = if (chanF f.slots b).2 ≠ 0 then (chanF f.slots b).2 else areF f.slots [(d, (chanF f.slots b).1)] := by
      rw [oneC,if_neg]
      intro hq
      rw [decide_eq_false hq.1,decide_eq_false hq.2] at hd
      cases hd
     simp -implicitDefEqProofs (disch := first|decide|assumption|omega|(simp -implicitDefEqProofs only [AM.RN];first|done|omega)|fail) only [↓AM.R0,AM.R1,AM.R2,Nat.reduceAdd,Nat.reduceLeDiff,Nat.reduceEqDiff,Int.reduceToNat,Nat.reduceLT,↓reduceIte,Int.reduceEq,Int.reduceLT,Int.reduceLE,e0,e3,e5,gB', hw1,y1,y2,y5]
     refine AM.callI_of (channel C' H b) ?_
     rintro r h2 ⟨rfl,rfl⟩
     simp -implicitDefEqProofs (disch := first|decide|assumption|omega|(simp -implicitDefEqProofs only [AM.RN];first|done|omega)|fail) only [↓AM.R0,AM.R1,AM.R2,Nat.reduceAdd,Nat.reduceLeDiff,Nat.reduceEqDiff,Int.reduceToNat,Nat.reduceLT,↓reduceIte,Int.reduceEq,Int.reduceLT,Int.reduceLE]
     refine AM.cI_bool (fun he => ?_) (fun he => ?_)
     ·simp -implicitDefEqProofs (disch := first|decide|assumption|omega|(simp -implicitDefEqProofs only [AM.RN];first|done|omega)|fail) only [↓AM.R0,AM.R1,AM.R2,Nat.reduceAdd,Nat.reduceLeDiff,Nat.reduceEqDiff,Int.reduceToNat,Nat.reduceLT,↓reduceIte,Int.reduceEq,Int.reduceLT,Int.reduceLE]
      have he' : (chanF f.slots b).2 ≠ 0 := by simpa using he
      rw [if_pos he'] at hone
      have h9 : threes f.slots i.list = (chanF f.slots b).2 := by rw [ht,threes,hone,if_pos he']
      subst hQ
      exact ⟨f0.trans fr,by rw [hch,h9,if_pos he']⟩
     ·have he' : ¬ (chanF f.slots b).2 ≠ 0 := by simpa using he
      rw [if_neg he'] at hone
      simp -implicitDefEqProofs (disch := first|decide|assumption|omega|(simp -implicitDefEqProofs only [AM.RN];first|done|omega)|fail) only [↓AM.R0,AM.R1,AM.R2,Nat.reduceAdd,Nat.reduceLeDiff,Nat.reduceEqDiff,Int.reduceToNat,Nat.reduceLT,↓reduceIte,Int.reduceEq,Int.reduceLT,Int.reduceLE,e0,e3,e5,gB', hw2,z1,z2,z5,AM.a_buildSlice,List.range,List.range.loop,List.getD_cons_zero,Nat.mod_one]
      refine AM.callI_of (are1 C' d (chanF f.slots b).1) ?_
      rintro r h3 ⟨f3,rfl⟩
      simp -implicitDefEqProofs (disch := first|decide|assumption|omega|(simp -implicitDefEqProofs only [AM.RN];first|done|omega)|fail) only [↓AM.R0,AM.R1,AM.R2,Nat.reduceAdd,Nat.reduceLeDiff,Nat.reduceEqDiff,Int.reduceToNat,Nat.reduceLT,↓reduceIte,Int.reduceEq,Int.reduceLT,Int.reduceLE]
      refine AM.cI_bool (fun hf => ?_) (fun hf => ?_)
      ·have hf' : areF f.slots [(d, (chanF f.slots b).1)] ≠ 0 := by simpa using hf
       simp -implicitDefEqProofs (disch := first|decide|assumption|omega|(simp -implicitDefEqProofs only [AM.RN];first|done|omega)|fail) only [↓AM.R0,AM.R1,AM.R2,Nat.reduceAdd,Nat.reduceLeDiff,Nat.reduceEqDiff,Int.reduceToNat,Nat.reduceLT,↓reduceIte,Int.reduceEq,Int.reduceLT,Int.reduceLE]
       have h9 : threes f.slots i.list = areF f.slots [(d, (chanF f.slots b).1)] := by rw [ht,threes,hone,if_pos hf']
       subst hQ
       exact ⟨(f0.trans fr).trans f3,by rw [hch,h9,if_pos hf']⟩
      ·have hf' : ¬ areF f.slots [(d, (chanF f.slots b).1)] ≠ 0 := by simpa using hf
       simp -implicitDefEqProofs (disch := first|decide|assumption|omega|(simp -implicitDefEqProofs only [AM.RN];first|done|omega)|fail) only [↓AM.R0,AM.R1,AM.R2,Nat.reduceAdd,Nat.reduceLeDiff,Nat.reduceEqDiff,Int.reduceToNat,Nat.reduceLT,↓reduceIte,Int.reduceEq,Int.reduceLT,Int.reduceLE,e0,e3,e5,hw3]
       rw [threes,hone,if_neg hf'] at ht
       exact ⟨i.list.length - (x + 1), by omega,x + 1,by omega,by omega,rfl,fr.trans f3,ht⟩
   ·simp only [decide_eq_false_iff_not] at hc
    have h9 : threes f.slots i.list = 0 := by rw [ht,List.drop_of_length_le (by omega)]; rfl
    simp -implicitDefEqProofs (disch := first|decide|assumption|omega|(simp -implicitDefEqProofs only [AM.RN];first|done|omega)|fail) only [↓AM.R0,AM.R1,AM.R2,Nat.reduceAdd,Nat.reduceLeDiff,Nat.reduceEqDiff,Int.reduceToNat,Nat.reduceLT,↓reduceIte,Int.reduceEq,Int.reduceLT,Int.reduceLE,e0,e3,gB', AM.a_buildSlice,List.range,List.range.loop,List.getD_cons_zero,Nat.mod_one]
    refine AM.callI_of (are1 C' i.a 0) ?_
    rintro r h3 ⟨f3,rfl⟩
    simp -implicitDefEqProofs (disch := first|decide|assumption|omega|(simp -implicitDefEqProofs only [AM.RN];first|done|omega)|fail) only [↓AM.R0,AM.R1,AM.R2,Nat.reduceAdd,Nat.reduceLeDiff,Nat.reduceEqDiff,Int.reduceToNat,Nat.reduceLT,↓reduceIte,Int.reduceEq,Int.reduceLT,Int.reduceLE]
    subst hQ
    exact ⟨(f0.trans fr).trans f3,by rw [hch,h9,if_neg (by simp)]⟩
set_option maxHeartbeats 4000000 in
theorem channels {h : AHeap} {c : Nat} {p : PProg} {f : PFunc} {i : PIns} (C : CkR h c p f i) (H : Hs p f.slots) (hl : i.list.length ≤ 24) {row : List AVal} (R : InsR h i row) :
  CallP AP 60 [.ptr c 0 0, .agg row] h fun r h' => HFrame h h' [] [] ∧ r = .int .i64 (channelsF f.slots i) := by
 have R0 := R
 obtain ⟨_,lw,rfl,L⟩ := R
 refine callP (rfl : Tr.get AP 60 = some A60) ?_
 generalize hQ : (fun (r : AVal) (h' : AHeap) => _) = Q
 have cl := SlIn.cellv L
 have f0 := (HFrame.refl (h := h) (F := []) (by simp)).pushTmp (.cells 0 false [.int .i64 i.op, .int .i64 i.a, .int .i64 i.b, .int .i64 i.c, .int .u64 i.imm,lw])
 simp -implicitDefEqProofs (disch := first|decide|assumption|omega|(simp -implicitDefEqProofs only [AM.RN];first|done|omega)|fail) only [AM.RGB,↓AM.R0,AM.R1,AM.R2,Nat.reduceAdd,Nat.reduceLeDiff,Nat.reduceEqDiff,Int.reduceToNat,Nat.reduceLT,↓reduceIte,Int.reduceEq,Int.reduceLT,Int.reduceLE,cl]
 have gB : (h.push (.cells 0 false [.int .i64 i.op, .int .i64 i.a, .int .i64 i.b, .int .i64 i.c, .int .u64 i.imm,lw])).get h.n = _ := AHeap.get_push_same _ _
 have hn0 : h.n < (h.push (.cells 0 false [.int .i64 i.op, .int .i64 i.a, .int .i64 i.b, .int .i64 i.c, .int .u64 i.imm,lw])).n := by simp
 generalize h.push (.cells 0 false [.int .i64 i.op, .int .i64 i.a, .int .i64 i.b, .int .i64 i.c, .int .u64 i.imm,lw]) = h1 at *
 have C1 := C.keep f0
 refine cI_or (t := 17) (s := 16) (x := i.op) (by decide) [(19,44)] (by simp -implicitDefEqProofs (disch := first|decide|assumption|omega|(simp -implicitDefEqProofs only [AM.RN];first|done|omega)|fail) only [↓AM.R0,AM.R1,AM.R2,Nat.reduceAdd,Nat.reduceLeDiff,Nat.reduceEqDiff,Int.reduceToNat,Nat.reduceLT,↓reduceIte,Int.reduceEq,Int.reduceLT,Int.reduceLE]) (by simp -implicitDefEqProofs (disch := first|decide|assumption|omega|(simp -implicitDefEqProofs only [AM.RN];first|done|omega)|fail) only [↓AM.R0,AM.R1,AM.R2,Nat.reduceAdd,Nat.reduceLeDiff,Nat.reduceEqDiff,Int.reduceToNat,Nat.reduceLT,↓reduceIte,Int.reduceEq,Int.reduceLT,Int.reduceLE]) (by decide) ?_
 intro e' ht hk
 have e0' : Env.val e' 0 = .ptr c 0 0 := (hk 0 (by decide) (by decide)).trans (by simp -implicitDefEqProofs (disch := first|decide|assumption|omega|(simp -implicitDefEqProofs only [AM.RN];first|done|omega)|fail) only [↓AM.R0,AM.R1,AM.R2,Nat.reduceAdd,Nat.reduceLeDiff,Nat.reduceEqDiff,Int.reduceToNat,Nat.reduceLT,↓reduceIte,Int.reduceEq,Int.reduceLT,Int.reduceLE])
 have e3' : Env.val e' 3 = .ptr h.n 0 0 := (hk 3 (by decide) (by decide)).trans (by simp -implicitDefEqProofs (disch := first|decide|assumption|omega|(simp -implicitDefEqProofs only [AM.RN];first|done|omega)|fail) only [↓AM.R0,AM.R1,AM.R2,Nat.reduceAdd,Nat.reduceLeDiff,Nat.reduceEqDiff,Int.reduceToNat,Nat.reduceLT,↓reduceIte,Int.reduceEq,Int.reduceLT,Int.reduceLE])
 have e5' : Env.val e' 5 = .int .i64 i.a := (hk 5 (by decide) (by decide)).trans (by simp -implicitDefEqProofs (disch := first|decide|assumption|omega|(simp -implicitDefEqProofs only [AM.RN];first|done|omega)|fail) only [↓AM.R0,AM.R1,AM.R2,Nat.reduceAdd,Nat.reduceLeDiff,Nat.reduceEqDiff,Int.reduceToNat,Nat.reduceLT,↓reduceIte,Int.reduceEq,Int.reduceLT,Int.reduceLE])
 have e6' : Env.val e' 6 = .int .i64 i.b := (hk 6 (by decide) (by decide)).trans (by simp -implicitDefEqProofs (disch := first|decide|assumption|omega|(simp -implicitDefEqProofs only [AM.RN];first|done|omega)|fail) only [↓AM.R0,AM.R1,AM.R2,Nat.reduceAdd,Nat.reduceLeDiff,Nat.reduceEqDiff,Int.reduceToNat,Nat.reduceLT,↓reduceIte,Int.reduceEq,Int.reduceLT,Int.reduceLE])
 have e16' : Env.val e' 16 = .int .i64 i.op := (hk 16 (by decide) (by decide)).trans (by simp -implicitDefEqProofs (disch := first|decide|assumption|omega|(simp -implicitDefEqProofs only [AM.RN];first|done|omega)|fail) only [↓AM.R0,AM.R1,AM.R2,Nat.reduceAdd,Nat.reduceLeDiff,Nat.reduceEqDiff,Int.reduceToNat,Nat.reduceLT,↓reduceIte,Int.reduceEq,Int.reduceLT,Int.reduceLE])
 clear hk
 try clear e0
 have e0 := e0'
 clear e0'
 try clear e3
 have e3 := e3'
 clear e3'
 try clear e5
 have e5 := e5'
 clear e5'
 try clear e6
 have e6 := e6'
 clear e6'
 try clear e16
 have e16 := e16'
 clear e16'
 simp -implicitDefEqProofs (disch := first|decide|assumption|omega|(simp -implicitDefEqProofs only [AM.RN];first|done|omega)|fail) only [↓AM.R0,AM.R1,AM.R2,Nat.reduceAdd,Nat.reduceLeDiff,Nat.reduceEqDiff,Int.reduceToNat,Nat.reduceLT,↓reduceIte,Int.reduceEq,Int.reduceLT,Int.reduceLE,ht]
 refine AM.cI_bool (fun hb => ?_) (fun hb => ?_)
 ·have m1 : orB i.op [41,44] = true := hb
  clear hb ht
  simp -implicitDefEqProofs (disch := first|decide|assumption|omega|(simp -implicitDefEqProofs only [AM.RN];first|done|omega)|fail) only [↓AM.R0,AM.R1,AM.R2,Nat.reduceAdd,Nat.reduceLeDiff,Nat.reduceEqDiff,Int.reduceToNat,Nat.reduceLT,↓reduceIte,Int.reduceEq,Int.reduceLT,Int.reduceLE,e0,e3,gB]
  refine AM.cI_bool (fun hc => ?_) (fun hc => ?_)
  ·simp -implicitDefEqProofs (disch := first|decide|assumption|omega|(simp -implicitDefEqProofs only [AM.RN];first|done|omega)|fail) only [↓AM.R0,AM.R1,AM.R2,Nat.reduceAdd,Nat.reduceLeDiff,Nat.reduceEqDiff,Int.reduceToNat,Nat.reduceLT,↓reduceIte,Int.reduceEq,Int.reduceLT,Int.reduceLE]
   simp only [decide_eq_true_eq] at hc
   subst hQ
   exact ⟨f0,by rw [channelsF,if_pos m1,if_pos (by omega)]⟩
  ·simp only [decide_eq_false_iff_not] at hc
   simp -implicitDefEqProofs (disch := first|decide|assumption|omega|(simp -implicitDefEqProofs only [AM.RN];first|done|omega)|fail) only [↓AM.R0,AM.R1,AM.R2,Nat.reduceAdd,Nat.reduceLeDiff,Nat.reduceEqDiff,Int.reduceToNat,Nat.reduceLT,↓reduceIte,Int.reduceEq,Int.reduceLT,Int.reduceLE,e0,e3,gB]
   refine AM.callI_of (channel C1 H i.a) ?_
   rintro r h2 ⟨rfl,rfl⟩
   simp -implicitDefEqProofs (disch := first|decide|assumption|omega|(simp -implicitDefEqProofs only [AM.RN];first|done|omega)|fail) only [↓AM.R0,AM.R1,AM.R2,Nat.reduceAdd,Nat.reduceLeDiff,Nat.reduceEqDiff,Int.reduceToNat,Nat.reduceLT,↓reduceIte,Int.reduceEq,Int.reduceLT,Int.reduceLE]
   subst hQ
   exact ⟨f0,by rw [channelsF,if_pos m1,if_neg (by omega)]⟩
 have m1 : orB i.op [41,44] = false := hb
 clear hb ht
 simp -implicitDefEqProofs (disch := first|decide|assumption|omega|(simp -implicitDefEqProofs only [AM.RN];first|done|omega)|fail) only [↓AM.R0,AM.R1,AM.R2,Nat.reduceAdd,Nat.reduceLeDiff,Nat.reduceEqDiff,Int.reduceToNat,Nat.reduceLT,↓reduceIte,Int.reduceEq,Int.reduceLT,Int.reduceLE,e16]
 refine AM.cI_bool (fun hop => ?_) (fun hop => ?_)
 ·have hop : i.op = 43 := by simpa using hop
  have dop : decide (i.op = 43) = true := decide_eq_true hop
  have hm : channelsF f.slots i = sendF f.slots i i.b i.a := by rw [channelsF,if_neg (by simp [m1]), if_pos hop]
  simp -implicitDefEqProofs (disch := first|decide|assumption|omega|(simp -implicitDefEqProofs only [AM.RN];first|done|omega)|fail) only [↓AM.R0,AM.R1,AM.R2,Nat.reduceAdd,Nat.reduceLeDiff,Nat.reduceEqDiff,Int.reduceToNat,Nat.reduceLT,↓reduceIte,Int.reduceEq,Int.reduceLT,Int.reduceLE,e0,e3,e5,e6,gB]
  refine AM.callI_of (channel C1 H i.b) ?_
  rintro r h2 ⟨rfl,rfl⟩
  simp -implicitDefEqProofs (disch := first|decide|assumption|omega|(simp -implicitDefEqProofs only [AM.RN];first|done|omega)|fail) only [↓AM.R0,AM.R1,AM.R2,Nat.reduceAdd,Nat.reduceLeDiff,Nat.reduceEqDiff,Int.reduceToNat,Nat.reduceLT,↓reduceIte,Int.reduceEq,Int.reduceLT,Int.reduceLE]
  refine AM.cI_bool (fun he => ?_) (fun he => ?_)
  ·simp -implicitDefEqProofs (disch := first|decide|assumption|omega|(simp -implicitDefEqProofs only [AM.RN];first|done|omega)|fail) only [↓AM.R0,AM.R1,AM.R2,Nat.reduceAdd,Nat.reduceLeDiff,Nat.reduceEqDiff,Int.reduceToNat,Nat.reduceLT,↓reduceIte,Int.reduceEq,Int.reduceLT,Int.reduceLE]
   have he' : (chanF f.slots i.b).2 ≠ 0 := by simpa using he
   subst hQ
   exact ⟨f0,by rw [hm,sendF,if_pos he']⟩
  ·have he' : ¬ (chanF f.slots i.b).2 ≠ 0 := by simpa using he
   simp -implicitDefEqProofs (disch := first|decide|assumption|omega|(simp -implicitDefEqProofs only [AM.RN];first|done|omega)|fail) only [↓AM.R0,AM.R1,AM.R2,Nat.reduceAdd,Nat.reduceLeDiff,Nat.reduceEqDiff,Int.reduceToNat,Nat.reduceLT,↓reduceIte,Int.reduceEq,Int.reduceLT,Int.reduceLE,e0,e3,e6,gB,dop,AM.a_buildSlice,List.range,List.range.loop,List.getD_cons_zero,Nat.mod_one]
   refine AM.callI_of (are2 C1 i.a (chanF f.slots i.b).1 i.c 0) ?_
   rintro r h3 ⟨f3,rfl⟩
   simp -implicitDefEqProofs (disch := first|decide|assumption|omega|(simp -implicitDefEqProofs only [AM.RN];first|done|omega)|fail) only [↓AM.R0,AM.R1,AM.R2,Nat.reduceAdd,Nat.reduceLeDiff,Nat.reduceEqDiff,Int.reduceToNat,Nat.reduceLT,↓reduceIte,Int.reduceEq,Int.reduceLT,Int.reduceLE]
   subst hQ
   exact ⟨f0.trans f3,by rw [hm,sendF,if_neg he', if_pos hop]⟩
 ·have hop : ¬ i.op = 43 := by simpa using hop
  have dop : decide (i.op = 43) = false := decide_eq_false hop
  simp -implicitDefEqProofs (disch := first|decide|assumption|omega|(simp -implicitDefEqProofs only [AM.RN];first|done|omega)|fail) only [↓AM.R0,AM.R1,AM.R2,Nat.reduceAdd,Nat.reduceLeDiff,Nat.reduceEqDiff,Int.reduceToNat,Nat.reduceLT,↓reduceIte,Int.reduceEq,Int.reduceLT,Int.reduceLE,e16]
  refine AM.cI_bool (fun hop2 => ?_) (fun hop2 => ?_)
  ·have hop2 : i.op = 45 := by simpa using hop2
   have hm : channelsF f.slots i = chooseF f.slots i := by rw [channelsF,if_neg (by simp [m1]), if_neg hop,if_pos hop2]
   simp -implicitDefEqProofs (disch := first|decide|assumption|omega|(simp -implicitDefEqProofs only [AM.RN];first|done|omega)|fail) only [↓AM.R0,AM.R1,AM.R2,Nat.reduceAdd,Nat.reduceLeDiff,Nat.reduceEqDiff,Int.reduceToNat,Nat.reduceLT,↓reduceIte,Int.reduceEq,Int.reduceLT,Int.reduceLE,e0,e3,gB]
   refine AM.callI_of (choose C1 H hl (R0.keep f0)) ?_
   rintro r h2 ⟨f2,rfl⟩
   simp -implicitDefEqProofs (disch := first|decide|assumption|omega|(simp -implicitDefEqProofs only [AM.RN];first|done|omega)|fail) only [↓AM.R0,AM.R1,AM.R2,Nat.reduceAdd,Nat.reduceLeDiff,Nat.reduceEqDiff,Int.reduceToNat,Nat.reduceLT,↓reduceIte,Int.reduceEq,Int.reduceLT,Int.reduceLE]
   subst hQ
   exact ⟨f0.trans f2,by rw [hm]⟩
  ·have hop2 : ¬ i.op = 45 := by simpa using hop2
   have hm : channelsF f.slots i = sendF f.slots i i.a i.b := by rw [channelsF,if_neg (by simp [m1]), if_neg hop,if_neg hop2]
   simp -implicitDefEqProofs (disch := first|decide|assumption|omega|(simp -implicitDefEqProofs only [AM.RN];first|done|omega)|fail) only [↓AM.R0,AM.R1,AM.R2,Nat.reduceAdd,Nat.reduceLeDiff,Nat.reduceEqDiff,Int.reduceToNat,Nat.reduceLT,↓reduceIte,Int.reduceEq,Int.reduceLT,Int.reduceLE,e0,e3,e5,e6,gB]
   refine AM.callI_of (channel C1 H i.a) ?_
   rintro r h2 ⟨rfl,rfl⟩
   simp -implicitDefEqProofs (disch := first|decide|assumption|omega|(simp -implicitDefEqProofs only [AM.RN];first|done|omega)|fail) only [↓AM.R0,AM.R1,AM.R2,Nat.reduceAdd,Nat.reduceLeDiff,Nat.reduceEqDiff,Int.reduceToNat,Nat.reduceLT,↓reduceIte,Int.reduceEq,Int.reduceLT,Int.reduceLE]
   refine AM.cI_bool (fun he => ?_) (fun he => ?_)
   ·simp -implicitDefEqProofs (disch := first|decide|assumption|omega|(simp -implicitDefEqProofs only [AM.RN];first|done|omega)|fail) only [↓AM.R0,AM.R1,AM.R2,Nat.reduceAdd,Nat.reduceLeDiff,Nat.reduceEqDiff,Int.reduceToNat,Nat.reduceLT,↓reduceIte,Int.reduceEq,Int.reduceLT,Int.reduceLE]
    have he' : (chanF f.slots i.a).2 ≠ 0 := by simpa using he
    subst hQ
    exact ⟨f0,by rw [hm,sendF,if_pos he']⟩
   ·have he' : ¬ (chanF f.slots i.a).2 ≠ 0 := by simpa using he
    simp -implicitDefEqProofs (disch := first|decide|assumption|omega|(simp -implicitDefEqProofs only [AM.RN];first|done|omega)|fail) only [↓AM.R0,AM.R1,AM.R2,Nat.reduceAdd,Nat.reduceLeDiff,Nat.reduceEqDiff,Int.reduceToNat,Nat.reduceLT,↓reduceIte,Int.reduceEq,Int.reduceLT,Int.reduceLE,e0,e3,e6,gB,dop,AM.a_buildSlice,List.range,List.range.loop,List.getD_cons_zero,Nat.mod_one]
    refine AM.callI_of (are1 C1 i.b (chanF f.slots i.a).1) ?_
    rintro r h3 ⟨f3,rfl⟩
    simp -implicitDefEqProofs (disch := first|decide|assumption|omega|(simp -implicitDefEqProofs only [AM.RN];first|done|omega)|fail) only [↓AM.R0,AM.R1,AM.R2,Nat.reduceAdd,Nat.reduceLeDiff,Nat.reduceEqDiff,Int.reduceToNat,Nat.reduceLT,↓reduceIte,Int.reduceEq,Int.reduceLT,Int.reduceLE]
    subst hQ
    exact ⟨f0.trans f3,by rw [hm,sendF,if_neg he', if_neg hop]⟩
end Go.Proofs.Ytofcnjglnnoimaa.Vf
