/-
 What the functions of this seat do,on the machine: lemmas for the laws.
-/
import Derived.Test.YtofcnjglnnoimaaVkX5
import Derived.Test.YtofcnjglnnoimaaVkX7
namespace Go.Proofs.Ytofcnjglnnoimaa.Vf
open Go Go.AM Go.Proofs.Ytofcnjglnnoimaa.AmGY
attribute [local irreducible] AM.wp AM.wpIs AM.wpTr AM.opI AM.gI AM.cI AM.trI AM.callI AM.fnI AM.trG AM.trOp AM.trCall AM.seqC AM.loopI
set_option maxRecDepth 100000
set_option linter.unusedVariables false
set_option linter.unusedSimpArgs false
/-- A writer: its bytes,and the first fault. -/
def WAt (h : AHeap) (w : Nat) (out : List Int) (e : Int) (F : List Nat) : Prop :=
 ∃ ov Fo,h.get w = .cells 0 false [ov, .int .i64 e] ∧ w < h.n ∧ SlOf h 1 encB ov out Fo ∧ w ∉ Fo ∧ F = w :: Fo
theorem WAt.lt {h : AHeap} {w : Nat} {out : List Int} {e : Int} {F : List Nat} (H : WAt h w out e F) : ∀ j,j ∈ F → j < h.n := by
 obtain ⟨ov,Fo,_,h1,h2,_,rfl⟩ := H
 intro j hj
 rcases List.mem_cons.1 hj with e | e
 ·rw [e]; exact h1
 ·exact h2.lt j e
theorem WAt.frame {h h' : AHeap} {w : Nat} {out : List Int} {e : Int} {F : List Nat} (H : WAt h w out e F) (hn : h.n ≤ h'.n) (k : ∀ j,j ∈ F → h'.get j = h.get j) : WAt h' w out e F := by
 obtain ⟨ov,Fo,h0,h1,h2,h3,rfl⟩ := H
 exact ⟨ov,Fo, (k w List.mem_cons_self).trans h0,Nat.lt_of_lt_of_le h1 hn,h2.frame hn fun j hj => k j (List.mem_cons_of_mem _ hj), h3,rfl⟩
/-- A number,seven bits a byte,the last one below 128. -/
def wordB (n : Nat) : List Int := if 127 < n then ((n % 256 ||| 128 : Nat) : Int) :: wordB (n / 128) else [(n : Int)]
termination_by n
decreasing_by omega
/-- The bytes grow by one. -/
theorem WAt.put {h h' : AHeap} {w : Nat} {out l' : List Int} {e : Int} {ov ov' : AVal} {Fo Fo' : List Nat} (ho : h.get w = .cells 0 false [ov, .int .i64 e]) (hlt : w < h.n) (hw : w ∉ Fo) (hs : SlOf h 1 encB ov out Fo)
  (f : HFrame h h' Fo Fo') (q : SlOf h' 1 encB ov' l' Fo') : HFrame h (h'.set w (.cells 0 false [ov', .int .i64 e])) (w :: Fo) (w :: Fo') ∧ WAt (h'.set w (.cells 0 false [ov', .int .i64 e])) w l' e (w :: Fo') := by
 have hw' : w ∉ Fo' := f.out hw hlt
 have hl : ∀ j,j ∈ w :: Fo → j < h.n := fun j hj => by
  rcases List.mem_cons.1 hj with e | e
  ·rw [e]; exact hlt
  ·exact hs.lt j e
 have f1 : HFrame h h' (w :: Fo) (w :: Fo') := f.wide (fun j hj => List.mem_cons_of_mem _ hj) (fun j hj => by
  rcases List.mem_cons.1 hj with e | e
  ·exact .inr (by rw [e]; exact List.mem_cons_self)
  ·exact .inl e) hl
 exact ⟨f1.trans (HFrame.set h' w _ List.mem_cons_self f1.lt), ov', Fo', AHeap.get_set_same _ _ _,Nat.lt_of_lt_of_le hlt f.n,q.set hw' _,hw', rfl⟩
/-- What a writer holds: the bytes,the first fault. -/
abbrev WS := List Int × Int
def wfail (s : WS) (c : Int) : WS := (s.1,if s.2 = 0 then c else s.2)
def wword (s : WS) (n : Nat) : WS := (s.1 ++ wordB n,s.2)
def wnum (s : WS) (n : Int) : WS := if n < 0 ∨ 65535 < n then wfail s 1 else wword s n.toNat
def wcount (s : WS) (n limit : Int) : WS := wnum (if limit < n then wfail s 16 else s) (min n 65535)
def wkinds (s : WS) (l : List Int) (limit : Int) : WS := l.foldl wnum (wcount s l.length limit)
theorem wordB_len : ∀ (k n : Nat), n < 128 ^ (k + 1) → (wordB n).length ≤ k + 1
 | 0,n,h => by rw [wordB,if_neg (by omega)]; simp
 | k + 1,n,h => by
  rw [wordB]
  by_cases hn : 127 < n
  ·rw [if_pos hn]
   have := wordB_len k (n / 128) (Nat.div_lt_of_lt_mul (by rw [Nat.mul_comm, ← Nat.pow_succ]; exact h))
   simp only [List.length_cons]; omega
  ·rw [if_neg hn]; simp
def wins (s : WS) (op a b c : Int) (imm : Nat) (l : List Int) : WS := l.foldl wnum (wcount (wword ([op,a,b,c].foldl wnum s) imm) l.length 24)
def wtype (s : WS) (t : Bool × List Int) : WS := wkinds (wnum s (if t.1 then 1 else 0)) t.2 16
def winsP (s : WS) (i : PIns) : WS := wins s i.op i.a i.b i.c i.imm i.list
def wfunc (s : WS) (f : PFunc) : WS := f.code.foldl winsP (wcount (wkinds (wkinds (wnum s f.params) f.slots 32) f.results 32) f.code.length 256)
def wprog (p : PProg) : WS := p.funcs.foldl wfunc (wcount (wkinds (p.types.foldl wtype (wcount ([],0) p.types.length 32)) p.globals 32) p.funcs.length 32)
theorem WAt.tmp {h : AHeap} {w : Nat} {out : List Int} {e : Int} {F : List Nat} (H : WAt h w out e F) (o o' : AObj) : WAt ((h.push o).set h.n o') w out e F :=
 H.frame (by simp) fun j hj => by have := H.lt j hj; rw [AHeap.get_set_ne _ _ (by omega), AHeap.get_push_ne _ _ (by omega)]
def hdf (s : WS) (f : PFunc) : WS := wcount (wkinds (wkinds (wnum s f.params) f.slots 32) f.results 32) f.code.length 256
theorem or128 : ∀ m : Nat,m < 256 → m ||| 128 = m % 128 + 128 := by decide
theorem wordB_step {m : Nat} (h : 127 < m) : wordB m = ((m % 128 + 128 : Nat) : Int) :: wordB (m / 128) := by
 rw [wordB,if_pos h,or128 _ (Nat.mod_lt _ (by omega)), show m % 256 % 128 = m % 128 by omega]
/-- The document's Word. -/
theorem refWord (h : AHeap) (n : Nat) (hn : n ≤ 18446744073709551615) : CallP AP 67 [.int .u64 n] h fun r h' => ∃ Fl,SlOf h' 1 encB r (wordB n) Fl ∧ HFrame h h' [] Fl := by
 refine callP (rfl : Tr.get AP 67 = some A67) ?_
 generalize hQ : (fun (r : AVal) (h' : AHeap) => _) = Q
 simp -implicitDefEqProofs (disch := first|decide|assumption|omega|(simp -implicitDefEqProofs only [AM.RN];first|done|omega)|fail) only [↓AM.R0,AM.R1,AM.R2,Nat.reduceAdd,Nat.reduceLeDiff,Nat.reduceEqDiff,Int.reduceToNat,Nat.reduceLT,↓reduceIte,Int.reduceEq,Int.reduceLT,Int.reduceLE]
 refine AM.loopI_of (fun k e h' => ∃ (m d : Nat) (o : List Int) (rv : AVal) (F' : List Nat), m ≤ n ∧ k = m ∧ e.val 0 = .int .u64 m ∧ e.val 3 = rv ∧ wordB n = o ++ wordB m ∧ o.length = d ∧ d ≤ 10 ∧ m < 128 ^ (10 - d) ∧ SlOf h' 1 encB rv o F' ∧ HFrame h h' [] F') n ?_ ?_
 ·refine ⟨n,0, [], .nils, [],Nat.le_refl _,rfl, ?_, ?_,rfl,rfl,by omega, ?_,SlOf.nil,HFrame.refl (by simp)⟩
  ·simp -implicitDefEqProofs (disch := first|decide|assumption|omega|(simp -implicitDefEqProofs only [AM.RN];first|done|omega)|fail) only [↓AM.R0,AM.R1,AM.R2,Nat.reduceAdd,Nat.reduceLeDiff,Nat.reduceEqDiff,Int.reduceToNat,Nat.reduceLT,↓reduceIte,Int.reduceEq,Int.reduceLT,Int.reduceLE]
  ·simp -implicitDefEqProofs (disch := first|decide|assumption|omega|(simp -implicitDefEqProofs only [AM.RN];first|done|omega)|fail) only [↓AM.R0,AM.R1,AM.R2,Nat.reduceAdd,Nat.reduceLeDiff,Nat.reduceEqDiff,Int.reduceToNat,Nat.reduceLT,↓reduceIte,Int.reduceEq,Int.reduceLT,Int.reduceLE]
  ·have : (128 : Nat) ^ (10 - 0) = 1180591620717411303424 := by decide
   omega
 ·rintro k e h' ⟨m,d,o,rv,F', hm,hk,e0,e3,heq,hod,hd,hpow,hs,f⟩
  simp -implicitDefEqProofs (disch := first|decide|assumption|omega|(simp -implicitDefEqProofs only [AM.RN];first|done|omega)|fail) only [↓AM.R0,AM.R1,AM.R2,Nat.reduceAdd,Nat.reduceLeDiff,Nat.reduceEqDiff,Int.reduceToNat,Nat.reduceLT,↓reduceIte,Int.reduceEq,Int.reduceLT,Int.reduceLE,e0,e3]
  have t1 : (m : Int).tmod 128 = ((m % 128 : Nat) : Int) := rfl
  have t2 : (m : Int).tdiv 128 = ((m / 128 : Nat) : Int) := rfl
  refine AM.cI_bool (fun hb => ?_) (fun hb => ?_)
  ·simp only [decide_eq_true_eq] at hb
   have hm127 : 127 < m := by omega
   have w1 : IntKind.u64.wrap (((m % 128 : Nat) : Int) + 128) = ((m % 128 + 128 : Nat) : Int) := by rw [wrapU64 (by omega) (by omega)]; omega
   have w2 : IntKind.u8.wrap ((m % 128 + 128 : Nat) : Int) = ((m % 128 + 128 : Nat) : Int) := by rw [wrap_eq]; simp only; omega
   have w3 : IntKind.u64.wrap ((m / 128 : Nat) : Int) = ((m / 128 : Nat) : Int) := wrapU64 (by omega) (by omega)
   have hdl : ∃ q,10 - d = q + 1 := ⟨10 - d - 1,by
    have : 10 - d ≠ 0 := by intro h0; rw [h0] at hpow; simp at hpow; omega
    omega⟩
   obtain ⟨q,hq⟩ := hdl
   simp -implicitDefEqProofs (disch := first|decide|assumption|omega|(simp -implicitDefEqProofs only [AM.RN];first|done|omega)|fail) only [↓AM.R0,AM.R1,AM.R2,Nat.reduceAdd,Nat.reduceLeDiff,Nat.reduceEqDiff,Int.reduceToNat,Nat.reduceLT,↓reduceIte,Int.reduceEq,Int.reduceLT,Int.reduceLE,e0,e3,t1,t2,w1,w2]
   refine AM.opI_of (hs.app1 (fun _ => rfl) (fun _ => rfl) (by omega) ((m % 128 + 128 : Nat) : Int) fun v' h'' F'' s'' f'' => ?_)
   simp -implicitDefEqProofs (disch := first|decide|assumption|omega|(simp -implicitDefEqProofs only [AM.RN];first|done|omega)|fail) only [↓AM.R0,AM.R1,AM.R2,Nat.reduceAdd,Nat.reduceLeDiff,Nat.reduceEqDiff,Int.reduceToNat,Nat.reduceLT,↓reduceIte,Int.reduceEq,Int.reduceLT,Int.reduceLE,e0,e3,t1,t2,w3]
   refine ⟨m / 128,by omega,m / 128,d + 1,o ++ [((m % 128 + 128 : Nat) : Int)],v', F'', by omega,rfl,rfl,rfl, ?_,by simp [hod],by omega, ?_,s'', f.trans f''⟩
   ·rw [heq,wordB_step hm127,List.append_assoc]; rfl
   ·rw [show 10 - (d + 1) = q by omega]
    rw [hq,Nat.pow_succ] at hpow
    exact Nat.div_lt_of_lt_mul (by rw [Nat.mul_comm]; exact hpow)
  ·simp only [decide_eq_false_iff_not] at hb
   have w1 : IntKind.u8.wrap (m : Int) = (m : Int) := by rw [wrap_eq]; simp only; omega
   simp -implicitDefEqProofs (disch := first|decide|assumption|omega|(simp -implicitDefEqProofs only [AM.RN];first|done|omega)|fail) only [↓AM.R0,AM.R1,AM.R2,Nat.reduceAdd,Nat.reduceLeDiff,Nat.reduceEqDiff,Int.reduceToNat,Nat.reduceLT,↓reduceIte,Int.reduceEq,Int.reduceLT,Int.reduceLE,e0,e3,w1]
   refine AM.opI_of (hs.app1 (fun _ => rfl) (fun _ => rfl) (by omega) (m : Int) fun v' h'' F'' s'' f'' => ?_)
   simp -implicitDefEqProofs (disch := first|decide|assumption|omega|(simp -implicitDefEqProofs only [AM.RN];first|done|omega)|fail) only [↓AM.R0,AM.R1,AM.R2,Nat.reduceAdd,Nat.reduceLeDiff,Nat.reduceEqDiff,Int.reduceToNat,Nat.reduceLT,↓reduceIte,Int.reduceEq,Int.reduceLT,Int.reduceLE]
   subst hQ
   rw [show wordB n = o ++ [(m : Int)] by rw [heq,wordB,if_neg (by omega)]]
   exact ⟨F'', s'', f.trans f''⟩
theorem wordB_len10 {n : Nat} (h : n ≤ 18446744073709551615) : (wordB n).length ≤ 10 := by
 have h1 : (128 : Nat) ^ (9 + 1) = 1180591620717411303424 := by decide
 exact wordB_len 9 n (by omega)
/-- The document's writer: its bytes count as long as there is no fault. -/
def RAt (h : AHeap) (w : Nat) (s : WS) (B : Nat) (F : List Nat) : Prop := ∃ out,WAt h w out s.2 F ∧ (s.2 = 0 → out = s.1) ∧ out.length ≤ B
theorem refNumber {h : AHeap} {w : Nat} {s : WS} {B : Nat} {F : List Nat} (H : RAt h w s B F) (n : Int) (hn : n ≤ 9223372036854775807) (hr : B < 1073741824) :
  CallP AP 39 [.ptr w 0 0, .int .i64 n] h fun r h' => ∃ F', HFrame h h' F F' ∧ RAt h' w (wnum s n) (B + 10) F' := by
 obtain ⟨s1,e⟩ := s
 obtain ⟨out,H,hout,hB⟩ := H
 have hl := H.lt
 refine callP (rfl : Tr.get AP 39 = some A39) ?_
 generalize hQ : (fun (r : AVal) (h' : AHeap) => _) = Q
 simp only at H hout
 obtain ⟨ov,Fo,ho,hlt,hs,hw,rfl⟩ := H
 have key : ∀ (e' : Int), HFrame h (h.set w (.cells 0 false [ov, .int .i64 e'])) (w :: Fo) (w :: Fo) := fun e' => HFrame.set h w _ List.mem_cons_self hl
 have w2 : (wnum (s1,e) n).2 = if n < 0 ∨ 65535 < n then (if e = 0 then 1 else e) else e := by unfold wnum; split <;> rfl
 have w1 : ¬ (n < 0 ∨ 65535 < n) → (wnum (s1,e) n).1 = s1 ++ wordB n.toNat := fun hh => by unfold wnum; rw [if_neg hh]; rfl
 refine AM.wp_cut (fun en hB => en.val 0 = .ptr w 0 0 ∧ en.val 1 = .int .i64 n ∧ HFrame h hB (w :: Fo) (w :: Fo) ∧ SlOf hB 1 encB ov out Fo ∧ hB.n = h.n ∧ hB.get w = .cells 0 false [ov, .int .i64 (wnum (s1,e) n).2]) ?_ ?_
 ·simp -implicitDefEqProofs (disch := first|decide|assumption|omega|(simp -implicitDefEqProofs only [AM.RN];first|done|omega)|fail) only [↓AM.R0,AM.R1,AM.R2,Nat.reduceAdd,Nat.reduceLeDiff,Nat.reduceEqDiff,Int.reduceToNat,Nat.reduceLT,↓reduceIte,Int.reduceEq,Int.reduceLT,Int.reduceLE]
  refine AM.gI_bool (fun hb => ?_) (fun hb => ?_)
  ·simp only [decide_eq_true_eq] at hb
   simp -implicitDefEqProofs (disch := first|decide|assumption|omega|(simp -implicitDefEqProofs only [AM.RN];first|done|omega)|fail) only [↓AM.R0,AM.R1,AM.R2,Nat.reduceAdd,Nat.reduceLeDiff,Nat.reduceEqDiff,Int.reduceToNat,Nat.reduceLT,↓reduceIte,Int.reduceEq,Int.reduceLT,Int.reduceLE,ho,hb]
   refine AM.cI_bool (fun hc => ?_) (fun hc => ?_)
   ·simp only [decide_eq_true_eq] at hc
    simp -implicitDefEqProofs (disch := first|decide|assumption|omega|(simp -implicitDefEqProofs only [AM.RN];first|done|omega)|fail) only [↓AM.R0,AM.R1,AM.R2,Nat.reduceAdd,Nat.reduceLeDiff,Nat.reduceEqDiff,Int.reduceToNat,Nat.reduceLT,↓reduceIte,Int.reduceEq,Int.reduceLT,Int.reduceLE,ho]
    exact ⟨key 1,hs.set hw _,by rw [w2,if_pos (.inl hb), if_pos hc]⟩
   ·simp only [decide_eq_false_iff_not] at hc
    simp -implicitDefEqProofs (disch := first|decide|assumption|omega|(simp -implicitDefEqProofs only [AM.RN];first|done|omega)|fail) only [↓AM.R0,AM.R1,AM.R2,Nat.reduceAdd,Nat.reduceLeDiff,Nat.reduceEqDiff,Int.reduceToNat,Nat.reduceLT,↓reduceIte,Int.reduceEq,Int.reduceLT,Int.reduceLE,ho]
    exact ⟨HFrame.refl hl,hs,by rw [w2,if_pos (.inl hb), if_neg hc]⟩
  ·simp only [decide_eq_false_iff_not] at hb
   simp -implicitDefEqProofs (disch := first|decide|assumption|omega|(simp -implicitDefEqProofs only [AM.RN];first|done|omega)|fail) only [↓AM.R0,AM.R1,AM.R2,Nat.reduceAdd,Nat.reduceLeDiff,Nat.reduceEqDiff,Int.reduceToNat,Nat.reduceLT,↓reduceIte,Int.reduceEq,Int.reduceLT,Int.reduceLE,ho,hb]
   refine AM.gI_bool (fun hb2 => ?_) (fun hb2 => ?_)
   ·simp -implicitDefEqProofs (disch := first|decide|assumption|omega|(simp -implicitDefEqProofs only [AM.RN];first|done|omega)|fail) only [↓AM.R0,AM.R1,AM.R2,Nat.reduceAdd,Nat.reduceLeDiff,Nat.reduceEqDiff,Int.reduceToNat,Nat.reduceLT,↓reduceIte,Int.reduceEq,Int.reduceLT,Int.reduceLE,ho,hb2]
    simp only [decide_eq_true_eq] at hb2
    refine AM.cI_bool (fun hc => ?_) (fun hc => ?_)
    ·simp only [decide_eq_true_eq] at hc
     simp -implicitDefEqProofs (disch := first|decide|assumption|omega|(simp -implicitDefEqProofs only [AM.RN];first|done|omega)|fail) only [↓AM.R0,AM.R1,AM.R2,Nat.reduceAdd,Nat.reduceLeDiff,Nat.reduceEqDiff,Int.reduceToNat,Nat.reduceLT,↓reduceIte,Int.reduceEq,Int.reduceLT,Int.reduceLE,ho]
     exact ⟨key 1,hs.set hw _,by rw [w2,if_pos (.inr hb2), if_pos hc]⟩
    ·simp only [decide_eq_false_iff_not] at hc
     simp -implicitDefEqProofs (disch := first|decide|assumption|omega|(simp -implicitDefEqProofs only [AM.RN];first|done|omega)|fail) only [↓AM.R0,AM.R1,AM.R2,Nat.reduceAdd,Nat.reduceLeDiff,Nat.reduceEqDiff,Int.reduceToNat,Nat.reduceLT,↓reduceIte,Int.reduceEq,Int.reduceLT,Int.reduceLE,ho]
     exact ⟨HFrame.refl hl,hs,by rw [w2,if_pos (.inr hb2), if_neg hc]⟩
   ·simp -implicitDefEqProofs (disch := first|decide|assumption|omega|(simp -implicitDefEqProofs only [AM.RN];first|done|omega)|fail) only [↓AM.R0,AM.R1,AM.R2,Nat.reduceAdd,Nat.reduceLeDiff,Nat.reduceEqDiff,Int.reduceToNat,Nat.reduceLT,↓reduceIte,Int.reduceEq,Int.reduceLT,Int.reduceLE,ho,hb2]
    simp only [decide_eq_false_iff_not] at hb2
    exact ⟨HFrame.refl hl,hs,by rw [w2,if_neg (by omega)]⟩
 ·rintro en hB ⟨v0,v1,fB,hsB,hnB,hoB⟩
  have hltB : w < hB.n := by omega
  have bo := hsB.beq
  simp -implicitDefEqProofs (disch := first|decide|assumption|omega|(simp -implicitDefEqProofs only [AM.RN];first|done|omega)|fail) only [↓AM.R0,AM.R1,AM.R2,Nat.reduceAdd,Nat.reduceLeDiff,Nat.reduceEqDiff,Int.reduceToNat,Nat.reduceLT,↓reduceIte,Int.reduceEq,Int.reduceLT,Int.reduceLE,v0,v1]
  refine AM.cI_bool (fun hb => ?_) (fun hb => ?_)
  ·simp only [decide_eq_true_eq] at hb
   have hwn : IntKind.u64.wrap n = ((n.toNat : Nat) : Int) := by rw [wrapU64 (by omega) (by omega)]; omega
   simp -implicitDefEqProofs (disch := first|decide|assumption|omega|(simp -implicitDefEqProofs only [AM.RN];first|done|omega)|fail) only [↓AM.R0,AM.R1,AM.R2,Nat.reduceAdd,Nat.reduceLeDiff,Nat.reduceEqDiff,Int.reduceToNat,Nat.reduceLT,↓reduceIte,Int.reduceEq,Int.reduceLT,Int.reduceLE,v0,v1,hoB,hwn]
   refine AM.trCall_of (refWord hB n.toNat (by omega)) ?_
   rintro r h2 ⟨Fl,s2,f2⟩
   have ho2 : h2.get w = _ := (f2.get w hltB (by simp)).trans hoB
   have hlt2 : w < h2.n := Nat.lt_of_lt_of_le hltB f2.n
   have hs2 := hsB.frame f2.n fun j hj => f2.get j (hsB.lt j hj) (by simp)
   have h10 := wordB_len10 (n := n.toNat) (by omega)
   simp -implicitDefEqProofs (disch := first|decide|assumption|omega|(simp -implicitDefEqProofs only [AM.RN];first|done|omega)|fail) only [↓AM.R0,AM.R1,AM.R2,Nat.reduceAdd,Nat.reduceLeDiff,Nat.reduceEqDiff,Int.reduceToNat,Nat.reduceLT,↓reduceIte,Int.reduceEq,Int.reduceLT,Int.reduceLE,v0,v1,ho2]
   refine AM.trOp_of (hs2.app s2.rd (fun _ => rfl) (fun _ => rfl) (by omega) fun v' h3 F3 s3 f3 => ?_)
   have ho3 : h3.get w = _ := (f3.get w hlt2 hw).trans ho2
   have hlt3 : w < h3.n := Nat.lt_of_lt_of_le hlt2 f3.n
   obtain ⟨d1,d2⟩ := s3.rd.cells
   have key := WAt.put ho2 hlt2 hw hs2 f3 s3
   simp -implicitDefEqProofs (disch := first|decide|assumption|omega|(simp -implicitDefEqProofs only [AM.RN];first|done|omega)|fail) only [↓AM.R0,AM.R1,AM.R2,Nat.reduceAdd,Nat.reduceLeDiff,Nat.reduceEqDiff,Int.reduceToNat,Nat.reduceLT,↓reduceIte,Int.reduceEq,Int.reduceLT,Int.reduceLE,v0,ho3,ho2,hoB,bo,d1,d2]
   subst hQ
   refine ⟨_, (fB.trans (f2.wide (G := w :: Fo) (G' := w :: Fo) (by simp) (fun j hj => .inr hj) (fun j hj => by rw [hnB]; exact hl j hj))).trans key.1,_,key.2,fun he => ?_, ?_⟩
   ·simp only [w2] at he
    by_cases hh : n < 0 ∨ 65535 < n
    ·rw [if_pos hh] at he
     exfalso
     split at he <;> omega
    ·rw [if_neg hh] at he
     rw [w1 hh,hout he]
   ·simp only [List.length_append]; omega
  ·simp only [decide_eq_false_iff_not] at hb
   simp -implicitDefEqProofs (disch := first|decide|assumption|omega|(simp -implicitDefEqProofs only [AM.RN];first|done|omega)|fail) only [↓AM.R0,AM.R1,AM.R2,Nat.reduceAdd,Nat.reduceLeDiff,Nat.reduceEqDiff,Int.reduceToNat,Nat.reduceLT,↓reduceIte,Int.reduceEq,Int.reduceLT,Int.reduceLE]
   subst hQ
   refine ⟨_,fB,_, ⟨ov,Fo,hoB,hltB,hsB,hw,rfl⟩, fun he => ?_,by omega⟩
   simp only [w2] at he
   rw [if_pos (.inl (by omega))] at he
   exfalso
   split at he <;> omega
theorem refCount {h : AHeap} {w : Nat} {s : WS} {B : Nat} {F : List Nat} (H : RAt h w s B F) (n limit : Int) (h0 : 0 ≤ n) (hlim : limit ≤ 65535) (hn : n ≤ 9223372036854775807) (hr : B < 1073741824) :
  CallP AP 38 [.ptr w 0 0, .int .i64 n, .int .i64 limit] h fun r h' => ∃ F', HFrame h h' F F' ∧ RAt h' w (wcount s n limit) (B + 10) F' := by
 refine callP (rfl : Tr.get AP 38 = some A38) ?_
 generalize hQ : (fun (r : AVal) (h' : AHeap) => _) = Q
 have H' := H
 obtain ⟨s1,e⟩ := s
 obtain ⟨out,H,hout,hB⟩ := H
 have hl := H.lt
 simp only at H hout
 obtain ⟨ov,Fo,ho,hlt,hs,hw,rfl⟩ := H
 have key : ∀ (hA : AHeap) (s' : WS), s' = (if limit < n then wfail (s1,e) 16 else (s1,e)) → HFrame h hA (w :: Fo) (w :: Fo) → RAt hA w s' B (w :: Fo) →
   CallP AP 39 [.ptr w 0 0, .int .i64 n] hA fun r h' => ∃ F', HFrame h h' (w :: Fo) F' ∧ RAt h' w (wcount (s1,e) n limit) (B + 10) F' := by
  intro hA s' hs' fA HA
  subst hs'
  refine (refNumber HA n hn hr).mono ?_
  rintro r h' ⟨F', f,q⟩
  refine ⟨F', fA.trans f, ?_⟩
  unfold wcount
  by_cases hle : n ≤ 65535
  ·rw [Int.min_eq_left hle]; exact q
  ·rw [if_pos (by omega)] at q ⊢
   obtain ⟨o2,q1,q2,q3⟩ := q
   have e1 : (wnum (wfail (s1,e) 16) n).2 = (wfail (s1,e) 16).2 := by
    unfold wnum; rw [if_pos (.inr (by omega))]
    unfold wfail; simp only; split <;> simp_all
   have e2 : (wnum (wfail (s1,e) 16) (min n 65535)).2 = (wfail (s1,e) 16).2 := by
    unfold wnum; rw [if_neg (by omega)]; rfl
   have e3 : (wfail (s1,e) 16).2 ≠ 0 := by unfold wfail; simp only; split <;> simp_all
   exact ⟨o2,by rw [e2, ← e1]; exact q1,fun hz => absurd (e2 ▸ hz) e3,q3⟩
 simp -implicitDefEqProofs (disch := first|decide|assumption|omega|(simp -implicitDefEqProofs only [AM.RN];first|done|omega)|fail) only [↓AM.R0,AM.R1,AM.R2,Nat.reduceAdd,Nat.reduceLeDiff,Nat.reduceEqDiff,Int.reduceToNat,Nat.reduceLT,↓reduceIte,Int.reduceEq,Int.reduceLT,Int.reduceLE,ho]
 refine AM.gI_bool (fun hb => ?_) (fun hb => ?_)
 ·simp -implicitDefEqProofs (disch := first|decide|assumption|omega|(simp -implicitDefEqProofs only [AM.RN];first|done|omega)|fail) only [↓AM.R0,AM.R1,AM.R2,Nat.reduceAdd,Nat.reduceLeDiff,Nat.reduceEqDiff,Int.reduceToNat,Nat.reduceLT,↓reduceIte,Int.reduceEq,Int.reduceLT,Int.reduceLE,ho,hb]
  simp only [decide_eq_true_eq] at hb
  refine AM.cI_bool (fun hc => ?_) (fun hc => ?_)
  ·simp only [decide_eq_true_eq] at hc
   simp -implicitDefEqProofs (disch := first|decide|assumption|omega|(simp -implicitDefEqProofs only [AM.RN];first|done|omega)|fail) only [↓AM.R0,AM.R1,AM.R2,Nat.reduceAdd,Nat.reduceLeDiff,Nat.reduceEqDiff,Int.reduceToNat,Nat.reduceLT,↓reduceIte,Int.reduceEq,Int.reduceLT,Int.reduceLE,ho]
   refine AM.callI_of (key _ (s1,16) (by rw [if_pos hb]; unfold wfail; simp only; rw [if_pos hc]) (HFrame.set h w _ List.mem_cons_self hl) ⟨out, ⟨ov,Fo,AHeap.get_set_same _ _ _,by simpa using hlt,hs.set hw _,hw,rfl⟩, fun hz => by simp at hz,hB⟩) ?_
   rintro r h' ⟨F', f,q⟩
   simp -implicitDefEqProofs (disch := first|decide|assumption|omega|(simp -implicitDefEqProofs only [AM.RN];first|done|omega)|fail) only [↓AM.R0,AM.R1,AM.R2,Nat.reduceAdd,Nat.reduceLeDiff,Nat.reduceEqDiff,Int.reduceToNat,Nat.reduceLT,↓reduceIte,Int.reduceEq,Int.reduceLT,Int.reduceLE]
   subst hQ
   exact ⟨F', f,q⟩
  ·simp only [decide_eq_false_iff_not] at hc
   simp -implicitDefEqProofs (disch := first|decide|assumption|omega|(simp -implicitDefEqProofs only [AM.RN];first|done|omega)|fail) only [↓AM.R0,AM.R1,AM.R2,Nat.reduceAdd,Nat.reduceLeDiff,Nat.reduceEqDiff,Int.reduceToNat,Nat.reduceLT,↓reduceIte,Int.reduceEq,Int.reduceLT,Int.reduceLE,ho]
   refine AM.callI_of (key _ (s1,e) (by rw [if_pos hb]; unfold wfail; simp only; rw [if_neg hc]) (HFrame.refl hl) H') ?_
   rintro r h' ⟨F', f,q⟩
   simp -implicitDefEqProofs (disch := first|decide|assumption|omega|(simp -implicitDefEqProofs only [AM.RN];first|done|omega)|fail) only [↓AM.R0,AM.R1,AM.R2,Nat.reduceAdd,Nat.reduceLeDiff,Nat.reduceEqDiff,Int.reduceToNat,Nat.reduceLT,↓reduceIte,Int.reduceEq,Int.reduceLT,Int.reduceLE]
   subst hQ
   exact ⟨F', f,q⟩
 ·simp -implicitDefEqProofs (disch := first|decide|assumption|omega|(simp -implicitDefEqProofs only [AM.RN];first|done|omega)|fail) only [↓AM.R0,AM.R1,AM.R2,Nat.reduceAdd,Nat.reduceLeDiff,Nat.reduceEqDiff,Int.reduceToNat,Nat.reduceLT,↓reduceIte,Int.reduceEq,Int.reduceLT,Int.reduceLE,ho,hb]
  simp only [decide_eq_false_iff_not] at hb
  refine AM.callI_of (key _ (s1,e) (by rw [if_neg hb]) (HFrame.refl hl) H') ?_
  rintro r h' ⟨F', f,q⟩
  simp -implicitDefEqProofs (disch := first|decide|assumption|omega|(simp -implicitDefEqProofs only [AM.RN];first|done|omega)|fail) only [↓AM.R0,AM.R1,AM.R2,Nat.reduceAdd,Nat.reduceLeDiff,Nat.reduceEqDiff,Int.reduceToNat,Nat.reduceLT,↓reduceIte,Int.reduceEq,Int.reduceLT,Int.reduceLE]
  subst hQ
  exact ⟨F', f,q⟩
/-- The document's kinds. -/
theorem refKindsG {h0 h : AHeap} {w : Nat} {s : WS} {B : Nat} {A F : List Nat} (f0 : HFrame h0 h A F) (H : RAt h w s B F) {v : AVal} {l : List Int} (hd : ∀ {h' : AHeap} {F' : List Nat}, HFrame h0 h' A F' → SlIn h' 1 encK v l) (hl2 : ∀ a,a ∈ l → a ≤ 9223372036854775807) (limit : Int) (hlim : limit ≤ 65535) (hr : B + 10 * l.length + 10 < 1073741824) :
  CallP AP 40 [.ptr w 0 0,v, .int .i64 limit] h fun r h' => ∃ F', HFrame h0 h' A F' ∧ RAt h' w (wkinds s l limit) (B + 10 + 10 * l.length) F' := by
 refine callP (rfl : Tr.get AP 40 = some A40) ?_
 generalize hQ : (fun (r : AVal) (h' : AHeap) => _) = Q
 have hl := (hd f0).len
 simp -implicitDefEqProofs (disch := first|decide|assumption|omega|(simp -implicitDefEqProofs only [AM.RN];first|done|omega)|fail) only [↓AM.R0,AM.R1,AM.R2,Nat.reduceAdd,Nat.reduceLeDiff,Nat.reduceEqDiff,Int.reduceToNat,Nat.reduceLT,↓reduceIte,Int.reduceEq,Int.reduceLT,Int.reduceLE,hl]
 refine AM.callI_of (refCount H l.length limit (by omega) hlim (by omega) (by omega)) ?_
 rintro r h1 ⟨F1,f1,q1⟩
 simp -implicitDefEqProofs (disch := first|decide|assumption|omega|(simp -implicitDefEqProofs only [AM.RN];first|done|omega)|fail) only [↓AM.R0,AM.R1,AM.R2,Nat.reduceAdd,Nat.reduceLeDiff,Nat.reduceEqDiff,Int.reduceToNat,Nat.reduceLT,↓reduceIte,Int.reduceEq,Int.reduceLT,Int.reduceLE,hl]
 refine AM.loopI_of (fun k e h' => ∃ (i : Nat) (F' : List Nat), k + i = l.length ∧ e.val 0 = .ptr w 0 0 ∧ e.val 1 = v ∧ e.val 6 = .int .i64 i ∧ HFrame h0 h' A F' ∧
  RAt h' w ((l.take i).foldl wnum (wcount s l.length limit)) (B + 10 + 10 * i) F') l.length ?_ ?_
 ·refine ⟨0,F1,by simp, ?_, ?_, ?_,f0.trans f1,q1⟩ <;> simp -implicitDefEqProofs (disch := first|decide|assumption|omega|(simp -implicitDefEqProofs only [AM.RN];first|done|omega)|fail) only [↓AM.R0,AM.R1,AM.R2,Nat.reduceAdd,Nat.reduceLeDiff,Nat.reduceEqDiff,Int.reduceToNat,Nat.reduceLT,↓reduceIte,Int.reduceEq,Int.reduceLT,Int.reduceLE] <;> rfl
 ·rintro k e h' ⟨i,F', hk,e0,e1,e6,f,q⟩
  simp -implicitDefEqProofs (disch := first|decide|assumption|omega|(simp -implicitDefEqProofs only [AM.RN];first|done|omega)|fail) only [↓AM.R0,AM.R1,AM.R2,Nat.reduceAdd,Nat.reduceLeDiff,Nat.reduceEqDiff,Int.reduceToNat,Nat.reduceLT,↓reduceIte,Int.reduceEq,Int.reduceLT,Int.reduceLE,e0,e1,e6,hl]
  refine AM.cI_bool (fun hb => ?_) (fun hb => ?_)
  ·simp only [decide_eq_true_eq] at hb
   obtain ⟨a,ha⟩ : ∃ a,l[i]? = some a := ⟨_,List.getElem?_eq_getElem (by omega)⟩
   obtain ⟨j,g,off,vs,ro,x1,x2,x3,x5⟩ := ((hd f).rd ha).ix1 (enc := fun n => .int .i64 n) ha .i64
   have hw : IntKind.i64.wrap ((i : Int) + 1) = ((i + 1 : Nat) : Int) := wrap64 (by omega) (by omega)
   simp -implicitDefEqProofs (disch := first|decide|assumption|omega|(simp -implicitDefEqProofs only [AM.RN];first|done|omega)|fail) only [↓AM.R0,AM.R1,AM.R2,Nat.reduceAdd,Nat.reduceLeDiff,Nat.reduceEqDiff,Int.reduceToNat,Nat.reduceLT,↓reduceIte,Int.reduceEq,Int.reduceLT,Int.reduceLE,e0,e1,e6,x1,x2,x5]
   refine AM.callI_of (refNumber q a (hl2 a (List.mem_of_getElem? ha)) (by omega)) ?_
   rintro r h2 ⟨F2,f2,q2⟩
   simp -implicitDefEqProofs (disch := first|decide|assumption|omega|(simp -implicitDefEqProofs only [AM.RN];first|done|omega)|fail) only [↓AM.R0,AM.R1,AM.R2,Nat.reduceAdd,Nat.reduceLeDiff,Nat.reduceEqDiff,Int.reduceToNat,Nat.reduceLT,↓reduceIte,Int.reduceEq,Int.reduceLT,Int.reduceLE,e0,e1,e6,hw]
   refine ⟨l.length - (i + 1), by omega,i + 1,F2,by omega,rfl,f.trans f2, ?_⟩
   rw [take_succ_of ha,List.foldl_append,Nat.mul_add]
   exact q2
  ·simp only [decide_eq_false_iff_not] at hb
   have : i = l.length := by omega
   subst this
   rw [List.take_length] at q
   simp -implicitDefEqProofs (disch := first|decide|assumption|omega|(simp -implicitDefEqProofs only [AM.RN];first|done|omega)|fail) only [↓AM.R0,AM.R1,AM.R2,Nat.reduceAdd,Nat.reduceLeDiff,Nat.reduceEqDiff,Int.reduceToNat,Nat.reduceLT,↓reduceIte,Int.reduceEq,Int.reduceLT,Int.reduceLE]
   subst hQ
   exact ⟨F', f,q⟩
theorem refKinds {h0 h : AHeap} {w : Nat} {s : WS} {B : Nat} {F : List Nat} (f0 : HFrame h0 h [] F) (H : RAt h w s B F) {v : AVal} {l : List Int} (L0 : SlIn h0 1 encK v l) (hl2 : ∀ a,a ∈ l → a ≤ 9223372036854775807) (limit : Int) (hlim : limit ≤ 65535) (hr : B + 10 * l.length + 10 < 1073741824) :
  CallP AP 40 [.ptr w 0 0,v, .int .i64 limit] h fun r h' => ∃ F', HFrame h0 h' [] F' ∧ RAt h' w (wkinds s l limit) (B + 10 + 10 * l.length) F' :=
 refKindsG f0 H (fun f => L0.keep f) hl2 limit hlim hr
theorem loc {h1 h' : AHeap} {F F' : List Nat} {L : Nat} {o : AObj} (f : HFrame h1 h' F F') (g : h1.get L = o) (hl : L < h1.n) (hF : L ∉ F) : h'.get L = o ∧ L < h'.n :=
 ⟨(f.get L hl hF).trans g,Nat.lt_of_lt_of_le hl f.n⟩
theorem RAt.lt {h : AHeap} {w : Nat} {s : WS} {B : Nat} {F : List Nat} (H : RAt h w s B F) : ∀ j,j ∈ F → j < h.n := by
 obtain ⟨_,q,_⟩ := H; exact q.lt
theorem RAt.frame {h h' : AHeap} {w : Nat} {s : WS} {B : Nat} {F : List Nat} (H : RAt h w s B F) (hn : h.n ≤ h'.n) (k : ∀ j,j ∈ F → h'.get j = h.get j) : RAt h' w s B F := by
 obtain ⟨o,q,a,b⟩ := H; exact ⟨o,q.frame hn k,a,b⟩
theorem RAt.tmp {h : AHeap} {w : Nat} {s : WS} {B : Nat} {F : List Nat} (H : RAt h w s B F) (o : AObj) : RAt (h.push o) w s B F :=
 H.frame (by simp) fun j hj => AHeap.get_push_ne _ _ (by have := H.lt j hj; omega)
set_option maxHeartbeats 1000000 in
theorem refInsG {h0 h : AHeap} {w : Nat} {s : WS} {B : Nat} {A F : List Nat} (f0 : HFrame h0 h A F) (H : RAt h w s B F) {i : PIns} {row : List AVal} (hd : ∀ {h' : AHeap} {F' : List Nat}, HFrame h0 h' A F' → InsR h' i row) (ok : i.Ok) (hr : B + 10 * i.list.length + 70 < 1073741824) :
  CallP AP 41 [.ptr w 0 0, .agg row] h fun r h' => ∃ F', HFrame h0 h' A F' ∧ RAt h' w (winsP s i) (B + 60 + 10 * i.list.length) F' := by
 obtain ⟨_,v,rfl,L0⟩ := hd f0
 have hd' : ∀ {h' : AHeap} {F' : List Nat}, HFrame h0 h' A F' → SlIn h' 1 encK v i.list := fun f => by
  obtain ⟨_,v', e,q⟩ := hd f
  cases e
  exact q
 have hvc := SlIn.cellv L0
 refine callP (rfl : Tr.get AP 41 = some A41) ?_
 generalize hQ : (fun (r : AVal) (h' : AHeap) => _) = Q
 have hl := L0.len
 have hlF := H.lt
 simp -implicitDefEqProofs (disch := first|decide|assumption|omega|(simp -implicitDefEqProofs only [AM.RN];first|done|omega)|fail) only [↓AM.R0,AM.R1,AM.R2,Nat.reduceAdd,Nat.reduceLeDiff,Nat.reduceEqDiff,Int.reduceToNat,Nat.reduceLT,↓reduceIte,Int.reduceEq,Int.reduceLT,Int.reduceLE,hvc]
 have qB := H.tmp (.cells 0 false [.int .i64 i.op, .int .i64 i.a, .int .i64 i.b, .int .i64 i.c, .int .u64 i.imm,v])
 have fB := f0.pushTmp (.cells 0 false [.int .i64 i.op, .int .i64 i.a, .int .i64 i.b, .int .i64 i.c, .int .u64 i.imm,v])
 have gB := AHeap.get_push_same h (.cells 0 false [.int .i64 i.op, .int .i64 i.a, .int .i64 i.b, .int .i64 i.c, .int .u64 i.imm,v])
 have nB : h.n < (h.push (.cells 0 false [.int .i64 i.op, .int .i64 i.a, .int .i64 i.b, .int .i64 i.c, .int .u64 i.imm,v])).n := by simp
 have hnF : h.n ∉ F := fun hm => Nat.lt_irrefl _ (hlF _ hm)
 generalize h.push (.cells 0 false [.int .i64 i.op, .int .i64 i.a, .int .i64 i.b, .int .i64 i.c, .int .u64 i.imm,v]) = hB at *
 refine AM.callI_of (refNumber qB i.op ok.op (by omega)) ?_
 rintro r h1 ⟨F1,f1,q1⟩
 obtain ⟨g1,n1⟩ := loc f1 gB nB hnF
 simp -implicitDefEqProofs (disch := first|decide|assumption|omega|(simp -implicitDefEqProofs only [AM.RN];first|done|omega)|fail) only [↓AM.R0,AM.R1,AM.R2,Nat.reduceAdd,Nat.reduceLeDiff,Nat.reduceEqDiff,Int.reduceToNat,Nat.reduceLT,↓reduceIte,Int.reduceEq,Int.reduceLT,Int.reduceLE,g1]
 refine AM.callI_of (refNumber q1 i.a ok.a (by omega)) ?_
 rintro r h2 ⟨F2,f2,q2⟩
 have f12 := f1.trans f2
 obtain ⟨g2,n2⟩ := loc f12 gB nB hnF
 simp -implicitDefEqProofs (disch := first|decide|assumption|omega|(simp -implicitDefEqProofs only [AM.RN];first|done|omega)|fail) only [↓AM.R0,AM.R1,AM.R2,Nat.reduceAdd,Nat.reduceLeDiff,Nat.reduceEqDiff,Int.reduceToNat,Nat.reduceLT,↓reduceIte,Int.reduceEq,Int.reduceLT,Int.reduceLE,g2]
 refine AM.callI_of (refNumber q2 i.b ok.b (by omega)) ?_
 rintro r h3 ⟨F3,f3,q3⟩
 have f13 := f12.trans f3
 obtain ⟨g3,n3⟩ := loc f13 gB nB hnF
 simp -implicitDefEqProofs (disch := first|decide|assumption|omega|(simp -implicitDefEqProofs only [AM.RN];first|done|omega)|fail) only [↓AM.R0,AM.R1,AM.R2,Nat.reduceAdd,Nat.reduceLeDiff,Nat.reduceEqDiff,Int.reduceToNat,Nat.reduceLT,↓reduceIte,Int.reduceEq,Int.reduceLT,Int.reduceLE,g3]
 refine AM.callI_of (refNumber q3 i.c ok.c (by omega)) ?_
 rintro r h4 ⟨F4,f4,q4⟩
 have f14 := f13.trans f4
 obtain ⟨g4,n4⟩ := loc f14 gB nB hnF
 have q4' := q4
 obtain ⟨s4,hs4⟩ : ∃ s4,s4 = wnum (wnum (wnum (wnum s i.op) i.a) i.b) i.c := ⟨_,rfl⟩
 rw [← hs4] at q4 q4'
 obtain ⟨out,q4,hout,hB4⟩ := q4
 obtain ⟨ov,Fo,ho,hlt,hs,hw,rfl⟩ := q4
 have bo := hs.beq
 have hwn : h.n ≠ w := fun e => (f14.out hnF nB) (by rw [e]; exact List.mem_cons_self)
 simp -implicitDefEqProofs (disch := first|decide|assumption|omega|(simp -implicitDefEqProofs only [AM.RN];first|done|omega)|fail) only [↓AM.R0,AM.R1,AM.R2,Nat.reduceAdd,Nat.reduceLeDiff,Nat.reduceEqDiff,Int.reduceToNat,Nat.reduceLT,↓reduceIte,Int.reduceEq,Int.reduceLT,Int.reduceLE,g4,ho]
 refine AM.trCall_of (refWord h4 i.imm ok.imm) ?_
 rintro r h5 ⟨Fl,s5,f5⟩
 have ho5 : h5.get w = _ := (f5.get w hlt (by simp)).trans ho
 have hlt5 : w < h5.n := Nat.lt_of_lt_of_le hlt f5.n
 have hs5 := hs.frame f5.n fun j hj => f5.get j (hs.lt j hj) (by simp)
 have h10 := wordB_len10 ok.imm
 have g5 : h5.get h.n = _ := (f5.get h.n n4 (by simp)).trans g4
 have n5 : h.n < h5.n := Nat.lt_of_lt_of_le n4 f5.n
 simp -implicitDefEqProofs (disch := first|decide|assumption|omega|(simp -implicitDefEqProofs only [AM.RN];first|done|omega)|fail) only [↓AM.R0,AM.R1,AM.R2,Nat.reduceAdd,Nat.reduceLeDiff,Nat.reduceEqDiff,Int.reduceToNat,Nat.reduceLT,↓reduceIte,Int.reduceEq,Int.reduceLT,Int.reduceLE,ho5]
 refine AM.trOp_of (hs5.app s5.rd (fun _ => rfl) (fun _ => rfl) (by omega) fun v' h6 F6 s6 f6 => ?_)
 have ho6 : h6.get w = _ := (f6.get w hlt5 hw).trans ho5
 have hlt6 : w < h6.n := Nat.lt_of_lt_of_le hlt5 f6.n
 obtain ⟨d1,d2⟩ := s6.rd.cells
 have key := WAt.put ho5 hlt5 hw hs5 f6 s6
 have f45 := f5.wide (G := w :: Fo) (G' := w :: Fo) (by simp) (fun j hj => .inr hj) (q4'.lt)
 have f16 := (f14.trans f45).trans key.1
 obtain ⟨g6,n6⟩ := loc f16 gB nB hnF
 have g6' : h6.get h.n = _ := (f6.get h.n n5 (fun hm => (f14.out hnF nB) (List.mem_cons_of_mem _ hm))).trans g5
 have n6' : h.n < h6.n := Nat.lt_of_lt_of_le n5 f6.n
 simp -implicitDefEqProofs (disch := first|decide|assumption|omega|(simp -implicitDefEqProofs only [AM.RN];first|done|omega)|fail) only [↓AM.R0,AM.R1,AM.R2,Nat.reduceAdd,Nat.reduceLeDiff,Nat.reduceEqDiff,Int.reduceToNat,Nat.reduceLT,↓reduceIte,Int.reduceEq,Int.reduceLT,Int.reduceLE,ho6,ho5,ho,bo,d1,d2,g6', hl]
 have q6 : RAt (h6.set w (.cells 0 false [v', .int .i64 s4.2])) w (wword s4 i.imm) (B + 50) (w :: F6) := ⟨_,key.2,fun he => by rw [hout he]; rfl,by simp only [List.length_append]; omega⟩
 generalize h6.set w (.cells 0 false [v', .int .i64 s4.2]) = h7 at *
 refine AM.callI_of (refCount q6 i.list.length 24 (by omega) (by omega) (by omega) (by omega)) ?_
 rintro r h8 ⟨F8,f8,q8⟩
 have f18 := f16.trans f8
 obtain ⟨g8,n8⟩ := loc f18 gB nB hnF
 simp -implicitDefEqProofs (disch := first|decide|assumption|omega|(simp -implicitDefEqProofs only [AM.RN];first|done|omega)|fail) only [↓AM.R0,AM.R1,AM.R2,Nat.reduceAdd,Nat.reduceLeDiff,Nat.reduceEqDiff,Int.reduceToNat,Nat.reduceLT,↓reduceIte,Int.reduceEq,Int.reduceLT,Int.reduceLE,g8,hl]
 refine AM.loopI_of (fun k e h' => ∃ (x : Nat) (F' : List Nat), k + x = i.list.length ∧ e.val 0 = .ptr w 0 0 ∧ e.val 3 = .ptr h.n 0 0 ∧ e.val 4 = .int .i64 x ∧ HFrame hB h' F F' ∧
  RAt h' w ((i.list.take x).foldl wnum (wcount (wword s4 i.imm) i.list.length 24)) (B + 60 + 10 * x) F') i.list.length ?_ ?_
 ·refine ⟨0,F8,by simp, ?_, ?_, ?_,f18,q8⟩ <;> simp -implicitDefEqProofs (disch := first|decide|assumption|omega|(simp -implicitDefEqProofs only [AM.RN];first|done|omega)|fail) only [↓AM.R0,AM.R1,AM.R2,Nat.reduceAdd,Nat.reduceLeDiff,Nat.reduceEqDiff,Int.reduceToNat,Nat.reduceLT,↓reduceIte,Int.reduceEq,Int.reduceLT,Int.reduceLE] <;> rfl
 ·rintro k e h' ⟨x,F', hk,e0,e3,e4,f,q⟩
  obtain ⟨g,nx⟩ := loc f gB nB hnF
  simp -implicitDefEqProofs (disch := first|decide|assumption|omega|(simp -implicitDefEqProofs only [AM.RN];first|done|omega)|fail) only [↓AM.R0,AM.R1,AM.R2,Nat.reduceAdd,Nat.reduceLeDiff,Nat.reduceEqDiff,Int.reduceToNat,Nat.reduceLT,↓reduceIte,Int.reduceEq,Int.reduceLT,Int.reduceLE,e0,e3,e4,hl,g]
  have ff := fB.trans f
  refine AM.cI_bool (fun hb => ?_) (fun hb => ?_)
  ·simp only [decide_eq_true_eq] at hb
   obtain ⟨a,ha⟩ : ∃ a,i.list[x]? = some a := ⟨_,List.getElem?_eq_getElem (by omega)⟩
   obtain ⟨j,g', off,vs,ro,x1,x2,x3,x5⟩ := ((hd' ff).rd ha).ix1 (enc := fun n => .int .i64 n) ha .i64
   have hw : IntKind.i64.wrap ((x : Int) + 1) = ((x + 1 : Nat) : Int) := wrap64 (by omega) (by omega)
   simp -implicitDefEqProofs (disch := first|decide|assumption|omega|(simp -implicitDefEqProofs only [AM.RN];first|done|omega)|fail) only [↓AM.R0,AM.R1,AM.R2,Nat.reduceAdd,Nat.reduceLeDiff,Nat.reduceEqDiff,Int.reduceToNat,Nat.reduceLT,↓reduceIte,Int.reduceEq,Int.reduceLT,Int.reduceLE,e0,e3,e4,g,x1,x2,x5]
   refine AM.callI_of (refNumber q a (ok.list a (List.mem_of_getElem? ha)) (by omega)) ?_
   rintro r h2 ⟨F2,f2,q2⟩
   simp -implicitDefEqProofs (disch := first|decide|assumption|omega|(simp -implicitDefEqProofs only [AM.RN];first|done|omega)|fail) only [↓AM.R0,AM.R1,AM.R2,Nat.reduceAdd,Nat.reduceLeDiff,Nat.reduceEqDiff,Int.reduceToNat,Nat.reduceLT,↓reduceIte,Int.reduceEq,Int.reduceLT,Int.reduceLE,e0,e3,e4,hw]
   refine ⟨i.list.length - (x + 1), by omega,x + 1,F2,by omega,rfl,f.trans f2, ?_⟩
   rw [take_succ_of ha,List.foldl_append,Nat.mul_add]
   exact q2
  ·simp only [decide_eq_false_iff_not] at hb
   have : x = i.list.length := by omega
   subst this
   rw [List.take_length] at q
   simp -implicitDefEqProofs (disch := first|decide|assumption|omega|(simp -implicitDefEqProofs only [AM.RN];first|done|omega)|fail) only [↓AM.R0,AM.R1,AM.R2,Nat.reduceAdd,Nat.reduceLeDiff,Nat.reduceEqDiff,Int.reduceToNat,Nat.reduceLT,↓reduceIte,Int.reduceEq,Int.reduceLT,Int.reduceLE]
   subst hQ
   subst hs4
   exact ⟨F', ff,q⟩
def tB (t : Bool × List Int) : Nat := 20 + 10 * t.2.length
def iB (i : PIns) : Nat := 60 + 10 * i.list.length
def fB (f : PFunc) : Nat := 40 + 10 * f.slots.length + 10 * f.results.length + (f.code.map iB).sum
theorem RAt.nil {h : AHeap} {w : Nat} (g : h.get w = .cells 0 false [.nils, .int .i64 0]) (hw : w < h.n) : RAt h w ([],0) 0 [w] := ⟨[], ⟨.nils, [],g,hw,SlOf.nil,by simp,rfl⟩, fun _ => rfl,by simp⟩
theorem RAt.wk {h : AHeap} {w : Nat} {s : WS} {B B' : Nat} {F : List Nat} (H : RAt h w s B F) (h1 : B ≤ B') : RAt h w s B' F := by
 obtain ⟨o,a,b,c⟩ := H; exact ⟨o,a,b,by omega⟩
theorem RAt.setN {h : AHeap} {w : Nat} {s : WS} {B : Nat} {F : List Nat} (H : RAt h w s B F) {i : Nat} (hi : i ∉ F) (o : AObj) : RAt (h.set i o) w s B F :=
 H.frame (by simp) fun j hj => AHeap.get_set_ne _ _ (by intro e; subst e; exact hi hj)
set_option maxHeartbeats 4000000 in
theorem refEncode {h : AHeap} {p : PProg} {row : List AVal} (R : ProgR h p row) (ok : p.Ok) (hsz : 10 * p.types.length + (p.types.map tB).sum + (p.funcs.map fB).sum + 10 * p.globals.length + 200 < 1073741824) :
  CallP AP 20 [.agg row] h fun r h' => ∃ ov Fo,HFrame h h' [] Fo ∧
   (if (wprog p).2 = 0 ∧ (wprog p).1.length ≤ 16384 then r = .tup [ov, .int .i64 0] ∧ SlOf h' 1 encB ov (wprog p).1 Fo
    else r = .tup [.nils, .int .i64 (if (wprog p).2 = 0 then 2 else (wprog p).2)]) := by
 obtain ⟨tv,gv,fv,rfl,RT,RG,RF⟩ := R
 refine callP (rfl : Tr.get AP 20 = some A20) ?_
 generalize hQ : (fun (r : AVal) (h' : AHeap) => _) = Q
 have c1 := SlR.cellv RT
 have c2 := SlIn.cellv RG
 have c3 := SlR.cellv RF
 have lT := RT.len
 have lF := RF.len
 simp -implicitDefEqProofs (disch := first|decide|assumption|omega|(simp -implicitDefEqProofs only [AM.RN];first|done|omega)|fail) only [↓AM.R0,AM.R1,AM.R2,Nat.reduceAdd,Nat.reduceLeDiff,Nat.reduceEqDiff,Int.reduceToNat,Nat.reduceLT,↓reduceIte,Int.reduceEq,Int.reduceLT,Int.reduceLE,c1,c2,c3]
 obtain ⟨h0,hh0⟩ : ∃ h0,h0 = h.push (.cells 0 false [tv,gv,fv]) := ⟨_,rfl⟩
 have hn0 : h0.n = h.n + 1 := by rw [hh0]; rfl
 have hm : ∀ j,j < h.n → h0.get j = h.get j := fun j hj => by rw [hh0]; exact AHeap.get_push_ne _ _ (by omega)
 have RT0 := RT.mono (fun _ _ q => TypeR.mono (by omega) hm q) (by omega) hm
 have RG0 := RG.mono (by omega : h.n ≤ h0.n) hm
 have RF0 := RF.mono (fun _ _ q => FuncR.mono (by omega) hm q) (by omega) hm
 have g0 : h0.get h.n = .cells 0 false [tv,gv,fv] := by rw [hh0]; exact AHeap.get_push_same _ _
 have fW : HFrame h0 (h0.push (.cells 0 false [.nils, .int .i64 0])) [] [h0.n] := ⟨by simp,rfl,fun j hj _ => AHeap.get_push_ne _ _ (by omega), fun j hj => .inr (by simp at hj; omega), fun j hj => by simp at hj; simp; omega⟩
 have HW : RAt (h0.push (.cells 0 false [.nils, .int .i64 0])) h0.n ([],0) 0 [h0.n] := RAt.nil (AHeap.get_push_same _ _) (by simp)
 rw [← hh0, ← hn0]
 generalize h0.push (.cells 0 false [.nils, .int .i64 0]) = hW at *
 have gW := (fW.get h.n (by omega) (by simp)).trans g0
 have nW := fW.n
 simp -implicitDefEqProofs (disch := first|decide|assumption|omega|(simp -implicitDefEqProofs only [AM.RN];first|done|omega)|fail) only [↓AM.R0,AM.R1,AM.R2,Nat.reduceAdd,Nat.reduceLeDiff,Nat.reduceEqDiff,Int.reduceToNat,Nat.reduceLT,↓reduceIte,Int.reduceEq,Int.reduceLT,Int.reduceLE,gW,lT]
 have hTl : p.types.length ≤ (p.types.map tB).sum := len_sum tB (fun a => by unfold tB; omega) _
 have hFl : p.funcs.length ≤ (p.funcs.map fB).sum := len_sum fB (fun a => by unfold fB; omega) _
 refine AM.callI_of (refCount HW p.types.length 32 (by omega) (by omega) (by omega) (by omega)) ?_
 rintro r h1 ⟨F1,f1,q1⟩
 have f01 := fW.trans f1
 simp -implicitDefEqProofs (disch := first|decide|assumption|omega|(simp -implicitDefEqProofs only [AM.RN];first|done|omega)|fail) only [↓AM.R0,AM.R1,AM.R2,Nat.reduceAdd,Nat.reduceLeDiff,Nat.reduceEqDiff,Int.reduceToNat,Nat.reduceLT,↓reduceIte,Int.reduceEq,Int.reduceLT,Int.reduceLE]
 obtain ⟨W0,hW0⟩ : ∃ W0,W0 = wcount ([],0) p.types.length 32 := ⟨_,rfl⟩
 rw [← hW0] at q1
 refine AM.loopI_of (fun k e h' => ∃ (i : Nat) (F' : List Nat), k + i = p.types.length ∧ e.val 1 = .ptr h.n 0 0 ∧ e.val 4 = .ptr h0.n 0 0 ∧ e.val 5 = .int .i64 i ∧ HFrame h0 h' [] F' ∧
  RAt h' h0.n ((p.types.take i).foldl wtype W0) (10 + ((p.types.take i).map tB).sum) F') p.types.length ?_ ?_
 ·refine ⟨0,F1,by simp, ?_, ?_, ?_,f01,q1⟩ <;> simp -implicitDefEqProofs (disch := first|decide|assumption|omega|(simp -implicitDefEqProofs only [AM.RN];first|done|omega)|fail) only [↓AM.R0,AM.R1,AM.R2,Nat.reduceAdd,Nat.reduceLeDiff,Nat.reduceEqDiff,Int.reduceToNat,Nat.reduceLT,↓reduceIte,Int.reduceEq,Int.reduceLT,Int.reduceLE] <;> rfl
 ·rintro k e h' ⟨i,F', hk,e1,e4,e5,f,q⟩
  have gp := (f.get h.n (by omega) (by simp)).trans g0
  have np := f.n
  have hst := sum_take tB p.types i
  simp -implicitDefEqProofs (disch := first|decide|assumption|omega|(simp -implicitDefEqProofs only [AM.RN];first|done|omega)|fail) only [↓AM.R0,AM.R1,AM.R2,Nat.reduceAdd,Nat.reduceLeDiff,Nat.reduceEqDiff,Int.reduceToNat,Nat.reduceLT,↓reduceIte,Int.reduceEq,Int.reduceLT,Int.reduceLE,e1,e4,e5,gp,lT]
  refine AM.cI_bool (fun hb => ?_) (fun hb => ?_)
  ·simp only [decide_eq_true_eq] at hb
   obtain ⟨t,ht⟩ : ∃ t,p.types[i]? = some t := ⟨_,List.getElem?_eq_getElem (by omega)⟩
   have esum := sum_mem tB ht
   obtain ⟨j,g,off,vs,ro,row,x1,x2,x3,x4,x5,x6,fl,rfl,xl⟩ := SlR.atv RT0 ht
   obtain ⟨p1,p2⟩ := two_of x5
   have hw : IntKind.i64.wrap ((i : Int) + 1) = ((i + 1 : Nat) : Int) := wrap64 (by omega) (by omega)
   subst x1
   have xj := (f.get j x3 (by simp)).trans x2
   simp -implicitDefEqProofs (disch := first|decide|assumption|omega|(simp -implicitDefEqProofs only [AM.RN];first|done|omega)|fail) only [↓AM.R0,AM.R1,AM.R2,Nat.reduceAdd,Nat.reduceLeDiff,Nat.reduceEqDiff,Int.reduceToNat,Nat.reduceLT,↓reduceIte,Int.reduceEq,Int.reduceLT,Int.reduceLE,e1,e4,e5,gp,xj,p1]
   obtain ⟨b,ks⟩ := t
   have xl : SlIn h0 1 encK fl ks := xl
   have okt : ∀ x,x ∈ ks → x ≤ mx := ok.types (b,ks) (List.mem_of_getElem? ht)
   have etz : tB (b,ks) = 20 + 10 * ks.length := rfl
   cases b
   all_goals
    simp -implicitDefEqProofs (disch := first|decide|assumption|omega|(simp -implicitDefEqProofs only [AM.RN];first|done|omega)|fail) only [↓AM.R0,AM.R1,AM.R2,Nat.reduceAdd,Nat.reduceLeDiff,Nat.reduceEqDiff,Int.reduceToNat,Nat.reduceLT,↓reduceIte,Int.reduceEq,Int.reduceLT,Int.reduceLE,e1,e4,e5,gp]
    refine AM.callI_of (refNumber q _ (by omega) (by omega)) ?_
    rintro r h3 ⟨F3,f3,q3⟩
    have f03 := f.trans f3
    have gp3 := (f03.get h.n (by omega) (by simp)).trans g0
    have np3 := f03.n
    have xj3 := (f03.get j x3 (by simp)).trans x2
    simp -implicitDefEqProofs (disch := first|decide|assumption|omega|(simp -implicitDefEqProofs only [AM.RN];first|done|omega)|fail) only [↓AM.R0,AM.R1,AM.R2,Nat.reduceAdd,Nat.reduceLeDiff,Nat.reduceEqDiff,Int.reduceToNat,Nat.reduceLT,↓reduceIte,Int.reduceEq,Int.reduceLT,Int.reduceLE,e1,e4,e5,gp3,xj3,p2]
    refine AM.callI_of (refKinds (l := ks) f03 q3 xl okt 16 (by omega) (by omega)) ?_
    rintro r h4 ⟨F4,f4,q4⟩
    simp -implicitDefEqProofs (disch := first|decide|assumption|omega|(simp -implicitDefEqProofs only [AM.RN];first|done|omega)|fail) only [↓AM.R0,AM.R1,AM.R2,Nat.reduceAdd,Nat.reduceLeDiff,Nat.reduceEqDiff,Int.reduceToNat,Nat.reduceLT,↓reduceIte,Int.reduceEq,Int.reduceLT,Int.reduceLE,e1,e4,e5,hw]
    refine ⟨p.types.length - (i + 1), by omega,i + 1,F4,by omega,rfl,f4, ?_⟩
    rw [take_succ_of ht,List.foldl_append,List.map_append,List.sum_append]
    exact q4.wk (by simp; omega)
  ·have hi : i = p.types.length := by simp only [decide_eq_false_iff_not] at hb; omega
   subst hi
   rw [List.take_length] at q
   clear hb hst
   simp -implicitDefEqProofs (disch := first|decide|assumption|omega|(simp -implicitDefEqProofs only [AM.RN];first|done|omega)|fail) only [↓AM.R0,AM.R1,AM.R2,Nat.reduceAdd,Nat.reduceLeDiff,Nat.reduceEqDiff,Int.reduceToNat,Nat.reduceLT,↓reduceIte,Int.reduceEq,Int.reduceLT,Int.reduceLE,e1,e4,gp]
   refine AM.callI_of (refKinds f q RG0 ok.globals 32 (by omega) (by omega)) ?_
   rintro r h2 ⟨F2,f2,q2⟩
   have gp2 := (f2.get h.n (by omega) (by simp)).trans g0
   have np2 := f2.n
   simp -implicitDefEqProofs (disch := first|decide|assumption|omega|(simp -implicitDefEqProofs only [AM.RN];first|done|omega)|fail) only [↓AM.R0,AM.R1,AM.R2,Nat.reduceAdd,Nat.reduceLeDiff,Nat.reduceEqDiff,Int.reduceToNat,Nat.reduceLT,↓reduceIte,Int.reduceEq,Int.reduceLT,Int.reduceLE,e1,e4,gp2,lF]
   refine AM.callI_of (refCount q2 p.funcs.length 32 (by omega) (by omega) (by omega) (by omega)) ?_
   rintro r h3 ⟨F3,f3,q3⟩
   have f03 := f2.trans f3
   simp -implicitDefEqProofs (disch := first|decide|assumption|omega|(simp -implicitDefEqProofs only [AM.RN];first|done|omega)|fail) only [↓AM.R0,AM.R1,AM.R2,Nat.reduceAdd,Nat.reduceLeDiff,Nat.reduceEqDiff,Int.reduceToNat,Nat.reduceLT,↓reduceIte,Int.reduceEq,Int.reduceLT,Int.reduceLE,e1,e4]
   obtain ⟨W3,hW3⟩ : ∃ W3,W3 = wcount (wkinds (p.types.foldl wtype W0) p.globals 32) p.funcs.length 32 := ⟨_,rfl⟩
   rw [← hW3] at q3
   have q3 := q3.wk (B' := 40 + (p.types.map tB).sum + 10 * p.globals.length) (by omega)
   refine AM.loopI_of (fun k e h' => ∃ (i : Nat) (F' : List Nat), k + i = p.funcs.length ∧ e.val 1 = .ptr h.n 0 0 ∧ e.val 4 = .ptr h0.n 0 0 ∧ e.val 6 = .int .i64 i ∧ HFrame h0 h' [] F' ∧
    RAt h' h0.n ((p.funcs.take i).foldl wfunc W3) (40 + (p.types.map tB).sum + 10 * p.globals.length + ((p.funcs.take i).map fB).sum) F') p.funcs.length ?_ ?_
   ·refine ⟨0,F3,by simp, ?_, ?_, ?_,f03,q3⟩ <;> simp -implicitDefEqProofs (disch := first|decide|assumption|omega|(simp -implicitDefEqProofs only [AM.RN];first|done|omega)|fail) only [↓AM.R0,AM.R1,AM.R2,Nat.reduceAdd,Nat.reduceLeDiff,Nat.reduceEqDiff,Int.reduceToNat,Nat.reduceLT,↓reduceIte,Int.reduceEq,Int.reduceLT,Int.reduceLE,e1,e4] <;> rfl
   ·clear e1 e4 e5 f q f2 q2 f3 q3 f03 gp gp2 np np2 hk e k
    rintro k e hq ⟨i,F', hk,e1,e4,e6,f,q⟩
    have gp := (f.get h.n (by omega) (by simp)).trans g0
    have np := f.n
    have hst := sum_take fB p.funcs i
    simp -implicitDefEqProofs (disch := first|decide|assumption|omega|(simp -implicitDefEqProofs only [AM.RN];first|done|omega)|fail) only [↓AM.R0,AM.R1,AM.R2,Nat.reduceAdd,Nat.reduceLeDiff,Nat.reduceEqDiff,Int.reduceToNat,Nat.reduceLT,↓reduceIte,Int.reduceEq,Int.reduceLT,Int.reduceLE,e1,e4,e6,gp,lF]
    refine AM.cI_bool (fun hb => ?_) (fun hb => ?_)
    ·simp only [decide_eq_true_eq] at hb
     obtain ⟨t,ht⟩ : ∃ t,p.funcs[i]? = some t := ⟨_,List.getElem?_eq_getElem (by omega)⟩
     have esum := sum_mem fB ht
     obtain ⟨j,g,off,vs,ro,row,x1,x2,x3,x4,x5,x6,sv,rv,cv,rfl,ys,yr,yc⟩ := SlR.atv RF0 ht
     have k1 := SlIn.cellv ys
     have k2 := SlIn.cellv yr
     have k3 := SlR.cellv yc
     have lc := yc.len
     have hw : IntKind.i64.wrap ((i : Int) + 1) = ((i + 1 : Nat) : Int) := wrap64 (by omega) (by omega)
     have ez : fB t = 40 + 10 * t.slots.length + 10 * t.results.length + (t.code.map iB).sum := rfl
     have okt := ok.funcs t (List.mem_of_getElem? ht)
     have hcl := len_sum iB (fun a => by unfold iB; omega) t.code
     subst x1
     have xj := (f.get j x3 (by simp)).trans x2
     simp -implicitDefEqProofs (disch := first|decide|assumption|omega|(simp -implicitDefEqProofs only [AM.RN];first|done|omega)|fail) only [↓AM.R0,AM.R1,AM.R2,Nat.reduceAdd,Nat.reduceLeDiff,Nat.reduceEqDiff,Int.reduceToNat,Nat.reduceLT,↓reduceIte,Int.reduceEq,Int.reduceLT,Int.reduceLE,e1,e4,e6,gp,xj,x5,k1,k2,k3]
     obtain ⟨S,hS⟩ : ∃ S,S = (p.funcs.take i).foldl wfunc W3 := ⟨_,rfl⟩
     rw [← hS] at q
     have fA := (f.pushTmp (.cells 0 false [.int .i64 0, .nils, .nils, .nils])).setTmp (i := hq.n) np (.cells 0 false [.int .i64 t.params,sv,rv,cv])
     have hnF : hq.n ∉ F' := fun hm => Nat.lt_irrefl _ (q.lt _ hm)
     have qA := (q.tmp (.cells 0 false [.int .i64 0, .nils, .nils, .nils])).setN hnF (.cells 0 false [.int .i64 t.params,sv,rv,cv])
     have gA : ((hq.push (.cells 0 false [.int .i64 0, .nils, .nils, .nils])).set hq.n (.cells 0 false [.int .i64 t.params,sv,rv,cv])).get hq.n = .cells 0 false [.int .i64 t.params,sv,rv,cv] := AHeap.get_set_same _ _ _
     have nA : hq.n < ((hq.push (.cells 0 false [.int .i64 0, .nils, .nils, .nils])).set hq.n (.cells 0 false [.int .i64 t.params,sv,rv,cv])).n := by simp
     generalize (hq.push (.cells 0 false [.int .i64 0, .nils, .nils, .nils])).set hq.n (.cells 0 false [.int .i64 t.params,sv,rv,cv]) = hA at *
     refine AM.callI_of (refNumber qA t.params okt.params (by omega)) ?_
     rintro r h3 ⟨F3,f3,q3⟩
     obtain ⟨g3,n3⟩ := loc f3 gA nA hnF
     have hnF3 := f3.out hnF nA
     have fa3 := fA.trans f3
     simp -implicitDefEqProofs (disch := first|decide|assumption|omega|(simp -implicitDefEqProofs only [AM.RN];first|done|omega)|fail) only [↓AM.R0,AM.R1,AM.R2,Nat.reduceAdd,Nat.reduceLeDiff,Nat.reduceEqDiff,Int.reduceToNat,Nat.reduceLT,↓reduceIte,Int.reduceEq,Int.reduceLT,Int.reduceLE,e1,e4,e6,g3]
     have hAll := qA.lt
     have fAA : HFrame hA hA F' F' := HFrame.refl hAll
     have stay : ∀ {h'' : AHeap} {F'' : List Nat}, HFrame hA h'' F' F'' → h0.n ≤ h''.n ∧ ∀ j,j < h0.n → h''.get j = h0.get j := fun {h''} {F''} f'' => by
      have hn1 := fA.n
      refine ⟨Nat.le_trans hn1 f''.n,fun j hj => (f''.get j (by omega) fun hm => ?_).trans (fA.get j hj (by simp))⟩
      rcases f.new j hm with e | e
      ·cases e
      ·omega
     have fAh : ∀ {h'' : AHeap} {F'' : List Nat}, HFrame hA h'' F' F'' → HFrame h0 h'' [] F'' := fun f'' => fA.trans f''
     refine AM.callI_of (refKindsG f3 q3 (fun f'' => ys.mono (stay f'').1 (stay f'').2) okt.slots 32 (by omega) (by omega)) ?_
     rintro r h4 ⟨F4,f4,q4⟩
     obtain ⟨g4,n4⟩ := loc f4 gA nA hnF
     simp -implicitDefEqProofs (disch := first|decide|assumption|omega|(simp -implicitDefEqProofs only [AM.RN];first|done|omega)|fail) only [↓AM.R0,AM.R1,AM.R2,Nat.reduceAdd,Nat.reduceLeDiff,Nat.reduceEqDiff,Int.reduceToNat,Nat.reduceLT,↓reduceIte,Int.reduceEq,Int.reduceLT,Int.reduceLE,e1,e4,e6,g4]
     refine AM.callI_of (refKindsG f4 q4 (fun f'' => yr.mono (stay f'').1 (stay f'').2) okt.results 32 (by omega) (by omega)) ?_
     rintro r h5 ⟨F5,f5,q5⟩
     obtain ⟨g5,n5⟩ := loc f5 gA nA hnF
     simp -implicitDefEqProofs (disch := first|decide|assumption|omega|(simp -implicitDefEqProofs only [AM.RN];first|done|omega)|fail) only [↓AM.R0,AM.R1,AM.R2,Nat.reduceAdd,Nat.reduceLeDiff,Nat.reduceEqDiff,Int.reduceToNat,Nat.reduceLT,↓reduceIte,Int.reduceEq,Int.reduceLT,Int.reduceLE,e1,e4,e6,g5,lc]
     refine AM.callI_of (refCount q5 t.code.length 256 (by omega) (by omega) (by omega) (by omega)) ?_
     rintro r h6 ⟨F6,f6,q6⟩
     have f06 := f5.trans f6
     simp -implicitDefEqProofs (disch := first|decide|assumption|omega|(simp -implicitDefEqProofs only [AM.RN];first|done|omega)|fail) only [↓AM.R0,AM.R1,AM.R2,Nat.reduceAdd,Nat.reduceLeDiff,Nat.reduceEqDiff,Int.reduceToNat,Nat.reduceLT,↓reduceIte,Int.reduceEq,Int.reduceLT,Int.reduceLE,e1,e4,e6]
     have q6' : RAt h6 h0.n (hdf S t) (80 + (p.types.map tB).sum + 10 * p.globals.length + ((p.funcs.take i).map fB).sum + 10 * t.slots.length + 10 * t.results.length) F6 := q6.wk (by omega)
     refine AM.loopI_of (fun k e h' => ∃ (y : Nat) (F7 : List Nat), k + y = t.code.length ∧ e.val 1 = .ptr h.n 0 0 ∧ e.val 4 = .ptr h0.n 0 0 ∧ e.val 6 = .int .i64 i ∧ e.val 7 = .ptr hq.n 0 0 ∧ e.val 8 = .int .i64 y ∧ HFrame hA h' F' F7 ∧
      RAt h' h0.n ((t.code.take y).foldl winsP (hdf S t)) (80 + (p.types.map tB).sum + 10 * p.globals.length + ((p.funcs.take i).map fB).sum + 10 * t.slots.length + 10 * t.results.length + ((t.code.take y).map iB).sum) F7) t.code.length ?_ ?_
     ·refine ⟨0,F6,by simp, ?_, ?_, ?_, ?_, ?_,f06,q6'⟩ <;> simp -implicitDefEqProofs (disch := first|decide|assumption|omega|(simp -implicitDefEqProofs only [AM.RN];first|done|omega)|fail) only [↓AM.R0,AM.R1,AM.R2,Nat.reduceAdd,Nat.reduceLeDiff,Nat.reduceEqDiff,Int.reduceToNat,Nat.reduceLT,↓reduceIte,Int.reduceEq,Int.reduceLT,Int.reduceLE,e1,e4,e6] <;> rfl
     ·clear e1 e4 e6 e
      rintro k2 e h7 ⟨y,F7,hk2,e1,e4,e6,e7,e8,f7,q7⟩
      obtain ⟨g7,n7⟩ := loc f7 gA nA hnF
      have himt := okt.code
      simp -implicitDefEqProofs (disch := first|decide|assumption|omega|(simp -implicitDefEqProofs only [AM.RN];first|done|omega)|fail) only [↓AM.R0,AM.R1,AM.R2,Nat.reduceAdd,Nat.reduceLeDiff,Nat.reduceEqDiff,Int.reduceToNat,Nat.reduceLT,↓reduceIte,Int.reduceEq,Int.reduceLT,Int.reduceLE,e1,e4,e6,e7,e8,g7,lc]
      have hst2 := sum_take iB t.code y
      refine AM.cI_bool (fun hb2 => ?_) (fun hb2 => ?_)
      ·simp only [decide_eq_true_eq] at hb2
       obtain ⟨z,hz⟩ : ∃ z,t.code[y]? = some z := ⟨_,List.getElem?_eq_getElem (by omega)⟩
       have esum2 := sum_mem iB hz
       obtain ⟨j3,g3', off3,vs3,ro3,row3,u1,u2,u3,u4,u5,u6,uR⟩ := SlR.atv yc hz
       have hw2 : IntKind.i64.wrap ((y : Int) + 1) = ((y + 1 : Nat) : Int) := wrap64 (by omega) (by omega)
       have ez2 : iB z = 60 + 10 * z.list.length := rfl
       rw [u1] at g7
       have uj := ((stay f7).2 j3 u3).trans u2
       have uj3 : j3 < h7.n := Nat.lt_of_lt_of_le u3 (stay f7).1
       simp -implicitDefEqProofs (disch := first|decide|assumption|omega|(simp -implicitDefEqProofs only [AM.RN];first|done|omega)|fail) only [↓AM.R0,AM.R1,AM.R2,Nat.reduceAdd,Nat.reduceLeDiff,Nat.reduceEqDiff,Int.reduceToNat,Nat.reduceLT,↓reduceIte,Int.reduceEq,Int.reduceLT,Int.reduceLE,e1,e4,e6,e7,e8,g7,uj,u5]
       refine AM.callI_of (refInsG f7 q7 (fun f'' => InsR.mono (stay f'').1 (stay f'').2 uR) (himt z (List.mem_of_getElem? hz)) (by omega)) ?_
       rintro r h8 ⟨F8,f8,q8⟩
       simp -implicitDefEqProofs (disch := first|decide|assumption|omega|(simp -implicitDefEqProofs only [AM.RN];first|done|omega)|fail) only [↓AM.R0,AM.R1,AM.R2,Nat.reduceAdd,Nat.reduceLeDiff,Nat.reduceEqDiff,Int.reduceToNat,Nat.reduceLT,↓reduceIte,Int.reduceEq,Int.reduceLT,Int.reduceLE,e1,e4,e6,e7,e8,hw2]
       refine ⟨t.code.length - (y + 1), by omega,y + 1,F8,by omega,rfl,f8, ?_⟩
       rw [take_succ_of hz,List.foldl_append,List.map_append,List.sum_append]
       exact q8.wk (by simp; omega)
      ·have hy : y = t.code.length := by simp only [decide_eq_false_iff_not] at hb2; omega
       subst hy
       rw [List.take_length] at q7
       simp -implicitDefEqProofs (disch := first|decide|assumption|omega|(simp -implicitDefEqProofs only [AM.RN];first|done|omega)|fail) only [↓AM.R0,AM.R1,AM.R2,Nat.reduceAdd,Nat.reduceLeDiff,Nat.reduceEqDiff,Int.reduceToNat,Nat.reduceLT,↓reduceIte,Int.reduceEq,Int.reduceLT,Int.reduceLE,e1,e4,e6,hw]
       refine ⟨p.funcs.length - (i + 1), by omega,i + 1,F7,by omega,rfl,fAh f7, ?_⟩
       rw [take_succ_of ht,List.foldl_append, ← hS,List.map_append,List.sum_append]
       exact q7.wk (by simp; omega)
    ·have hi : i = p.funcs.length := by simp only [decide_eq_false_iff_not] at hb; omega
     subst hi
     rw [List.take_length] at q
     have hP : p.funcs.foldl wfunc W3 = wprog p := by rw [hW3,hW0]; rfl
     rw [hP] at q
     have flt := q.lt
     obtain ⟨out,q,hout,hBl⟩ := q
     obtain ⟨ov,Fo,ho,hlt,hs,hwo,rfl⟩ := q
     have lo := hs.len
     clear hb hst
     simp -implicitDefEqProofs (disch := first|decide|assumption|omega|(simp -implicitDefEqProofs only [AM.RN];first|done|omega)|fail) only [↓AM.R0,AM.R1,AM.R2,Nat.reduceAdd,Nat.reduceLeDiff,Nat.reduceEqDiff,Int.reduceToNat,Nat.reduceLT,↓reduceIte,Int.reduceEq,Int.reduceLT,Int.reduceLE,e1,e4,ho,lo]
     have fh : ∀ G, (∀ j,j ∈ G → j ∈ Fo) → HFrame h hq [] G := fun G hG => ⟨by omega,by rw [f.g,hh0]; rfl,fun j hj _ => (f.get j (by omega) (by simp)).trans (hm j hj), fun j hj => by
       rcases f.new j (List.mem_cons_of_mem _ (hG j hj)) with e | e
       ·cases e
       ·exact .inr (by omega), fun j hj => flt j (List.mem_cons_of_mem _ (hG j hj))⟩
     refine AM.gI_bool (fun hc => ?_) (fun hc => ?_)
     ·simp -implicitDefEqProofs (disch := first|decide|assumption|omega|(simp -implicitDefEqProofs only [AM.RN];first|done|omega)|fail) only [↓AM.R0,AM.R1,AM.R2,Nat.reduceAdd,Nat.reduceLeDiff,Nat.reduceEqDiff,Int.reduceToNat,Nat.reduceLT,↓reduceIte,Int.reduceEq,Int.reduceLT,Int.reduceLE,e4,ho,lo,hc]
      simp only [decide_eq_true_eq] at hc
      have hout := hout hc
      refine AM.cI_bool (fun hd => ?_) (fun hd => ?_)
      ·simp only [decide_eq_true_eq] at hd
       simp -implicitDefEqProofs (disch := first|decide|assumption|omega|(simp -implicitDefEqProofs only [AM.RN];first|done|omega)|fail) only [↓AM.R0,AM.R1,AM.R2,Nat.reduceAdd,Nat.reduceLeDiff,Nat.reduceEqDiff,Int.reduceToNat,Nat.reduceLT,↓reduceIte,Int.reduceEq,Int.reduceLT,Int.reduceLE,e4,ho,hc]
       subst hQ
       refine ⟨.nils, [], (fh [] (by simp)).setTmp (by omega) _, ?_⟩
       rw [← hout,if_neg (by omega), if_pos hc]
      ·simp only [decide_eq_false_iff_not] at hd
       simp -implicitDefEqProofs (disch := first|decide|assumption|omega|(simp -implicitDefEqProofs only [AM.RN];first|done|omega)|fail) only [↓AM.R0,AM.R1,AM.R2,Nat.reduceAdd,Nat.reduceLeDiff,Nat.reduceEqDiff,Int.reduceToNat,Nat.reduceLT,↓reduceIte,Int.reduceEq,Int.reduceLT,Int.reduceLE,e4,ho,hc]
       subst hQ
       refine ⟨ov,Fo,fh Fo (fun j h => h), ?_⟩
       rw [← hout,if_pos ⟨hc,by omega⟩]
       exact ⟨rfl,hs⟩
     ·simp -implicitDefEqProofs (disch := first|decide|assumption|omega|(simp -implicitDefEqProofs only [AM.RN];first|done|omega)|fail) only [↓AM.R0,AM.R1,AM.R2,Nat.reduceAdd,Nat.reduceLeDiff,Nat.reduceEqDiff,Int.reduceToNat,Nat.reduceLT,↓reduceIte,Int.reduceEq,Int.reduceLT,Int.reduceLE,e4,ho,lo,hc]
      simp only [decide_eq_false_iff_not] at hc
      subst hQ
      refine ⟨.nils, [],fh [] (by simp), ?_⟩
      rw [if_neg (by intro h; exact hc h.1), if_neg hc]
end Go.Proofs.Ytofcnjglnnoimaa.Vf
namespace Go.Proofs.Ytofcnjglnnoimaa.Vf
open Go Go.AM Go.Proofs.Ytofcnjglnnoimaa.AmGY
attribute [local irreducible] AM.wp AM.wpIs AM.wpTr AM.opI AM.gI AM.cI AM.trI AM.callI AM.fnI AM.trG AM.trOp AM.trCall AM.seqC AM.loopI
set_option maxRecDepth 100000
set_option linter.unusedVariables false
set_option linter.unusedSimpArgs false
theorem asBytes_map (l : List Int) : asBytes (l.map (AVal.int .u8)) = some (l.map fun n => n.toNat.toUInt8) := by
 induction l with
 | nil => rfl
 | cons a l ih => simp only [List.map_cons,asBytes,ih,Option.map_some]
theorem SlIn.b2s {h : AHeap} {v : AVal} {l : List Int} (s : SlIn h 1 encB v l) : b2sV h v = some (.str ⟨(l.map fun n => n.toNat.toUInt8).toArray⟩, h) := by
 rcases s with s | ⟨rfl,id,off,rfl,_⟩
 ·rcases s with ⟨rfl,rfl⟩ | ⟨id,g,off,vs,ro,rfl,b,c,d,e⟩
  ·rfl
  ·by_cases h0 : l.length = 0
   ·have : l = [] := List.eq_nil_of_length_eq_zero h0
    subst this
    rfl
   ·have hfm : l.flatMap encB = l.map (AVal.int .u8) := by
     clear e d h0
     induction l with
     | nil => rfl
     | cons a l ih => simp only [List.flatMap_cons,List.map_cons,ih]; rfl
    have hrd : h.rd id g off l.length = some (l.map (AVal.int .u8)) := by
     simp only [AHeap.rd,b]
     rw [if_pos ⟨trivial,by omega⟩, ← hfm, ← e,Nat.mul_one]
    simp only [b2sV,if_neg h0,c,if_true,hrd,Option.bind_some,asBytes_map,Option.map_some]
 ·rfl
theorem sum_le {α : Type} (f g : α → Nat) (c : Nat) (l : List α) (h : ∀ a,a ∈ l → f a ≤ c * g a) : (l.map f).sum ≤ c * (l.map g).sum := by
 induction l with
 | nil => simp
 | cons a l ih =>
  have h1 := h a List.mem_cons_self
  have h2 := ih fun a ha => h a (List.mem_cons_of_mem _ ha)
  simp only [List.map_cons,List.sum_cons,Nat.mul_add]; omega
theorem sizes2 {p : PProg} (h : sP p ≤ 1048577) : 10 * p.types.length + (p.types.map tB).sum + (p.funcs.map fB).sum + 10 * p.globals.length + 200 < 1073741824 := by
 have e1 := sum_le tB sT 20 p.types fun t _ => by unfold tB sT; omega
 have e2 := sum_le fB sF 20 p.funcs fun f _ => by
  have := sum_le iB sI 20 f.code fun i _ => by unfold iB sI; omega
  unfold fB sF; omega
 have e5 := len_sum sT (fun a => by unfold sT; omega) p.types
 unfold sP at h
 omega
def encE (p : PProg) : Int := if (wprog p).2 = 0 ∧ (wprog p).1.length ≤ 16384 then 0 else if (wprog p).2 = 0 then 2 else (wprog p).2
def encL (p : PProg) : List Int := if (wprog p).2 = 0 ∧ (wprog p).1.length ≤ 16384 then (wprog p).1 else []
theorem refEncode2 {h : AHeap} {p : PProg} {row : List AVal} (R : ProgR h p row) (ok : p.Ok) (hsz : sP p ≤ 1048577) :
  CallP AP 20 [.agg row] h fun r h' => HFrame h h' [] [] ∧ ∃ v,r = .tup [v, .int .i64 (encE p)] ∧ SlIn h' 1 encB v (encL p) :=
 (refEncode R ok (sizes2 hsz)).mono fun r h' q => by
  obtain ⟨ov,Fo,f,q⟩ := q
  refine ⟨HFrame.non f, ?_⟩
  unfold encE encL
  split at q
  ·rename_i c
   rw [if_pos c,if_pos c]
   exact ⟨ov,q.1, .inl (SlOf.rd q.2)⟩
  ·rename_i c
   rw [if_neg c,if_neg c]
   exact ⟨.nils,q, .inl (.inl ⟨rfl,rfl⟩)⟩
set_option maxHeartbeats 2000000 in
theorem lawKeeps {h : AHeap} {p : PProg} {row : List AVal} (R : ProgR h p row) (ok : p.Ok) (hsz : sP p ≤ 1048577) :
  CallP AP 5 [.agg row] h fun r h' => HFrame h h' [] [] ∧ r = .bool true := by
 have R0 := R
 obtain ⟨tv,gv,fv,rfl,RT,RG,RF⟩ := R
 refine callP (rfl : Tr.get AP 5 = some A5) ?_
 generalize hQ : (fun (r : AVal) (h' : AHeap) => _) = Q
 have c4 := SlR.cellv RT
 have c5 := SlIn.cellv RG
 have c6 := SlR.cellv RF
 have f0 := (HFrame.refl (h := h) (F := []) (by simp)).pushTmp (.cells 0 false [tv,gv,fv])
 obtain ⟨hA,hhA⟩ : ∃ hA,hA = (h.push (.cells 0 false [tv,gv,fv])) := ⟨_,rfl⟩
 have gP0 : hA.get h.n = .cells 0 false [tv,gv,fv] := by rw [hhA]; simp -implicitDefEqProofs (disch := first|decide|assumption|omega|(simp -implicitDefEqProofs only [AM.RN];first|done|omega)|fail) only [↓AM.R0,AM.R1,AM.R2,Nat.reduceAdd,Nat.reduceLeDiff,Nat.reduceEqDiff,Int.reduceToNat,Nat.reduceLT,↓reduceIte,Int.reduceEq,Int.reduceLT,Int.reduceLE]
 have n0 : h.n + 1 ≤ hA.n := by rw [hhA]; simp
 simp -implicitDefEqProofs (disch := first|decide|assumption|omega|(simp -implicitDefEqProofs only [AM.RN];first|done|omega)|fail) only [↓AM.R0,AM.R1,AM.R2,Nat.reduceAdd,Nat.reduceLeDiff,Nat.reduceEqDiff,Int.reduceToNat,Nat.reduceLT,↓reduceIte,Int.reduceEq,Int.reduceLT,Int.reduceLE,c4,c5,c6]
 rw [← hhA] at f0 ⊢
 clear hhA
 refine AM.callI_of (awake hA) ?_
 rintro r h1 ⟨f1,rfl⟩
 have gP1 : h1.get h.n = .cells 0 false [tv,gv,fv] := (f1.get h.n (by omega) (by simp)).trans gP0
 have n1 : h.n + 1 ≤ h1.n := by have := f1.n; omega
 have f01 := f0.trans f1
 simp -implicitDefEqProofs (disch := first|decide|assumption|omega|(simp -implicitDefEqProofs only [AM.RN];first|done|omega)|fail) only [↓AM.R0,AM.R1,AM.R2,Nat.reduceAdd,Nat.reduceLeDiff,Nat.reduceEqDiff,Int.reduceToNat,Nat.reduceLT,↓reduceIte,Int.reduceEq,Int.reduceLT,Int.reduceLE,gP1,c4,c5,c6]
 refine AM.callI_of (refEncode2 (R0.keep f01) ok hsz) ?_
 rintro r h2 ⟨f2,v1,rfl,L1⟩
 have gP2 : h2.get h.n = .cells 0 false [tv,gv,fv] := (f2.get h.n (by omega) (by simp)).trans gP1
 have n2 : h.n + 1 ≤ h2.n := by have := f2.n; omega
 have f02 := f01.trans f2
 simp -implicitDefEqProofs (disch := first|decide|assumption|omega|(simp -implicitDefEqProofs only [AM.RN];first|done|omega)|fail) only [↓AM.R0,AM.R1,AM.R2,Nat.reduceAdd,Nat.reduceLeDiff,Nat.reduceEqDiff,Int.reduceToNat,Nat.reduceLT,↓reduceIte,Int.reduceEq,Int.reduceLT,Int.reduceLE,gP2,c4,c5,c6]
 refine AM.callI_of (check (R0.keep f02) ok) ?_
 rintro r h3 ⟨f3,rfl⟩
 have gP3 : h3.get h.n = .cells 0 false [tv,gv,fv] := (f3.get h.n (by omega) (by simp)).trans gP2
 have n3 : h.n + 1 ≤ h3.n := by have := f3.n; omega
 have f03 := f02.trans f3
 have fT := (f03.pushTmp (.cells 0 false [.int .i64 0, .int .i64 0, .int .i64 0])).setTmp (i := h3.n) (by omega) (.cells 0 false [.int .i64 (checkF p).1, .int .i64 (checkF p).2.1, .int .i64 (checkF p).2.2])
 have fU := ((HFrame.refl (h := h3) (F := []) (by simp)).pushTmp (.cells 0 false [.int .i64 0, .int .i64 0, .int .i64 0])).setTmp (i := h3.n) (Nat.le_refl _) (.cells 0 false [.int .i64 (checkF p).1, .int .i64 (checkF p).2.1, .int .i64 (checkF p).2.2])
 obtain ⟨hT,hhT⟩ : ∃ hT,hT = (h3.push (.cells 0 false [.int .i64 0, .int .i64 0, .int .i64 0])).set h3.n (.cells 0 false [.int .i64 (checkF p).1, .int .i64 (checkF p).2.1, .int .i64 (checkF p).2.2]) := ⟨_,rfl⟩
 have gT : hT.get h3.n = .cells 0 false [.int .i64 (checkF p).1, .int .i64 (checkF p).2.1, .int .i64 (checkF p).2.2] := by rw [hhT]; exact AHeap.get_set_same _ _ _
 have gPT : hT.get h.n = .cells 0 false [tv,gv,fv] := by rw [hhT,AHeap.get_set_ne _ _ (by omega), AHeap.get_push_ne _ _ (by omega)]; exact gP3
 have nT : hT.n = h3.n + 1 := by rw [hhT]; simp
 simp -implicitDefEqProofs (disch := first|decide|assumption|omega|(simp -implicitDefEqProofs only [AM.RN];first|done|omega)|fail) only [↓AM.R0,AM.R1,AM.R2,Nat.reduceAdd,Nat.reduceLeDiff,Nat.reduceEqDiff,Int.reduceToNat,Nat.reduceLT,↓reduceIte,Int.reduceEq,Int.reduceLT,Int.reduceLE, ← hhT,gPT,c4,c5,c6]
 rw [← hhT] at fT fU
 clear hhT
 refine AM.callI_of (refEncode2 (R0.keep fT) ok hsz) ?_
 rintro r h4 ⟨f4,v2,rfl,L2⟩
 have gP4 : h4.get h.n = .cells 0 false [tv,gv,fv] := (f4.get h.n (by omega) (by simp)).trans gPT
 have gT4 : h4.get h3.n = .cells 0 false [.int .i64 (checkF p).1, .int .i64 (checkF p).2.1, .int .i64 (checkF p).2.2] := (f4.get h3.n (by omega) (by simp)).trans gT
 have n4 : h3.n + 1 ≤ h4.n := by have := f4.n; omega
 have f04 := fT.trans f4
 have s1 := SlIn.b2s (((L1.keep f3).keep fU).keep f4)
 have s2 := SlIn.b2s L2
 have hee : decide (encE p = encE p) = true := decide_eq_true rfl
 have hss : ∀ a : List UInt8, (a == a) = true := fun a => by simp
 simp -implicitDefEqProofs (disch := first|decide|assumption|omega|(simp -implicitDefEqProofs only [AM.RN];first|done|omega)|fail) only [↓AM.R0,AM.R1,AM.R2,Nat.reduceAdd,Nat.reduceLeDiff,Nat.reduceEqDiff,Int.reduceToNat,Nat.reduceLT,↓reduceIte,Int.reduceEq,Int.reduceLT,Int.reduceLE,gP4,gT4,s1,s2,hee,hss,c4,c5,c6]
 refine AM.trCall_of (check (R0.keep f04) ok) ?_
 rintro r h5 ⟨f5,rfl⟩
 have gP5 : h5.get h.n = .cells 0 false [tv,gv,fv] := (f5.get h.n (by omega) (by simp)).trans gP4
 have gT5 : h5.get h3.n = .cells 0 false [.int .i64 (checkF p).1, .int .i64 (checkF p).2.1, .int .i64 (checkF p).2.2] := (f5.get h3.n (by omega) (by simp)).trans gT4
 have n5 : h4.n ≤ h5.n := f5.n
 have bi : ∀ (k : IntKind) (n : Int), (AVal.int k n).beq (.int k n) = true := fun k n => by simp [AVal.beq]
 simp -implicitDefEqProofs (disch := first|decide|assumption|omega|(simp -implicitDefEqProofs only [AM.RN];first|done|omega)|fail) only [↓AM.R0,AM.R1,AM.R2,Nat.reduceAdd,Nat.reduceLeDiff,Nat.reduceEqDiff,Int.reduceToNat,Nat.reduceLT,↓reduceIte,Int.reduceEq,Int.reduceLT,Int.reduceLE,gP4,gT4,gP5,gT5,s1,s2,hee,hss,bi,AM.sameO_some,c4,c5,c6]
 subst hQ
 exact ⟨f04.trans f5,rfl⟩
end Go.Proofs.Ytofcnjglnnoimaa.Vf
