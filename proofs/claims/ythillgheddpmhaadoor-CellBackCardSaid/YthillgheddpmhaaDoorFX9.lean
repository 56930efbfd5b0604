/-
 What the functions of this seat do,on the machine: lemmas for the laws.
-/
import Derived.Test.YthillgheddpmhaaDoorFX5
import Derived.Test.YthillgheddpmhaaDoorFX8
namespace Go.Proofs.YthillgheddpmhaaDoor.Pg
open Go Go.AM Go.Proofs.YthillgheddpmhaaDoor.AmGE
attribute [local irreducible] AM.wp AM.wpIs AM.wpTr AM.opI AM.gI AM.cI AM.trI AM.callI AM.fnI AM.yldI AM.rangeI AM.rangeC AM.YldP AM.asgQ AM.roundQ AM.rangeQ AM.trG AM.trOp AM.trCall AM.seqC AM.loopI
set_option maxRecDepth 100000
set_option linter.unusedVariables false
set_option linter.unusedSimpArgs false
variable {h h' : AHeap} {g g' : CG} {ws : List Nat} {lv : List (List Sm)} {bs : List Nat} {m : Cm} {cn wn : Int}
def Cm.fl1 (m : Cm) (p c : Nat) : Cm := match m.held p c with
 | none => m
 | some b => (m.upd b.a (Blk.setW none)).drop (Blk.setW none b)
def Cm.flN (m : Cm) (p : Nat) : Nat → Cm
 | 0 => m
 | i + 1 => (m.flN p i).fl1 p i
def Cm.flush (m : Cm) (p : Int) : Int × Cm := if p < 0 ∨ (m.pr : Int) ≤ p then (1,m) else (0,m.flN p.toNat 16)
theorem fl1_cw (I : CInv m) (p c : Nat) : (m.fl1 p c).cells = m.cells ∧ (m.fl1 p c).words = m.words := by
 unfold Cm.fl1
 cases hh : m.held p c with
 | none => exact ⟨rfl,rfl⟩
 | some b =>
  obtain ⟨h1,h2,h3⟩ := held_mem hh
  have I' : CInv (m.upd b.a (Blk.setW none)) := I.setW h1 h2 fun q hq => by cases hq
  have a1 := drop_cw I' (b := Blk.setW none b) (mem_upd.2 (.inl ⟨b,h1,rfl,rfl⟩))
  have a2 := cells_updW I h1 none
  exact ⟨a1.1.trans a2.1,a1.2.trans a2.2⟩
theorem fl1_pr (m : Cm) (p c : Nat) : (m.fl1 p c).pr = m.pr := by
 unfold Cm.fl1 Cm.drop
 cases m.held p c with
 | none => rfl
 | some b => simp only; split <;> rfl
theorem flN_pr (m : Cm) (p : Nat) : ∀ i, (m.flN p i).pr = m.pr
 | 0 => rfl
 | i + 1 => by rw [Cm.flN,fl1_pr,flN_pr m p i]
set_option maxHeartbeats 8000000 in
theorem flushC (T : TabR h) (Q0 : CellQ h g m) (p : Int) : CallP AP 49 [.ptr g.c 0 0, .int .i64 p] h fun r h' => CFr h h' g g ∧ CellQ h' g (m.flush p).2 ∧ r = .int .i64 (m.flush p).1 := by
 have Q1 := Q0
 obtain ⟨ws,lv,bs,R⟩ := Q0
 refine callP (rfl : Tr.get AP 49 = some A49) ?_
 generalize hQ : (fun (r : AVal) (h' : AHeap) => _) = Q
 have g1 := R.obj
 have gh := R.hold
 have lc : g.c < h.n := R.lt (by rw [R.kc.1]; decide)
 have lh : g.hi < h.n := R.lt (by rw [R.kc.2.2]; decide)
 by_cases hbad : p < 0 ∨ (m.pr : Int) ≤ p
 ·have ha : m.flush p = (1,m) := by unfold Cm.flush; rw [if_pos hbad]
  rcases Int.lt_or_le p 0 with c | c
  ·have d1 : decide (p < 0) = true := decide_eq_true c
   simp -implicitDefEqProofs (disch := first|decide|assumption|omega|(simp -implicitDefEqProofs only [AM.RN];first|done|omega)|fail) only [↓AM.R0,AM.R1,AM.R2,Nat.reduceAdd,Nat.reduceLeDiff,Nat.reduceEqDiff,Int.reduceToNat,Nat.reduceLT,↓reduceIte,Int.reduceEq,Int.reduceLT,Int.reduceLE,d1]
   subst hQ; rw [ha]; exact ⟨CFr.refl h g,Q1,rfl⟩
  ·have d1 : decide (p < 0) = false := decide_eq_false (by omega)
   have d2 : decide ((m.pr : Int) ≤ p) = true := decide_eq_true (by omega)
   simp -implicitDefEqProofs (disch := first|decide|assumption|omega|(simp -implicitDefEqProofs only [AM.RN];first|done|omega)|fail) only [↓AM.R0,AM.R1,AM.R2,Nat.reduceAdd,Nat.reduceLeDiff,Nat.reduceEqDiff,Int.reduceToNat,Nat.reduceLT,↓reduceIte,Int.reduceEq,Int.reduceLT,Int.reduceLE,d1,d2,g1]
   subst hQ; rw [ha]; exact ⟨CFr.refl h g,Q1,rfl⟩
 have d1 : decide (p < 0) = false := decide_eq_false (by omega)
 have d2 : decide ((m.pr : Int) ≤ p) = false := decide_eq_false (by omega)
 have ha : m.flush p = (0,m.flN p.toNat 16) := by unfold Cm.flush; rw [if_neg hbad]
 rw [ha] at hQ
 obtain ⟨p,rfl⟩ : ∃ x : Nat,p = x := ⟨p.toNat,by omega⟩
 rw [Int.toNat_natCast] at hQ
 have hp : p < m.pr := by omega
 have hat := hold_at g m hp
 have x1 := ix1 gh (len := m.pr) (i := p) hp
 simp -implicitDefEqProofs (disch := first|decide|assumption|omega|(simp -implicitDefEqProofs only [AM.RN];first|done|omega)|fail) only [↓AM.R0,AM.R1,AM.R2,Nat.reduceAdd,Nat.reduceLeDiff,Nat.reduceEqDiff,Int.reduceToNat,Nat.reduceLT,↓reduceIte,Int.reduceEq,Int.reduceLT,Int.reduceLE,d1,d2,g1,gh,x1,hat]
 refine AM.loopI_of (fun k e h' => ∃ i : Nat,k + i = 16 ∧ e.val 0 = .ptr g.c 0 0 ∧ e.val 1 = .int .i64 (p : Int) ∧ e.val 26 = .sl (g.ρ p) 0 0 16 1 ∧ e.val 27 = .int .i64 16 ∧ e.val 28 = .int .i64 (i : Int) ∧ CFr h h' g g ∧ CellQ h' g (m.flN p i)) 16 ?_ ?_
 ·refine ⟨0,by omega, ?_, ?_, ?_, ?_, ?_,CFr.refl h g,Q1⟩ <;> first | (simp -implicitDefEqProofs (disch := first|decide|assumption|omega|(simp -implicitDefEqProofs only [AM.RN];first|done|omega)|fail) only [↓AM.R0,AM.R1,AM.R2,Nat.reduceAdd,Nat.reduceLeDiff,Nat.reduceEqDiff,Int.reduceToNat,Nat.reduceLT,↓reduceIte,Int.reduceEq,Int.reduceLT,Int.reduceLE]; done) | (simp -implicitDefEqProofs (disch := first|decide|assumption|omega|(simp -implicitDefEqProofs only [AM.RN];first|done|omega)|fail) only [↓AM.R0,AM.R1,AM.R2,Nat.reduceAdd,Nat.reduceLeDiff,Nat.reduceEqDiff,Int.reduceToNat,Nat.reduceLT,↓reduceIte,Int.reduceEq,Int.reduceLT,Int.reduceLE]; rfl)
 ·clear Q1 R g1 gh lc lh hat x1 d1 d2 ha
  rintro k e h1 ⟨c,hk,y0,y1,y26,y27,y28,F1,ws1,lv1,bs1,R1⟩
  have T1 := F1.tabR R1.K0 T
  have hpr := flN_pr m p c
  have hstep : m.flN p (c + 1) = (m.flN p c).fl1 p c := rfl
  generalize hm1 : m.flN p c = m1 at *
  simp -implicitDefEqProofs (disch := first|decide|assumption|omega|(simp -implicitDefEqProofs only [AM.RN];first|done|omega)|fail) only [↓AM.R0,AM.R1,AM.R2,Nat.reduceAdd,Nat.reduceLeDiff,Nat.reduceEqDiff,Int.reduceToNat,Nat.reduceLT,↓reduceIte,Int.reduceEq,Int.reduceLT,Int.reduceLE,y27,y28]
  refine AM.cI_bool (fun hb => ?_) (fun hb => ?_)
  rotate_left
  ·have hb : ¬ c < 16 := by simp only [decide_eq_false_iff_not] at hb; omega
   obtain rfl : c = 16 := by omega
   simp -implicitDefEqProofs (disch := first|decide|assumption|omega|(simp -implicitDefEqProofs only [AM.RN];first|done|omega)|fail) only [↓AM.R0,AM.R1,AM.R2,Nat.reduceAdd,Nat.reduceLeDiff,Nat.reduceEqDiff,Int.reduceToNat,Nat.reduceLT,↓reduceIte,Int.reduceEq,Int.reduceLT,Int.reduceLE]
   subst hQ
   rw [hm1]
   exact ⟨F1, ⟨ws1,lv1,bs1,R1⟩, rfl⟩
  have hc : c < 16 := by simp only [decide_eq_true_eq] at hb; omega
  have hp : p < m1.pr := by rw [hpr]; exact hp
  have gr := R1.row p hp
  have lr : g.ρ p < h1.n := R1.lt (by rw [R1.kr p hp]; decide)
  have x2 := ix1 gr (len := 16) (i := c) hc
  have ra := row_at g m1 p hc
  have w1 : IntKind.i64.wrap ((c : Int) + 1) = ((c + 1 : Nat) : Int) := (wrap64 (by omega) (by omega)).trans (by omega)
  cases hh : m1.held p c with
  | none =>
   have hnv : hv g.ι m1 p c = .nilp := by unfold hv; rw [hh]
   rw [hnv] at ra
   have hf1 : m1.fl1 p c = m1 := by unfold Cm.fl1; rw [hh]
   simp -implicitDefEqProofs (disch := first|decide|assumption|omega|(simp -implicitDefEqProofs only [AM.RN];first|done|omega)|fail) only [↓AM.R0,AM.R1,AM.R2,Nat.reduceAdd,Nat.reduceLeDiff,Nat.reduceEqDiff,Int.reduceToNat,Nat.reduceLT,↓reduceIte,Int.reduceEq,Int.reduceLT,Int.reduceLE,y0,y1,y26,y27,y28,gr,x2,ra,w1]
   refine ⟨k - 1,by omega,c + 1,by omega,rfl,F1, ?_⟩
   rw [hstep,hf1]; exact ⟨ws1,lv1,bs1,R1⟩
  | some b =>
   obtain ⟨hbm,hbc,hbw⟩ := held_mem hh
   have hnv : hv g.ι m1 p c = .ptr (g.ι b.a) 0 0 := by unfold hv; rw [hh]
   rw [hnv] at ra
   simp -implicitDefEqProofs (disch := first|decide|assumption|omega|(simp -implicitDefEqProofs only [AM.RN];first|done|omega)|fail) only [↓AM.R0,AM.R1,AM.R2,Nat.reduceAdd,Nat.reduceLeDiff,Nat.reduceEqDiff,Int.reduceToNat,Nat.reduceLT,↓reduceIte,Int.reduceEq,Int.reduceLT,Int.reduceLE,y0,y1,y26,y27,y28,gr,x2,ra]
   have gcS := R1.obj
   have ghS := R1.hold
   have grS := R1.row p hp
   have haS := hold_at g m1 (p := p) hp
   have raS := row_at g m1 p hc
   have lcS : g.c < h1.n := R1.lt (by rw [R1.kc.1]; decide)
   have lhS : g.hi < h1.n := R1.lt (by rw [R1.kc.2.2]; decide)
   have lrS : g.ρ p < h1.n := R1.lt (by rw [R1.kr p hp]; decide)
   obtain ⟨gbS,lbS⟩ := R1.gb hbm (by omega : b.c ≠ -2)
   have neS : g.ρ p ≠ g.ι b.a := fun e => by have h1 := R1.kr p hp; have h2 := R1.kb b hbm (by omega); rw [e] at h1; omega
   have nhS : g.hi ≠ g.ι b.a := fun e => by have h1 := R1.kc.2.2; have h2 := R1.kb b hbm (by omega); rw [e] at h1; omega
   have ncS : g.c ≠ g.ι b.a := fun e => by have h1 := R1.kc.1; have h2 := R1.kb b hbm (by omega); rw [e] at h1; omega
   have x1S := ix1 ghS (len := m1.pr) (i := p) hp
   have grS2 : (h1.set (g.ι b.a) (.cells 0 false [.int .i64 (b.a : Int), .int .i64 (b.k : Int), .int .i64 (b.c + 1), .int .i64 b.c, .int .u64 (b.u : Int), .bool false])).get (g.ρ p) = .cells 0 false (rowV g m1 p) := by rw [AHeap.get_set_ne _ _ neS]; exact grS
   have x2S := ix1 grS2 (len := 16) (i := c) hc
   have rlS : c + 1 ≤ (rowV g m1 p).length := by rw [row_len]; omega
   obtain ⟨IS,RS0⟩ := R1.setW (w := none) hbm hbc hc hp (.inl ⟨hbw,rfl⟩)
   have RS : CellP ((h1.set (g.ι b.a) (.cells 0 false [.int .i64 (b.a : Int), .int .i64 (b.k : Int), .int .i64 (b.c + 1), .int .i64 b.c, .int .u64 (b.u : Int), .bool false])).set (g.ρ p) (.cells 0 false ((rowV g m1 p).take c ++ [.nilp] ++ (rowV g m1 p).drop (c + 1)))) g _ _ _ (m1.upd b.a (Blk.setW (none))) _ _ := RS0
   have FS := ((F1).set (i := g.ι b.a) (fun _ => by rw [R1.kb b hbm (by omega)]; decide) (.cells 0 false [.int .i64 (b.a : Int), .int .i64 (b.k : Int), .int .i64 (b.c + 1), .int .i64 b.c, .int .u64 (b.u : Int), .bool false])).set (i := g.ρ p) (fun _ => by rw [R1.kr p hp]; decide) (.cells 0 false ((rowV g m1 p).take c ++ [.nilp] ++ (rowV g m1 p).drop (c + 1)))
   simp -implicitDefEqProofs (disch := first|decide|assumption|omega|(simp -implicitDefEqProofs only [AM.RN];first|done|omega)|fail) only [↓AM.R0,AM.R1,AM.R2,Nat.reduceAdd,Nat.reduceLeDiff,Nat.reduceEqDiff,Int.reduceToNat,Nat.reduceLT,↓reduceIte,Int.reduceEq,Int.reduceLT,Int.reduceLE,y0,y1,y26,y27,y28,gcS,ghS,grS,haS,gbS,x1S,x2S,rlS]
   clear RS0
   generalize ((h1.set (g.ι b.a) _).set (g.ρ p) _) = h2 at *
   have hbm2 : Blk.setW none b ∈ (m1.upd b.a (Blk.setW none)).bl := mem_upd.2 (.inl ⟨b,hbm,rfl,rfl⟩)
   have T2 := FS.tabR R1.K0 T
   have hcw := fl1_cw R1.I p c
   have hf1 : m1.fl1 p c = (m1.upd b.a (Blk.setW none)).drop (Blk.setW none b) := by unfold Cm.fl1; rw [hh]
   refine AM.callI_of (dropC T2 RS (b := Blk.setW none b) hbm2 (by show b.c ≠ -2; omega)) ?_
   rintro r h3 ⟨ws3,lv3,bs3,F3,R3⟩
   simp -implicitDefEqProofs (disch := first|decide|assumption|omega|(simp -implicitDefEqProofs only [AM.RN];first|done|omega)|fail) only [↓AM.R0,AM.R1,AM.R2,Nat.reduceAdd,Nat.reduceLeDiff,Nat.reduceEqDiff,Int.reduceToNat,Nat.reduceLT,↓reduceIte,Int.reduceEq,Int.reduceLT,Int.reduceLE,y0,y1,y26,y27,y28,w1]
   refine ⟨k - 1,by omega,c + 1,by omega,rfl,FS.trans F3, ?_⟩
   rw [hstep]
   rw [← hf1] at R3
   exact R3.q (by rw [hcw.1]) (by rw [hcw.2])
end Go.Proofs.YthillgheddpmhaaDoor.Pg
namespace Go.Proofs.YthillgheddpmhaaDoor.Pg
open Go Go.AM Go.Proofs.YthillgheddpmhaaDoor.AmGE
attribute [local irreducible] AM.wp AM.wpIs AM.wpTr AM.opI AM.gI AM.cI AM.trI AM.callI AM.fnI AM.yldI AM.rangeI AM.rangeC AM.YldP AM.asgQ AM.roundQ AM.rangeQ AM.trG AM.trOp AM.trCall AM.seqC AM.loopI
set_option maxRecDepth 100000
set_option linter.unusedVariables false
set_option linter.unusedSimpArgs false
theorem cells_map (i : Nat) : (AVal.map i).cells = [.map i] := rfl
theorem cell_map (i : Nat) : (AVal.map i).cell = true := rfl
theorem ms16 (h : AHeap) : msV h 1 8 [.nilp] (.int .i64 16) = some (.sl h.n 0 0 16 1,h.push (.cells 0 false (List.replicate 16 .nilp))) := rfl
def Cm.zero (n p : Nat) : Cm := ⟨n,p, []⟩
theorem zeroI_ {n p : Nat} : CInv (Cm.zero n p) :=
 ⟨SInv.nil fun q hq => by unfold Cm.f Cm.zero; simp; exact hq,fun b hb => by simp [Cm.zero] at hb,fun b b' p hb => by simp [Cm.zero] at hb,fun b p hb => by simp [Cm.zero] at hb⟩
def OffZ (v : AVal) : Prop := v = .nils ∨ ∃ id g n e,v = .sl id g 0 n e
theorem app_off {h h' : AHeap} {esz b : Nat} {x y v : AVal} (e : h.app esz b x y = some (v,h')) (hx : OffZ x) : OffZ v := by
 unfold AHeap.app at e
 cases he : h.elems esz y with
 | none => rw [he] at e; cases e
 | some p =>
  obtain ⟨m,ys⟩ := p
  rw [he] at e
  simp only [Option.bind_some] at e
  split at e
  ·split at e
   ·cases e; exact .inl rfl
   ·split at e
    ·cases e; exact .inr ⟨_,_,_,_,rfl⟩
    ·cases e
  ·split at e
   ·split at e
    ·cases e; exact hx
    ·cases e
   ·split at e
    ·split at e
     ·split at e
      ·cases e; exact .inr ⟨_,_,_,_,rfl⟩
      ·cases e
     ·cases e
    ·cases e
  ·cases e
theorem wpOp_off {h : AHeap} {esz b : Nat} {x y : AVal} {k : AVal → AHeap → Prop} (hx : OffZ x) (w : AM.wpOp (h.app esz b x y) fun v h' => OffZ v → k v h') : AM.wpOp (h.app esz b x y) k := by
 cases e : h.app esz b x y with
 | none => rw [e] at w; exact w
 | some p => rw [e] at w; exact w (app_off e hx)
theorem getD_mem {l : List Nat} {i : Nat} (h : i < l.length) : l.getD i 0 ∈ l := by
 rw [List.getD_eq_getElem?_getD,List.getElem?_eq_getElem h]; exact List.getElem_mem h
theorem getD_inj {l : List Nat} (hn : l.Nodup) {i j : Nat} (hi : i < l.length) (hj : j < l.length) (e : l.getD i 0 = l.getD j 0) : i = j := by
 rw [List.getD_eq_getElem?_getD,List.getElem?_eq_getElem hi,List.getD_eq_getElem?_getD,List.getElem?_eq_getElem hj] at e
 exact (List.getElem_inj hn).1 e
def encR' (j : Nat) : List AVal := [.sl j 0 0 16 1]
theorem range_getD : ∀ l : List Nat, (List.range l.length).map (fun i => AVal.sl (l.getD i 0) 0 0 16 1) = l.flatMap encR'
 | [] => rfl
 | a :: l => by
  rw [List.length_cons,List.range_succ_eq_map,List.map_cons,List.map_map,List.flatMap_cons]
  have := range_getD l
  rw [← this]; rfl
def encR (j : Nat) : List AVal := [.sl j 0 0 16 1]
set_option maxHeartbeats 8000000 in
theorem newC {h : AHeap} (T : TabR h) (n p : Int) : CallP AP 42 [.int .i64 n, .int .i64 p] h fun r h' => (¬ (1 ≤ p ∧ p ≤ 8 ∧ 1 ≤ n ∧ n ≤ 4096) ∧ HFrame h h' [] [] ∧ r = .tup [.nilp, .int .i64 1]) ∨
  (1 ≤ p ∧ p ≤ 8 ∧ 1 ≤ n ∧ n ≤ 4096 ∧ ∃ g,HFrame h h' [] [] ∧ (∀ j,g.K j ≠ 0 → h.n ≤ j) ∧ CellQ h' g (Cm.zero n.toNat p.toNat) ∧ r = .tup [.ptr g.c 0 0, .int .i64 0]) := by
 refine callP (rfl : Tr.get AP 42 = some A42) ?_
 generalize hQ : (fun (r : AVal) (h' : AHeap) => _) = Q
 rcases Int.lt_or_le p 1 with c1 | c1
 ·have d1 : decide (p < 1) = true := decide_eq_true c1
  simp -implicitDefEqProofs (disch := first|decide|assumption|omega|(simp -implicitDefEqProofs only [AM.RN];first|done|omega)|fail) only [↓AM.R0,AM.R1,AM.R2,Nat.reduceAdd,Nat.reduceLeDiff,Nat.reduceEqDiff,Int.reduceToNat,Nat.reduceLT,↓reduceIte,Int.reduceEq,Int.reduceLT,Int.reduceLE,d1]
  subst hQ; exact .inl ⟨by omega,HFrame.refl (by simp), rfl⟩
 have d1 : decide (p < 1) = false := decide_eq_false (by omega)
 rcases Int.lt_or_le 8 p with c2 | c2
 ·have d2 : decide ((8 : Int) < p) = true := decide_eq_true c2
  simp -implicitDefEqProofs (disch := first|decide|assumption|omega|(simp -implicitDefEqProofs only [AM.RN];first|done|omega)|fail) only [↓AM.R0,AM.R1,AM.R2,Nat.reduceAdd,Nat.reduceLeDiff,Nat.reduceEqDiff,Int.reduceToNat,Nat.reduceLT,↓reduceIte,Int.reduceEq,Int.reduceLT,Int.reduceLE,d1,d2]
  subst hQ; exact .inl ⟨by omega,HFrame.refl (by simp), rfl⟩
 have d2 : decide ((8 : Int) < p) = false := decide_eq_false (by omega)
 simp -implicitDefEqProofs (disch := first|decide|assumption|omega|(simp -implicitDefEqProofs only [AM.RN];first|done|omega)|fail) only [↓AM.R0,AM.R1,AM.R2,Nat.reduceAdd,Nat.reduceLeDiff,Nat.reduceEqDiff,Int.reduceToNat,Nat.reduceLT,↓reduceIte,Int.reduceEq,Int.reduceLT,Int.reduceLE,d1,d2]
 refine AM.callI_of (newS T n) ?_
 rintro r h1 (⟨c3,f1,rfl⟩ | ⟨n1,n2,t,so,oo,q,ws,lv,f1,R,hf,rfl⟩)
 ·simp -implicitDefEqProofs (disch := first|decide|assumption|omega|(simp -implicitDefEqProofs only [AM.RN];first|done|omega)|fail) only [↓AM.R0,AM.R1,AM.R2,Nat.reduceAdd,Nat.reduceLeDiff,Nat.reduceEqDiff,Int.reduceToNat,Nat.reduceLT,↓reduceIte,Int.reduceEq,Int.reduceLT,Int.reduceLE]
  subst hQ; exact .inl ⟨by omega,f1,rfl⟩
 obtain ⟨p,rfl⟩ : ∃ x : Nat,p = x := ⟨p.toNat,by omega⟩
 obtain ⟨n,rfl⟩ : ∃ x : Nat,n = x := ⟨n.toNat,by omega⟩
 rw [Int.toNat_natCast] at R hf hQ
 rw [Int.toNat_natCast] at hQ
 simp -implicitDefEqProofs (disch := first|decide|assumption|omega|(simp -implicitDefEqProofs only [AM.RN];first|done|omega)|fail) only [↓AM.R0,AM.R1,AM.R2,Nat.reduceAdd,Nat.reduceLeDiff,Nat.reduceEqDiff,Int.reduceToNat,Nat.reduceLT,↓reduceIte,Int.reduceEq,Int.reduceLT,Int.reduceLE,a_mkMap,cells_map,cell_map]
 have F2 : HFrame h ((h1.push (.map [])).push (.cells 0 false [.ptr t 0 0, .map h1.n, .nils, .int .i64 0, .int .i64 0])) [] [] := ((HFrame.non f1).pushTmp _).pushTmp _
 have fR : HFrame h1 ((h1.push (.map [])).push (.cells 0 false [.ptr t 0 0, .map h1.n, .nils, .int .i64 0, .int .i64 0])) [] [] := ((HFrame.refl (h := h1) (F := []) (by simp)).pushTmp _).pushTmp _
 have R2 := R.keep fR
 have gm : ((h1.push (.map [])).push (.cells 0 false [.ptr t 0 0, .map h1.n, .nils, .int .i64 0, .int .i64 0])).get h1.n = .map [] := by rw [AHeap.get_push_ne _ _ (by simp), AHeap.get_push_same]
 have gc : ((h1.push (.map [])).push (.cells 0 false [.ptr t 0 0, .map h1.n, .nils, .int .i64 0, .int .i64 0])).get (h1.n + 1) = .cells 0 false [.ptr t 0 0, .map h1.n, .nils, .int .i64 0, .int .i64 0] := AHeap.get_push_same _ _
 have n3 : ((h1.push (.map [])).push (.cells 0 false [.ptr t 0 0, .map h1.n, .nils, .int .i64 0, .int .i64 0])).n = h1.n + 2 := by simp
 have hnew : ∀ j,j ∈ q.F ++ [t,so,oo] → h.n ≤ j ∧ j < h1.n := fun j hj => by
  refine ⟨?_,R.flt j hj⟩
  rcases f1.new j hj with e | e
  ·simp at e
  ·exact e
 have hn1 := f1.n
 generalize (h1.push (.map [])).push (.cells 0 false [.ptr t 0 0, .map h1.n, .nils, .int .i64 0, .int .i64 0]) = h3 at *
 refine AM.loopI_of (fun k e h' => ∃ (i : Nat) (rs : List Nat) (sv : AVal) (G : List Nat), k + i = p ∧ rs.length = i ∧ e.val 8 = .ptr (h1.n + 1) 0 0 ∧ e.val 27 = .int .i64 (p : Int) ∧ e.val 28 = .int .i64 (i : Int) ∧ HFrame h h' [] [] ∧ HFrame h3 h' [h1.n + 1] [h1.n + 1] ∧
  h'.get (h1.n + 1) = .cells 0 false [.ptr t 0 0, .map h1.n,sv, .int .i64 0, .int .i64 0] ∧ SlOf h' 1 encR sv rs G ∧ OffZ sv ∧ (∀ j,j ∈ G → h3.n ≤ j) ∧ rs.Nodup ∧ (∀ j,j ∈ rs → h3.n ≤ j ∧ j < h'.n ∧ j ∉ G ∧ h'.get j = .cells 0 false (List.replicate 16 .nilp))) p ?_ ?_
 ·refine ⟨0, [], .nils, [],by omega,rfl, ?_, ?_, ?_,F2,HFrame.refl (by simp; omega), gc,SlOf.nil, .inl rfl,by simp,List.nodup_nil,by simp⟩ <;> first | (simp -implicitDefEqProofs (disch := first|decide|assumption|omega|(simp -implicitDefEqProofs only [AM.RN];first|done|omega)|fail) only [↓AM.R0,AM.R1,AM.R2,Nat.reduceAdd,Nat.reduceLeDiff,Nat.reduceEqDiff,Int.reduceToNat,Nat.reduceLT,↓reduceIte,Int.reduceEq,Int.reduceLT,Int.reduceLE]; done) | (simp -implicitDefEqProofs (disch := first|decide|assumption|omega|(simp -implicitDefEqProofs only [AM.RN];first|done|omega)|fail) only [↓AM.R0,AM.R1,AM.R2,Nat.reduceAdd,Nat.reduceLeDiff,Nat.reduceEqDiff,Int.reduceToNat,Nat.reduceLT,↓reduceIte,Int.reduceEq,Int.reduceLT,Int.reduceLE]; rfl)
 rintro k e h' ⟨i,rs,sv,G,hk,hrs,y8,y27,y28,F4,f4,gc4,so4,hoff,hG,hnd,hrow⟩
 have hn4 := f4.n
 simp -implicitDefEqProofs (disch := first|decide|assumption|omega|(simp -implicitDefEqProofs only [AM.RN];first|done|omega)|fail) only [↓AM.R0,AM.R1,AM.R2,Nat.reduceAdd,Nat.reduceLeDiff,Nat.reduceEqDiff,Int.reduceToNat,Nat.reduceLT,↓reduceIte,Int.reduceEq,Int.reduceLT,Int.reduceLE,y27,y28]
 refine AM.cI_bool (fun hb => ?_) (fun hb => ?_)
 ·have hi : i < p := by simp only [decide_eq_true_eq] at hb; omega
  have lc4 : h1.n + 1 < h'.n := by omega
  have w1 : IntKind.i64.wrap ((i : Int) + 1) = ((i + 1 : Nat) : Int) := (wrap64 (by omega) (by omega)).trans (by omega)
  simp -implicitDefEqProofs (disch := first|decide|assumption|omega|(simp -implicitDefEqProofs only [AM.RN];first|done|omega)|fail) only [↓AM.R0,AM.R1,AM.R2,Nat.reduceAdd,Nat.reduceLeDiff,Nat.reduceEqDiff,Int.reduceToNat,Nat.reduceLT,↓reduceIte,Int.reduceEq,Int.reduceLT,Int.reduceLE,y8,gc4]
  refine AM.trCall_of countC ?_
  rintro r h5 ⟨f5,rfl⟩
  have m16 := ms16 h5
  have gc5 := (f5.get _ lc4 (by simp)).trans gc4
  have so5 := so4.frame f5.n fun j hj => f5.get j (so4.lt j hj) (by simp)
  have hn5 := f5.n
  have f6 : HFrame h5 (h5.push (.cells 0 false (List.replicate 16 .nilp))) [] [] := (HFrame.refl (h := h5) (F := []) (by simp)).pushTmp _
  have g6 : (h5.push (.cells 0 false (List.replicate 16 .nilp))).get h5.n = .cells 0 false (List.replicate 16 .nilp) := AHeap.get_push_same _ _
  have n6 : (h5.push (.cells 0 false (List.replicate 16 .nilp))).n = h5.n + 1 := by simp
  have so6 := so5.frame f6.n fun j hj => f6.get j (so5.lt j hj) (by simp)
  have lc5 : h1.n + 1 < h5.n := by omega
  have gc6 := (f6.get _ lc5 (by simp)).trans gc5
  simp -implicitDefEqProofs (disch := first|decide|assumption|omega|(simp -implicitDefEqProofs only [AM.RN];first|done|omega)|fail) only [↓AM.R0,AM.R1,AM.R2,Nat.reduceAdd,Nat.reduceLeDiff,Nat.reduceEqDiff,Int.reduceToNat,Nat.reduceLT,↓reduceIte,Int.reduceEq,Int.reduceLT,Int.reduceLE,m16,gc5]
  generalize h5.push (.cells 0 false (List.replicate 16 .nilp)) = h6 at *
  rw [← n6]
  have hbeq : sv.beq sv = true := by rcases so4 with ⟨a,_⟩ | ⟨id,g', off,vs,a,_⟩ <;> rw [a] <;> simp [AVal.beq]
  refine AM.trOp_of (wpOp_off hoff (SlOf.app1 so6 (fun _ => rfl) (fun _ => rfl) (by omega) h5.n fun sw h7 H7 so7 f7 hoff7 => ?_))
  have cG : h1.n + 1 ∉ G := fun hm => by have := hG _ hm; omega
  have gc7 := (f7.get (h1.n + 1) (by omega) cG).trans gc6
  have lc7 : h1.n + 1 < h7.n := by have := f7.n; omega
  have hn7 := f7.n
  have hH : ∀ j,j ∈ H7 → h3.n ≤ j := fun j hj => by
   rcases f7.new j hj with q | q
   ·exact hG j q
   ·omega
  have q7 := so7.rd.cells
  have gp : (h6.push (.cells 0 false (encR h5.n))).get (h1.n + 1) = .cells 0 false [.ptr t 0 0, .map h1.n,sv, .int .i64 0, .int .i64 0] := by rw [AHeap.get_push_ne _ _ (by omega)]; exact gc6
  simp only [encR] at gp
  simp -implicitDefEqProofs (disch := first|decide|assumption|omega|(simp -implicitDefEqProofs only [AM.RN];first|done|omega)|fail) only [↓AM.R0,AM.R1,AM.R2,Nat.reduceAdd,Nat.reduceLeDiff,Nat.reduceEqDiff,Int.reduceToNat,Nat.reduceLT,↓reduceIte,Int.reduceEq,Int.reduceLT,Int.reduceLE,gc7,gc6,gc5,gp,q7.1,q7.2,w1,hbeq,y28]
  have fs := HFrame.set h7 (h1.n + 1) (.cells 0 false [.ptr t 0 0, .map h1.n,sw, .int .i64 0, .int .i64 0]) (F := [h1.n + 1]) (by simp) (by simpa using lc7)
  have so8 := so7.set (i := h1.n + 1) (fun hm => by have := hH _ hm; omega) (.cells 0 false [.ptr t 0 0, .map h1.n,sw, .int .i64 0, .int .i64 0])
  refine ⟨k - 1,by omega,i + 1,rs ++ [h5.n],sw,H7,by omega,by rw [List.length_append,hrs]; rfl,y8,y27,rfl, ?_, ?_,rfl,so8,hoff7,hH, ?_,fun j hj => ?_⟩
  ·have a1 := (F4.trans f5).trans f6
   have a2 : HFrame h6 h7 G H7 := f7
   refine HFrame.setTmp ⟨by omega,by rw [a2.g,a1.g],fun j hj _ => ?_,fun j hj => by simp at hj,fun j hj => by simp at hj⟩ (by omega) _
   rw [a2.get j (by omega) (fun hm => by have := hG _ hm; omega)]
   exact a1.get j hj (by simp)
  ·refine ⟨by simp; omega,by rw [show (h7.set (h1.n + 1) _).g = h7.g from rfl,f7.g,f6.g,f5.g,f4.g],fun j hj hm => ?_,fun j hj => .inl hj,fun j hj => by simp at hj; subst hj; simp; omega⟩
   simp only [List.mem_singleton] at hm
   rw [AHeap.get_set_ne _ _ hm,f7.get j (by omega) (fun hm => by have := hG _ hm; omega), f6.get j (by omega) (by simp), f5.get j (by omega) (by simp)]
   exact f4.get j hj (by simpa using hm)
  ·rw [List.nodup_append]
   refine ⟨hnd,by simp,fun x hx y hy => ?_⟩
   simp at hy; subst hy
   have := (hrow x hx).2.1
   omega
  ·have key : h3.n ≤ j ∧ j < h6.n ∧ j ∉ G ∧ h6.get j = .cells 0 false (List.replicate 16 .nilp) := by
    rcases List.mem_append.1 hj with q | q
    ·obtain ⟨r1,r2,r3,r4⟩ := hrow j q
     exact ⟨r1,by omega,r3, (f6.get j (by omega) (by simp)).trans ((f5.get j r2 (by simp)).trans r4)⟩
    ·simp at q; subst q
     exact ⟨by omega,by omega,fun hm => by have := so4.lt _ hm; omega,g6⟩
   obtain ⟨r1,r2,r3,r4⟩ := key
   refine ⟨r1,by omega,fun hm => ?_, ?_⟩
   ·rcases f7.new j hm with e | e
    ·exact r3 e
    ·omega
   ·rw [AHeap.get_set_ne _ _ (by omega), f7.get j r2 r3,r4]
 ·have hi : i = p := by simp only [decide_eq_false_iff_not] at hb; omega
  simp -implicitDefEqProofs (disch := first|decide|assumption|omega|(simp -implicitDefEqProofs only [AM.RN];first|done|omega)|fail) only [↓AM.R0,AM.R1,AM.R2,Nat.reduceAdd,Nat.reduceLeDiff,Nat.reduceEqDiff,Int.reduceToNat,Nat.reduceLT,↓reduceIte,Int.reduceEq,Int.reduceLT,Int.reduceLE,y8]
  subst hQ
  obtain ⟨id,gn,vs,hid,gid,lid,hvs,hGid⟩ : ∃ id gn vs,sv = .sl id gn 0 rs.length 1 ∧ h'.get id = .cells gn false vs ∧ id < h'.n ∧ vs = rs.flatMap encR ∧ G = [id] := by
   rcases so4 with ⟨_,e,_⟩ | ⟨id,gn,off,vs,e1,e2,e3,e4,e5,e6⟩
   ·subst e; simp at hrs; omega
   ·rcases hoff with e | ⟨a,b,c,d,e⟩
    ·rw [e] at e1; cases e1
    ·rw [e] at e1; cases e1
     exact ⟨id,gn,vs,e,e2,e3,by rw [← e5]; rfl,e6⟩
  have hidn : h3.n ≤ id := hG id (by rw [hGid]; simp)
  have K1 : ∀ j,j ∈ q.F ++ [t,so,oo] → j < h1.n := fun j hj => (hnew j hj).2
  have hKK : ∀ j, (if j = h1.n + 1 then 1 else if j = h1.n then 2 else if j = id then 3 else if j ∈ rs then 4 else if j ∈ q.F ++ [t,so,oo] then 6 else 0) ≠ 0 → h.n ≤ j ∧ j < h'.n := fun j hj => by
   split at hj
   ·omega
   ·split at hj
    ·omega
    ·split at hj
     ·omega
     ·split at hj
      ·rename_i hm; have := hrow j hm; omega
      ·split at hj
       ·rename_i hm; have := hnew j hm; omega
       ·exact absurd rfl hj
  refine .inr ⟨by omega,by omega,by omega,by omega, ⟨h1.n + 1,t,so,oo,h1.n,id,gn,q,fun x => rs.getD x 0,fun _ => 0,fun j => if j = h1.n + 1 then 1 else if j = h1.n then 2 else if j = id then 3 else if j ∈ rs then 4 else if j ∈ q.F ++ [t,so,oo] then 6 else 0⟩, F4,fun j hj => (hKK j hj).1, ⟨ws,lv, [], ?_⟩, rfl⟩
  subst hi
  have n0 := T.2
  refine ⟨zeroI_,R2.keepD f4 (fun j hj hm => by simp at hm; have := K1 j hj; omega), by show i ≤ 8; omega, ?_, (f4.get h1.n (by omega) (by simp)).trans gm,List.nodup_nil,fun a => by simp [Cm.zero], ?_,fun p hp => ?_,fun b hb => by simp [Cm.zero] at hb,fun j hj => ⟨by have := hKK j hj; omega, (hKK j hj).2⟩, ⟨if_pos rfl, ?_, ?_⟩, fun p hp => ?_,fun b hb => by simp [Cm.zero] at hb,fun j hj => ?_,fun a b ha hb e => getD_inj hnd (by rw [hrs]; exact ha) (by rw [hrs]; exact hb) e,fun b b' hb => by simp [Cm.zero] at hb⟩
  ·show h'.get (h1.n + 1) = _
   rw [gc4,hid,hrs]; rfl
  ·show h'.get id = .cells gn false (holdV _ _)
   rw [gid,hvs]
   have := range_getD rs
   rw [hrs] at this
   show _ = AObj.cells gn false ((List.range i).map fun p => .sl (rs.getD p 0) 0 0 16 1)
   rw [this]; rfl
  ·have hp : p < i := hp
   have hm := getD_mem (l := rs) (i := p) (by omega)
   show h'.get (rs.getD p 0) = _
   rw [(hrow _ hm).2.2.2]
   rfl
  ·show (if h1.n = h1.n + 1 then 1 else if h1.n = h1.n then 2 else _) = 2
   rw [if_neg (by omega), if_pos rfl]
  ·show (if id = h1.n + 1 then 1 else if id = h1.n then 2 else if id = id then 3 else _) = 3
   rw [if_neg (by omega), if_neg (by omega), if_pos rfl]
  ·have hp : p < i := hp
   have hm := getD_mem (l := rs) (i := p) (by omega)
   have := hrow _ hm
   show (if rs.getD p 0 = h1.n + 1 then 1 else if rs.getD p 0 = h1.n then 2 else if rs.getD p 0 = id then 3 else if rs.getD p 0 ∈ rs then 4 else _) = 4
   rw [if_neg (by omega), if_neg (by omega), if_neg (fun e => this.2.2.1 (by rw [hGid,e]; simp)), if_pos hm]
  ·have hj' : j ∈ q.F ++ [t,so,oo] := hj
   have := K1 j hj'
   show (if j = h1.n + 1 then 1 else if j = h1.n then 2 else if j = id then 3 else if j ∈ rs then 4 else if j ∈ q.F ++ [t,so,oo] then 6 else 0) = 6
   rw [if_neg (by omega), if_neg (by omega), if_neg (by omega), if_neg (fun hm => by have := hrow j hm; omega), if_pos hj']
end Go.Proofs.YthillgheddpmhaaDoor.Pg
namespace Go.Proofs.YthillgheddpmhaaDoor.Pg
open Go Go.AM Go.Proofs.YthillgheddpmhaaDoor.AmGE
attribute [local irreducible] AM.wp AM.wpIs AM.wpTr AM.opI AM.gI AM.cI AM.trI AM.callI AM.fnI AM.yldI AM.rangeI AM.rangeC AM.YldP AM.asgQ AM.roundQ AM.rangeQ AM.trG AM.trOp AM.trCall AM.seqC AM.loopI
set_option maxRecDepth 100000
set_option linter.unusedVariables false
set_option linter.unusedSimpArgs false
/-- What a room that was made here leaves alone. -/
theorem CFr.newH {h h1 h' : AHeap} {g g' : CG} (f : HFrame h h1 [] []) (k : ∀ j,g.K j ≠ 0 → h.n ≤ j) (F : CFr h1 h' g g') : HFrame h h' [] [] ∧ ∀ j,j < h.n → g'.K j = 0 := by
 have hk : ∀ j,j < h.n → g.K j = 0 := fun j hj => by
  cases e : g.K j with
  | zero => rfl
  | succ x => have := k j (by omega); omega
 refine ⟨⟨Nat.le_trans f.n F.n,F.G.trans f.g,fun j hj _ => (F.get j (Nat.lt_of_lt_of_le hj f.n) (hk j hj)).trans (f.get j hj (by simp)), fun j hj => by simp at hj,fun j hj => by simp at hj⟩, fun j hj => (F.K j (Nat.lt_of_lt_of_le hj f.n)).trans (hk j hj)⟩
theorem CellQ.K0 {h : AHeap} {g : CG} {m : Cm} (Q : CellQ h g m) : g.K 0 = 0 := by obtain ⟨ws,lv,bs,R⟩ := Q; exact R.K0
theorem CellQ.keep {h h' : AHeap} {g : CG} {m : Cm} (Q : CellQ h g m) {A : List Nat} (f : HFrame h h' [] A) : CellQ h' g m := by obtain ⟨ws,lv,bs,R⟩ := Q; exact ⟨ws,lv,bs,R.keep f⟩
theorem CellQ.keepD {h h' : AHeap} {g : CG} {m : Cm} (Q : CellQ h g m) {A A' : List Nat} (f : HFrame h h' A A') (d : ∀ j,g.K j ≠ 0 → j ∉ A) : CellQ h' g m := by obtain ⟨ws,lv,bs,R⟩ := Q; exact ⟨ws,lv,bs,R.keepD f d⟩
set_option maxHeartbeats 4000000 in
theorem awakeC {h : AHeap} (T : TabR h) : CallP AP 43 [] h fun r h' => HFrame h h' [] [] ∧ r = .bool true := by
 refine callP (rfl : Tr.get AP 43 = some A43) ?_
 generalize hQ : (fun (r : AVal) (h' : AHeap) => _) = Q
 simp -implicitDefEqProofs (disch := first|decide|assumption|omega|(simp -implicitDefEqProofs only [AM.RN];first|done|omega)|fail) only [↓AM.R0,AM.R1,AM.R2,Nat.reduceAdd,Nat.reduceLeDiff,Nat.reduceEqDiff,Int.reduceToNat,Nat.reduceLT,↓reduceIte,Int.reduceEq,Int.reduceLT,Int.reduceLE]
 refine AM.callI_of (newC T 8 2) ?_
 rintro r h1 (⟨c,_⟩ | ⟨_,_,_,_,g,f1,k1,Q1,rfl⟩)
 ·exact absurd ⟨by decide,by decide,by decide,by decide⟩ c
 have T1 := T.frame f1 (by simp)
 have e1 : (Cm.zero (8 : Int).toNat (2 : Int).toNat) = Cm.zero 8 2 := rfl
 rw [e1] at Q1
 simp -implicitDefEqProofs (disch := first|decide|assumption|omega|(simp -implicitDefEqProofs only [AM.RN];first|done|omega)|fail) only [↓AM.R0,AM.R1,AM.R2,Nat.reduceAdd,Nat.reduceLeDiff,Nat.reduceEqDiff,Int.reduceToNat,Nat.reduceLT,↓reduceIte,Int.reduceEq,Int.reduceLT,Int.reduceLE]
 refine AM.callI_of (allocC T1 Q1 0 3) ?_
 rintro r h2 ⟨g2,F2,Q2,rfl⟩
 have T2 := F2.tabR Q1.K0 T1
 have a2 : ((Cm.zero 8 2).alloc 0 3).1 = (0,0) := by decide +kernel
 rw [a2, ← F2.c]
 generalize hm2 : ((Cm.zero 8 2).alloc 0 3).2 = m2 at *
 simp -implicitDefEqProofs (disch := first|decide|assumption|omega|(simp -implicitDefEqProofs only [AM.RN];first|done|omega)|fail) only [↓AM.R0,AM.R1,AM.R2,Nat.reduceAdd,Nat.reduceLeDiff,Nat.reduceEqDiff,Int.reduceToNat,Nat.reduceLT,↓reduceIte,Int.reduceEq,Int.reduceLT,Int.reduceLE,res2]
 refine AM.callI_of (allocC T2 Q2 0 3) ?_
 rintro r h3 ⟨g3,F3,Q3,rfl⟩
 have T3 := F3.tabR Q2.K0 T2
 have a3 : (m2.alloc 0 3).1 = (3,0) := by rw [← hm2]; decide +kernel
 rw [a3, ← F3.c]
 generalize hm3 : (m2.alloc 0 3).2 = m3 at *
 simp -implicitDefEqProofs (disch := first|decide|assumption|omega|(simp -implicitDefEqProofs only [AM.RN];first|done|omega)|fail) only [↓AM.R0,AM.R1,AM.R2,Nat.reduceAdd,Nat.reduceLeDiff,Nat.reduceEqDiff,Int.reduceToNat,Nat.reduceLT,↓reduceIte,Int.reduceEq,Int.reduceLT,Int.reduceLE,res2]
 refine AM.callI_of (allocC T3 Q3 1 3) ?_
 rintro r h4 ⟨g4,F4,Q4,rfl⟩
 have T4 := F4.tabR Q3.K0 T3
 have a4 : (m3.alloc 1 3).1 = (64,0) := by rw [← hm3, ← hm2]; decide +kernel
 rw [a4, ← F4.c]
 generalize hm4 : (m3.alloc 1 3).2 = m4 at *
 simp -implicitDefEqProofs (disch := first|decide|assumption|omega|(simp -implicitDefEqProofs only [AM.RN];first|done|omega)|fail) only [↓AM.R0,AM.R1,AM.R2,Nat.reduceAdd,Nat.reduceLeDiff,Nat.reduceEqDiff,Int.reduceToNat,Nat.reduceLT,↓reduceIte,Int.reduceEq,Int.reduceLT,Int.reduceLE,res2]
 have Q4' := Q4
 obtain ⟨ws,lv,bs,R4⟩ := Q4'
 refine AM.callI_of (findC R4 5 (by decide)) ?_
 rintro r h5 ⟨f5,rfl⟩
 have Q5 := Q4.keep f5
 have a5 : encC (m4.cell 5) = .tup [.int .i64 3, .int .i64 3, .bool true] := by
  have e : (m4.cell 5).map (fun p => (p.1.a,p.2,p.1.ws)) = some (0,1,3) := by rw [← hm4, ← hm3, ← hm2]; decide +kernel
  cases hc : m4.cell 5 with
  | none => rw [hc] at e; cases e
  | some p =>
   obtain ⟨b,k⟩ := p
   rw [hc] at e
   simp only [Option.map_some,Option.some.injEq,Prod.mk.injEq] at e
   unfold encC
   simp only [e.1,e.2.1,e.2.2]; rfl
 rw [a5]
 simp -implicitDefEqProofs (disch := first|decide|assumption|omega|(simp -implicitDefEqProofs only [AM.RN];first|done|omega)|fail) only [↓AM.R0,AM.R1,AM.R2,Nat.reduceAdd,Nat.reduceLeDiff,Nat.reduceEqDiff,Int.reduceToNat,Nat.reduceLT,↓reduceIte,Int.reduceEq,Int.reduceLT,Int.reduceLE]
 refine AM.callI_of (usedC Q5 1) ?_
 rintro r h6 ⟨f6,rfl⟩
 have Q6 := Q5.keep f6
 have a6 : (findF m4.L 1).isSome = true := by rw [← hm4, ← hm3, ← hm2]; decide +kernel
 rw [a6]
 simp -implicitDefEqProofs (disch := first|decide|assumption|omega|(simp -implicitDefEqProofs only [AM.RN];first|done|omega)|fail) only [↓AM.R0,AM.R1,AM.R2,Nat.reduceAdd,Nat.reduceLeDiff,Nat.reduceEqDiff,Int.reduceToNat,Nat.reduceLT,↓reduceIte,Int.reduceEq,Int.reduceLT,Int.reduceLE]
 refine AM.callI_of (usedC Q6 2) ?_
 rintro r h7 ⟨f7,rfl⟩
 have a7 : (findF m4.L 2).isSome = false := by rw [← hm4, ← hm3, ← hm2]; decide +kernel
 rw [a7]
 simp -implicitDefEqProofs (disch := first|decide|assumption|omega|(simp -implicitDefEqProofs only [AM.RN];first|done|omega)|fail) only [↓AM.R0,AM.R1,AM.R2,Nat.reduceAdd,Nat.reduceLeDiff,Nat.reduceEqDiff,Int.reduceToNat,Nat.reduceLT,↓reduceIte,Int.reduceEq,Int.reduceLT,Int.reduceLE]
 subst hQ
 have FF := (F2.trans F3).trans F4
 exact ⟨((((CFr.newH f1 k1 FF).1).trans f5).trans f6).trans f7,rfl⟩
end Go.Proofs.YthillgheddpmhaaDoor.Pg
namespace Go.Proofs.YthillgheddpmhaaDoor.Pg
open Go Go.AM Go.Proofs.YthillgheddpmhaaDoor.AmGE
set_option maxRecDepth 100000
set_option linter.unusedVariables false
set_option linter.unusedSimpArgs false
variable {m : Cm}
def UseB (b : Blk) (x s : Nat) : Prop := ∃ k,b.u.testBit k = true ∧ x = b.a * 64 + k * b.ws ∧ s = b.ws
def InUse (m : Cm) (x s : Nat) : Prop := ∃ b,b ∈ m.bl ∧ UseB b x s
/-- Nothing is kept that is neither used nor held. -/
def DInv (m : Cm) : Prop := ∀ b,b ∈ m.bl → b.c ≠ -2 ∧ (b.u ≠ 0 ∨ b.w ≠ none)
theorem CInv.bit (I : CInv m) {b : Blk} (hb : b ∈ m.bl) {k : Nat} (h : b.u.testBit k = true) : b.c ≠ -2 ∧ 1 ≤ b.ws ∧ k * b.ws + b.ws ≤ b.k * 64 := by
 rcases I.B b hb with ⟨_,e,_⟩ | ⟨e,e2,_⟩ | ⟨c,h1,e,e3,e4⟩
 ·rw [e] at h; simp at h
 ·have hk := (I.bd hb).1
  have hk0 : k = 0 := by
   rcases Nat.eq_zero_or_pos k with q | q
   ·exact q
   ·exfalso
    rw [Nat.testBit_lt_two_pow (Nat.lt_of_le_of_lt e2 (Nat.lt_of_lt_of_le (by decide : 1 < 2 ^ 1) (Nat.pow_le_pow_right (by decide) q)))] at h; cases h
  have hw : b.ws = b.k * 64 := by unfold Blk.ws; rw [if_pos (by omega)]
  rw [hk0,hw]; omega
 ·have ht := tabs c h1
  have hw : b.ws = sizeT.getD c 0 := by unfold Blk.ws; rw [if_neg (by omega), e,Int.toNat_natCast]
  have hlt : k < cellT.getD c 0 := by
   rcases Nat.lt_or_ge k (cellT.getD c 0) with q | q
   ·exact q
   ·rw [Nat.testBit_lt_two_pow (Nat.lt_of_lt_of_le e4 (Nat.pow_le_pow_right (by decide) q))] at h; cases h
  refine ⟨by omega,by omega, ?_⟩
  rw [hw,e3]
  have h5 : (k + 1) * sizeT.getD c 0 ≤ cellT.getD c 0 * sizeT.getD c 0 := Nat.mul_le_mul_right _ (by omega)
  rw [Nat.add_mul,Nat.one_mul] at h5
  omega
theorem use_find (I : CInv m) {b : Blk} (hb : b ∈ m.bl) {k : Nat} (h : b.u.testBit k = true) : m.find ((b.a * 64 + k * b.ws : Nat) : Int) = some (b,k) := by
 obtain ⟨h1,h2,h3⟩ := I.bit hb h
 have hq1 : b.a ≤ (b.a * 64 + k * b.ws) / 64 := by omega
 have hq2 : (b.a * 64 + k * b.ws) / 64 < b.a + b.k := by omega
 unfold Cm.find
 rw [if_neg (by omega), Int.toNat_natCast]
 have hf := I.S.find (s := b.sp) (List.mem_map.2 ⟨b,hb,rfl⟩) (q := (b.a * 64 + k * b.ws) / 64) hq1 hq2
 rw [findF_find] at hf
 cases e : m.bl.find? (fun b' => decide (b'.a ≤ (b.a * 64 + k * b.ws) / 64) && decide ((b.a * 64 + k * b.ws) / 64 < b'.a + b'.k)) with
 | none => rw [e] at hf; cases hf
 | some b' =>
  rw [e] at hf
  simp only [Option.map_some,Option.some.injEq] at hf
  have hb' := List.mem_of_find?_eq_some e
  have : b'.a = b.a := congrArg Sp.a hf
  obtain rfl := I.same hb' hb this
  simp only
  rw [if_neg h1,Nat.add_sub_cancel_left,Nat.mul_div_cancel _ (by omega)]
theorem use_cell (I : CInv m) {b : Blk} (hb : b ∈ m.bl) {k : Nat} (h : b.u.testBit k = true) : m.cell ((b.a * 64 + k * b.ws : Nat) : Int) = some (b,k) := by
 unfold Cm.cell; rw [use_find I hb h]; simp only [h,if_true]
theorem use_bd (I : CInv m) {x s : Nat} (h : InUse m x s) : 1 ≤ s ∧ x + s ≤ m.n * 64 := by
 obtain ⟨b,hb,k,h1,rfl,rfl⟩ := h
 have h2 := I.bit hb h1
 have h3 := I.bd hb
 omega
theorem use_updW (I : CInv m) {b : Blk} (hb : b ∈ m.bl) (w : Option Nat) (x s : Nat) : InUse (m.upd b.a (Blk.setW w)) x s ↔ InUse m x s := by
 constructor
 ·rintro ⟨y,hy,hu⟩
  rcases mem_upd.1 hy with ⟨y', hy', e,rfl⟩ | ⟨hy', e⟩
  ·exact ⟨y', hy', hu⟩
  ·exact ⟨y,hy', hu⟩
 ·rintro ⟨y,hy,hu⟩
  by_cases e : y.a = b.a
  ·exact ⟨Blk.setW w y,mem_upd.2 (.inl ⟨y,hy,e,rfl⟩), hu⟩
  ·exact ⟨y,mem_upd.2 (.inr ⟨hy,e⟩), hu⟩
theorem use_ins {b : Blk} (h0 : b.u = 0) (x s : Nat) : InUse (m.ins b) x s ↔ InUse m x s := by
 constructor
 ·rintro ⟨y,hy,hu⟩
  rcases mem_insB.1 hy with rfl | e
  ·obtain ⟨k,q,_⟩ := hu; rw [h0] at q; simp at q
  ·exact ⟨y,e,hu⟩
 ·rintro ⟨y,hy,hu⟩; exact ⟨y,mem_insB.2 (.inr hy), hu⟩
theorem use_rem (I : CInv m) {b : Blk} (hb : b ∈ m.bl) (h0 : b.u = 0) (x s : Nat) : InUse (m.rem b.a) x s ↔ InUse m x s := by
 constructor
 ·rintro ⟨y,hy,hu⟩; exact ⟨y, (List.mem_filter.1 hy).1,hu⟩
 ·rintro ⟨y,hy,hu⟩
  refine ⟨y,List.mem_filter.2 ⟨hy, ?_⟩, hu⟩
  simp only [bne_iff_ne,ne_eq]
  intro e
  obtain rfl := I.same hy hb e
  obtain ⟨k,q,_⟩ := hu; rw [h0] at q; simp at q
theorem use_drop (I : CInv m) {b : Blk} (hb : b ∈ m.bl) (x s : Nat) : InUse (m.drop b) x s ↔ InUse m x s := by
 unfold Cm.drop
 split
 ·rename_i h; exact use_rem I hb h.1 x s
 ·exact Iff.rfl
/-- A cell more,or less. -/
theorem use_bits (I : CInv m) {b : Blk} (hb : b ∈ m.bl) {u k : Nat} (hk : ∀ j,u.testBit j = if j = k then !b.u.testBit k else b.u.testBit j) (x s : Nat) :
  (b.u.testBit k = false → (InUse (m.upd b.a (Blk.setU u)) x s ↔ (x = b.a * 64 + k * b.ws ∧ s = b.ws) ∨ InUse m x s)) ∧
  (b.u.testBit k = true → (InUse (m.upd b.a (Blk.setU u)) x s ↔ InUse m x s ∧ x ≠ b.a * 64 + k * b.ws)) := by
 constructor
 ·intro hf
  constructor
  ·rintro ⟨y,hy,j,h1,h2,h3⟩
   rcases mem_upd.1 hy with ⟨y', hy', e,rfl⟩ | ⟨hy', e⟩
   ·obtain rfl := I.same hy' hb e
    have h1' : u.testBit j = true := h1
    rw [hk] at h1'
    by_cases ej : j = k
    ·subst ej; exact .inl ⟨h2,h3⟩
    ·rw [if_neg ej] at h1'
     exact .inr ⟨y', hb,j,h1', h2,h3⟩
   ·exact .inr ⟨y,hy', j,h1,h2,h3⟩
  ·rintro (⟨h2,h3⟩ | ⟨y,hy,j,h1,h2,h3⟩)
   ·refine ⟨Blk.setU u b,mem_upd.2 (.inl ⟨b,hb,rfl,rfl⟩), k, ?_,h2,h3⟩
    show u.testBit k = true
    rw [hk,if_pos rfl,hf]; rfl
   ·by_cases e : y.a = b.a
    ·obtain rfl := I.same hy hb e
     refine ⟨Blk.setU u y,mem_upd.2 (.inl ⟨y,hy,rfl,rfl⟩), j, ?_,h2,h3⟩
     show u.testBit j = true
     rw [hk,if_neg (by rintro rfl; rw [hf] at h1; cases h1), h1]
    ·exact ⟨y,mem_upd.2 (.inr ⟨hy,e⟩), j,h1,h2,h3⟩
 ·intro ht
  constructor
  ·rintro ⟨y,hy,j,h1,h2,h3⟩
   rcases mem_upd.1 hy with ⟨y', hy', e,rfl⟩ | ⟨hy', e⟩
   ·obtain rfl := I.same hy' hb e
    have h1' : u.testBit j = true := h1
    rw [hk] at h1'
    by_cases ej : j = k
    ·subst ej; rw [if_pos rfl,ht] at h1'; cases h1'
    ·rw [if_neg ej] at h1'
     refine ⟨⟨y', hb,j,h1', h2,h3⟩, fun e2 => ?_⟩
     have f1 := use_find I hb h1'
     have f2 := use_find I hb ht
     have h2' : x = y'.a * 64 + j * y'.ws := h2
     rw [← h2', e2,f2] at f1
     simp only [Option.some.injEq,Prod.mk.injEq,true_and] at f1
     exact ej f1.symm
   ·refine ⟨⟨y,hy', j,h1,h2,h3⟩, fun e2 => ?_⟩
    have f1 := use_find I hy' h1
    have f2 := use_find I hb ht
    rw [← h2,e2,f2] at f1
    simp only [Option.some.injEq,Prod.mk.injEq] at f1
    exact e (by rw [f1.1])
  ·rintro ⟨⟨y,hy,j,h1,h2,h3⟩, ne⟩
   by_cases e : y.a = b.a
   ·obtain rfl := I.same hy hb e
    refine ⟨Blk.setU u y,mem_upd.2 (.inl ⟨y,hy,rfl,rfl⟩), j, ?_,h2,h3⟩
    show u.testBit j = true
    rw [hk,if_neg (by rintro rfl; exact ne h2), h1]
   ·exact ⟨y,mem_upd.2 (.inr ⟨hy,e⟩), j,h1,h2,h3⟩
theorem bits_set {u k : Nat} (h : u.testBit k = false) (j : Nat) : (u ||| 2 ^ k).testBit j = if j = k then !u.testBit k else u.testBit j := by
 rw [Nat.testBit_or,Nat.testBit_two_pow]
 by_cases e : j = k
 ·subst e; simp [h]
 ·rw [if_neg e,decide_eq_false (fun q => e q.symm), Bool.or_false]
theorem bits_clr {u k : Nat} (hu : u < 18446744073709551616) (hk : k < 64) (h : u.testBit k = true) (j : Nat) : (clr u k).testBit j = if j = k then !u.testBit k else u.testBit j := by
 obtain ⟨h1,h2⟩ := clr_bit hu hk
 by_cases e : j = k
 ·subst e; rw [if_pos rfl,h]; exact h1
 ·rw [if_neg e]
  have h3 := h2 h
  have : u.testBit j = ((clr u k) ||| 2 ^ k).testBit j := by unfold clr; rw [h3]
  rw [this,Nat.testBit_or,Nat.testBit_two_pow,decide_eq_false (fun q => e q.symm), Bool.or_false]
theorem pick2_use (I : CInv m) {p c : Nat} (hc : c < 16) : (∀ x s,InUse (m.pick2 p c).2 x s ↔ InUse m x s) ∧ (DInv m → DInv (m.pick2 p c).2) := by
 unfold Cm.pick2
 cases hs : m.spare c with
 | some b =>
  obtain ⟨h1,h2,h3,h4⟩ := spare_mem hs
  refine ⟨fun x s => use_updW I h1 _ x s,fun D y hy => ?_⟩
  rcases mem_upd.1 hy with ⟨y', hy', e,rfl⟩ | ⟨hy', e⟩
  ·exact ⟨(D y' hy').1, .inr (by show (some p : Option Nat) ≠ none; simp)⟩
  ·exact D y hy'
 | none =>
  simp only
  cases hf : m.fit (pageT.getD c 0) with
  | none => exact ⟨fun x s => Iff.rfl,id⟩
  | some a =>
   have ht := tabs c hc
   have hfa := (fit_some (by omega) (fun q => f_out m)).1 hf
   have I' : CInv (m.ins ⟨a,pageT.getD c 0,c,0,none⟩) := I.ins (b := ⟨a,pageT.getD c 0,c,0,none⟩) (by show 1 ≤ pageT.getD c 0; omega) hfa (.inr (.inr ⟨c,hc,rfl,rfl,Nat.two_pow_pos _⟩)) rfl
   have hm : (⟨a,pageT.getD c 0,c,0,none⟩ : Blk) ∈ (m.ins ⟨a,pageT.getD c 0,c,0,none⟩).bl := mem_insB.2 (.inl rfl)
   refine ⟨fun x s => (use_updW I' hm (some p) x s).trans (use_ins rfl x s), fun D y hy => ?_⟩
   rcases mem_upd.1 hy with ⟨y', hy', e,rfl⟩ | ⟨hy', e⟩
   ·obtain rfl := I'.same hy' hm e
    exact ⟨by show (c : Int) ≠ -2; omega, .inr (by show (some p : Option Nat) ≠ none; simp)⟩
   ·rcases mem_insB.1 hy' with rfl | q
    ·exact absurd rfl e
    ·exact D y q
theorem pick_use (I : CInv m) {p c : Nat} (hc : c < 16) : (∀ x s,InUse (m.pick p c).2 x s ↔ InUse m x s) ∧ (DInv m → DInv (m.pick p c).2) := by
 unfold Cm.pick
 cases hh : m.held p c with
 | none => exact pick2_use I hc
 | some b =>
  simp only
  obtain ⟨h1,h2,h3⟩ := held_mem hh
  by_cases hf : b.full = true
  ·rw [if_pos hf]
   have I' : CInv (m.upd b.a (Blk.setW none)) := I.setW h1 h2 fun q hq => by cases hq
   obtain ⟨a1,a2⟩ := pick2_use I' (p := p) hc
   refine ⟨fun x s => (a1 x s).trans (use_updW I h1 none x s), fun D => a2 fun y hy => ?_⟩
   rcases mem_upd.1 hy with ⟨y', hy', e,rfl⟩ | ⟨hy', e⟩
   ·obtain rfl := I.same hy' h1 e
    refine ⟨(D y' hy').1, .inl fun e0 => ?_⟩
    have e0' : y'.u = 0 := e0
    unfold Blk.full at hf
    rw [e0', pc_z,h2,Int.toNat_natCast] at hf
    have := tabs c hc
    have := of_decide_eq_true hf
    omega
   ·exact D y hy'
  ·rw [if_neg hf]; exact ⟨fun x s => Iff.rfl,id⟩
theorem pick2_pr (m : Cm) (p c : Nat) : (m.pick2 p c).2.pr = m.pr := by
 unfold Cm.pick2
 cases m.spare c with
 | some b => rfl
 | none => simp only; cases m.fit (pageT.getD c 0) <;> rfl
theorem pick_pr (m : Cm) (p c : Nat) : (m.pick p c).2.pr = m.pr := by
 unfold Cm.pick
 cases m.held p c with
 | none => exact pick2_pr m p c
 | some b =>
  simp only
  split
  ·exact pick2_pr _ p c
  ·rfl
theorem pick2_inv (I : CInv m) {p c : Nat} (hp : p < m.pr) (hc : c < 16) (hn : m.held p c = none) : CInv (m.pick2 p c).2 ∧ ∀ a, (m.pick2 p c).1 = some a → ∃ b,b ∈ (m.pick2 p c).2.bl ∧ b.a = a ∧ b.c = (c : Int) ∧ b.w = some p ∧ b.full = false := by
 unfold Cm.pick2
 cases hs : m.spare c with
 | some b =>
  obtain ⟨h1,h2,h3,h4⟩ := spare_mem hs
  refine ⟨I.setW h1 h2 fun q hq => (by cases hq; exact ⟨hp,hn⟩), fun a ha => ?_⟩
  simp only [Option.some.injEq] at ha
  exact ⟨Blk.setW (some p) b,mem_upd.2 (.inl ⟨b,h1,rfl,rfl⟩), ha,h2,rfl,h4⟩
 | none =>
  simp only
  cases hf : m.fit (pageT.getD c 0) with
  | none => exact ⟨I,fun a ha => by cases ha⟩
  | some a =>
   have ht := tabs c hc
   have hfa := (fit_some (by omega) (fun q => f_out m)).1 hf
   have I' : CInv (m.ins ⟨a,pageT.getD c 0,c,0,none⟩) := I.ins (b := ⟨a,pageT.getD c 0,c,0,none⟩) (by show 1 ≤ pageT.getD c 0; omega) hfa (.inr (.inr ⟨c,hc,rfl,rfl,Nat.two_pow_pos _⟩)) rfl
   have hm : (⟨a,pageT.getD c 0,c,0,none⟩ : Blk) ∈ (m.ins ⟨a,pageT.getD c 0,c,0,none⟩).bl := mem_insB.2 (.inl rfl)
   refine ⟨I'.setW hm rfl fun q hq => (by cases hq; exact ⟨hp,held_ins rfl hn⟩), fun a' ha => ?_⟩
   simp only [Option.some.injEq] at ha
   refine ⟨Blk.setW (some p) ⟨a,pageT.getD c 0,c,0,none⟩, mem_upd.2 (.inl ⟨_,hm,rfl,rfl⟩), ha,rfl,rfl, ?_⟩
   show decide (pc 64 0 = cellT.getD (c : Int).toNat 0) = false
   rw [pc_z,Int.toNat_natCast]; exact decide_eq_false (by omega)
theorem pick_inv (I : CInv m) {p c : Nat} (hp : p < m.pr) (hc : c < 16) : CInv (m.pick p c).2 ∧ ∀ a, (m.pick p c).1 = some a → ∃ b,b ∈ (m.pick p c).2.bl ∧ b.a = a ∧ b.c = (c : Int) ∧ b.w = some p ∧ b.full = false := by
 unfold Cm.pick
 cases hh : m.held p c with
 | none => exact pick2_inv I hp hc hh
 | some b =>
  simp only
  obtain ⟨h1,h2,h3⟩ := held_mem hh
  by_cases hf : b.full = true
  ·rw [if_pos hf]
   have I' : CInv (m.upd b.a (Blk.setW none)) := I.setW h1 h2 fun q hq => by cases hq
   exact pick2_inv I' hp hc (held_upd_none I hh)
  ·rw [if_neg hf]
   refine ⟨I,fun a ha => ?_⟩
   simp only [Option.some.injEq] at ha
   exact ⟨b,h1,ha,h2,h3,by simpa using hf⟩
/-- What Alloc does to the cells that are used. -/
theorem alloc_use (I : CInv m) (p w : Int) :
  ((m.alloc p w).1.2 ≠ 0 ∧ (m.alloc p w).2.pr = m.pr ∧ (∀ x s,InUse (m.alloc p w).2 x s ↔ InUse m x s) ∧ (m.alloc p w).2.cells = m.cells ∧ (DInv m → DInv (m.alloc p w).2)) ∨
  ((m.alloc p w).1.2 = 0 ∧ (m.alloc p w).2.pr = m.pr ∧ ∃ x s : Nat, (m.alloc p w).1.1 = (x : Int) ∧ w ≤ s ∧ (∀ y t,InUse (m.alloc p w).2 y t ↔ (y = x ∧ t = s) ∨ InUse m y t) ∧ (∀ t, ¬ InUse m x t) ∧ (m.alloc p w).2.cells = m.cells + 1 ∧ (DInv m → DInv (m.alloc p w).2)) := by
 unfold Cm.alloc
 by_cases hbad : p < 0 ∨ (m.pr : Int) ≤ p ∨ w < 1
 ·rw [if_pos hbad]; exact .inl ⟨by simp,rfl,fun _ _ => Iff.rfl,rfl,id⟩
 rw [if_neg hbad]
 by_cases h1024 : 1024 < w
 ·rw [if_pos h1024]; exact .inl ⟨by simp,rfl,fun _ _ => Iff.rfl,rfl,id⟩
 rw [if_neg h1024]
 obtain ⟨p,rfl⟩ : ∃ x : Nat,p = x := ⟨p.toNat,by omega⟩
 obtain ⟨w,rfl⟩ : ∃ x : Nat,w = x := ⟨w.toNat,by omega⟩
 rw [Int.toNat_natCast,Int.toNat_natCast]
 -- a free bit of a block is used
 have key : ∀ (m' : Cm) (I' : CInv m') (b : Blk) (k u : Nat), b ∈ m'.bl → (∀ x s,InUse m' x s ↔ InUse m x s) → b.u.testBit k = false → (∀ j,u.testBit j = if j = k then !b.u.testBit k else b.u.testBit j) → CInv (m'.upd b.a (Blk.setU u)) →
   (∀ y t,InUse (m'.upd b.a (Blk.setU u)) y t ↔ (y = b.a * 64 + k * b.ws ∧ t = b.ws) ∨ InUse m y t) ∧ ∀ t, ¬ InUse m (b.a * 64 + k * b.ws) t := fun m' I' b k u hb hu hbit hj I2 => by
  refine ⟨fun y t => by rw [(use_bits I' hb hj y t).1 hbit,hu],fun t ht => ?_⟩
  obtain ⟨b2,hb2,k2,q1,q2,q3⟩ := (hu _ t).2 ht
  have hm2 : Blk.setU u b ∈ (m'.upd b.a (Blk.setU u)).bl := mem_upd.2 (.inl ⟨b,hb,rfl,rfl⟩)
  have hbk : (Blk.setU u b).u.testBit k = true := by show u.testBit k = true; rw [hj,if_pos rfl,hbit]; rfl
  have f1 := use_find I2 hm2 hbk
  by_cases e : b2.a = b.a
  ·obtain rfl := I'.same hb2 hb e
   have hbk2 : (Blk.setU u b2).u.testBit k2 = true := by
    show u.testBit k2 = true
    rw [hj]; split
    ·rw [hbit]; rfl
    ·exact q1
   have f2 := use_find I2 hm2 hbk2
   have e1 : (Blk.setU u b2).a * 64 + k * (Blk.setU u b2).ws = (Blk.setU u b2).a * 64 + k2 * (Blk.setU u b2).ws := q2
   rw [← e1,f1] at f2
   simp only [Option.some.injEq,Prod.mk.injEq,true_and] at f2
   rw [f2,q1] at hbit; cases hbit
  ·have f2 := use_find I2 (b := b2) (mem_upd.2 (.inr ⟨hb2,e⟩)) q1
   have e1 : (Blk.setU u b).a * 64 + k * (Blk.setU u b).ws = b2.a * 64 + k2 * b2.ws := q2
   rw [← e1,f1] at f2
   simp only [Option.some.injEq,Prod.mk.injEq] at f2
   exact e (by rw [← f2.1]; rfl)
 by_cases h64 : (64 : Int) < (w : Int)
 ·rw [if_pos h64]
  have hk : 1 ≤ (w + 63) / 64 := by omega
  have hwk : w ≤ (w + 63) / 64 * 64 := by omega
  generalize (w + 63) / 64 = k at *
  cases hft : m.fit k with
  | none => exact .inl ⟨by simp,rfl,fun _ _ => Iff.rfl,rfl,id⟩
  | some a =>
   have hfa := (fit_some hk (fun q => f_out m)).1 hft
   have I4 : CInv (m.ins ⟨a,k, -1,0,none⟩) := I.ins (b := ⟨a,k, -1,0,none⟩) hk hfa (.inr (.inl ⟨rfl,by simp,rfl⟩)) rfl
   have hm : (⟨a,k, -1,0,none⟩ : Blk) ∈ (m.ins ⟨a,k, -1,0,none⟩).bl := mem_insB.2 (.inl rfl)
   have I5 : CInv ((m.ins ⟨a,k, -1,0,none⟩).upd a (Blk.setU 1)) := I4.setU hm (.inl ⟨rfl,Nat.le_refl _⟩)
   obtain ⟨k1,k2⟩ := key _ I4 ⟨a,k, -1,0,none⟩ 0 1 hm (use_ins rfl) (by simp) (fun j => by
    by_cases e : j = 0
    ·subst e; simp
    ·rw [if_neg e]; simp only [Nat.zero_testBit]
     cases j with
     | zero => exact absurd rfl e
     | succ j => rw [Nat.testBit_succ]; simp) I5
   have hc := cells_upd I4 hm 1
   have hc0 := cells_ins0 (m := m) ⟨a,k, -1,0,none⟩ rfl
   have hws : (⟨a,k, -1,0,none⟩ : Blk).ws = k * 64 := rfl
   rw [hws,Nat.zero_mul,Nat.add_zero] at k1 k2
   refine .inr ⟨rfl,rfl,a * 64,k * 64,rfl,by omega,k1,k2, ?_,fun D y hy => ?_⟩
   ·have e1 : pc 64 (⟨a,k, -1,0,none⟩ : Blk).u = 0 := pc_z 64
    rw [e1,pc1] at hc
    show ((m.ins ⟨a,k, -1,0,none⟩).upd a (Blk.setU 1)).cells = _
    have hc' : ((m.ins ⟨a,k, -1,0,none⟩).upd a (Blk.setU 1)).cells + 0 = (m.ins ⟨a,k, -1,0,none⟩).cells + 1 := hc
    omega
   ·rcases mem_upd.1 hy with ⟨y', hy', e,rfl⟩ | ⟨hy', e⟩
    ·obtain rfl := I4.same hy' hm e
     exact ⟨by show (-1 : Int) ≠ -2; decide, .inl (by show (1 : Nat) ≠ 0; decide)⟩
    ·rcases mem_insB.1 hy' with rfl | q
     ·exact absurd rfl e
     ·exact D y q
 ·rw [if_neg h64]
  obtain ⟨hc16,hcls⟩ := cls_ok w (by omega) (by omega)
  have hp : p < m.pr := by omega
  obtain ⟨I3,hb3⟩ := pick_inv I hp hc16
  obtain ⟨u3,D3⟩ := pick_use I (p := p) hc16
  have c3 := (pick_cw I hp hc16).1
  have pr3 := pick_pr m p (clsOf w)
  cases hpk : m.pick p (clsOf w) with
  | mk o m3 =>
   rw [hpk] at I3 hb3 u3 D3 c3 pr3
   simp only at I3 hb3 u3 D3 c3 pr3
   cases o with
   | none => exact .inl ⟨by simp,pr3,u3,c3,D3⟩
   | some a =>
    obtain ⟨b,hb,rfl,hbc,hbw,hbf⟩ := hb3 a rfl
    have hg := I3.get hb
    simp only [hg]
    obtain ⟨d,hd1,hd2,hd3,hd4⟩ := I3.cls hb (by omega)
    have ht := tabs d hd1
    have hnf : pc 64 b.u ≠ cellT.getD d 0 := fun e2 => by
     unfold Blk.full at hbf
     rw [hd2,Int.toNat_natCast,decide_eq_true e2] at hbf; cases hbf
    obtain ⟨z1,z2,z3⟩ := lowZ_ok (by omega) hd4 hnf
    have hu2 : b.u ||| 2 ^ lowZ b.u < 2 ^ cellT.getD d 0 := Nat.or_lt_two_pow hd4 (Nat.pow_lt_pow_right (by decide) z1)
    have I5 : CInv (m3.upd b.a (Blk.setU (b.u ||| 2 ^ lowZ b.u))) := I3.setU hb (.inr ⟨d,hd1,hd2,hu2⟩)
    obtain ⟨k1,k2⟩ := key m3 I3 b (lowZ b.u) _ hb u3 z2 (bits_set z2) I5
    have hc5 := cells_upd I3 hb (b.u ||| 2 ^ lowZ b.u)
    rw [pc_set 64 _ _ (by omega) z2] at hc5
    have hdw : d = clsOf w := by omega
    have hsz : w ≤ b.ws := by
     have h1 : b.ws = sizeT.getD d 0 := by unfold Blk.ws; rw [if_neg (by omega), hd2,Int.toNat_natCast]
     rw [h1,hdw]
     have := hcls (clsOf w) hc16
     omega
    refine .inr ⟨trivial,pr3,b.a * 64 + lowZ b.u * b.ws,b.ws,rfl,by omega,k1,k2,by omega,fun D y hy => ?_⟩
    rcases mem_upd.1 hy with ⟨y', hy', e,rfl⟩ | ⟨hy', e⟩
    ·obtain rfl := I3.same hy' hb e
     exact ⟨(D3 D y' hb).1, .inr (by show y'.w ≠ none; rw [hbw]; simp)⟩
    ·exact D3 D y hy'
theorem free_use (I : CInv m) {x s : Nat} (h : InUse m x s) : (m.free x).1 = 0 ∧ (m.free x).2.pr = m.pr ∧ (∀ y t,InUse (m.free x).2 y t ↔ InUse m y t ∧ y ≠ x) ∧ (m.free x).2.cells + 1 = m.cells ∧ (DInv m → DInv (m.free x).2) := by
 obtain ⟨b,hb,k,h1,h2,h3⟩ := h
 have hcell := use_cell I hb h1
 rw [← h2] at hcell
 have hbit := I.bit hb h1
 have hu := I.u64 hb
 have hk64 : k < 64 := by
  rcases Nat.lt_or_ge k 64 with q | q
  ·exact q
  ·rw [Nat.testBit_lt_two_pow (Nat.lt_of_lt_of_le hu (Nat.pow_le_pow_right (n := 2) (by decide) q : 2 ^ 64 ≤ 2 ^ k))] at h1; cases h1
 have I' : CInv (m.upd b.a (Blk.setU (clr b.u k))) := I.setU hb (by
  rcases I.B b hb with ⟨e,_⟩ | ⟨e,e2,_⟩ | ⟨c,e1,e2,_,e3⟩
  ·exact absurd e hbit.1
  ·exact .inl ⟨e,Nat.le_trans (clr_le _ _) e2⟩
  ·exact .inr ⟨c,e1,e2,Nat.lt_of_le_of_lt (clr_le _ _) e3⟩)
 have hm : Blk.setU (clr b.u k) b ∈ (m.upd b.a (Blk.setU (clr b.u k))).bl := mem_upd.2 (.inl ⟨b,hb,rfl,rfl⟩)
 have hfr : m.free x = (0, (m.upd b.a (Blk.setU (clr b.u k))).drop (Blk.setU (clr b.u k) b)) := by
  unfold Cm.free; rw [hcell]; simp only; rw [if_pos (by omega)]
 rw [hfr]
 have hc := cells_upd I hb (clr b.u k)
 have := pc_clr hu hk64 h1
 have hd := drop_cw I' hm
 refine ⟨rfl, ?_,fun y t => ?_,by show ((m.upd b.a (Blk.setU (clr b.u k))).drop (Blk.setU (clr b.u k) b)).cells + 1 = _; omega,fun D => ?_⟩
 ·show ((m.upd b.a (Blk.setU (clr b.u k))).drop (Blk.setU (clr b.u k) b)).pr = _
  unfold Cm.drop; split <;> rfl
 ·show InUse ((m.upd b.a (Blk.setU (clr b.u k))).drop (Blk.setU (clr b.u k) b)) y t ↔ _
  rw [use_drop I' hm, (use_bits I hb (bits_clr hu hk64 h1) y t).2 h1, ← h2]
 ·show DInv ((m.upd b.a (Blk.setU (clr b.u k))).drop (Blk.setU (clr b.u k) b))
  unfold Cm.drop
  have base : ∀ y,y ∈ (m.upd b.a (Blk.setU (clr b.u k))).bl → y.a ≠ b.a → y.c ≠ -2 ∧ (y.u ≠ 0 ∨ y.w ≠ none) := fun y hy e => by
   rcases mem_upd.1 hy with ⟨y', hy', e', rfl⟩ | ⟨hy', _⟩
   ·exact absurd e' e
   ·exact D y hy'
  split
  ·intro y hy
   obtain ⟨q1,q2⟩ := List.mem_filter.1 hy
   exact base y q1 (by simp only [bne_iff_ne,ne_eq] at q2; exact fun e2 => q2 e2)
  ·rename_i hn
   intro y hy
   by_cases e : y.a = b.a
   ·have : y = Blk.setU (clr b.u k) b := I'.same hy hm e
    rw [this]
    refine ⟨hbit.1, ?_⟩
    by_cases e0 : (Blk.setU (clr b.u k) b).u = 0
    ·exact .inr fun ew => hn ⟨e0,ew⟩
    ·exact .inl e0
   ·exact base y hy e
end Go.Proofs.YthillgheddpmhaaDoor.Pg
namespace Go.Proofs.YthillgheddpmhaaDoor.Pg
open Go Go.AM Go.Proofs.YthillgheddpmhaaDoor.AmGE
attribute [local irreducible] AM.wp AM.wpIs AM.wpTr AM.opI AM.gI AM.cI AM.trI AM.callI AM.fnI AM.yldI AM.rangeI AM.rangeC AM.YldP AM.asgQ AM.roundQ AM.rangeQ AM.trG AM.trOp AM.trCall AM.seqC AM.loopI
set_option maxRecDepth 100000
set_option linter.unusedVariables false
set_option linter.unusedSimpArgs false
attribute [local irreducible] pc
variable {m : Cm}
theorem pick2_n (m : Cm) (p c : Nat) : (m.pick2 p c).2.n = m.n := by
 unfold Cm.pick2
 cases m.spare c with
 | some b => rfl
 | none => simp only; cases m.fit (pageT.getD c 0) <;> rfl
theorem pick_n (m : Cm) (p c : Nat) : (m.pick p c).2.n = m.n := by
 unfold Cm.pick
 cases m.held p c with
 | none => exact pick2_n m p c
 | some b =>
  simp only
  split
  ·exact pick2_n _ p c
  ·rfl
theorem alloc_n (m : Cm) (p w : Int) : (m.alloc p w).2.n = m.n := by
 unfold Cm.alloc
 split
 ·rfl
 ·split
  ·rfl
  ·split
   ·split <;> rfl
   ·have h := pick_n m p.toNat (clsOf w.toNat)
    cases e : m.pick p.toNat (clsOf w.toNat) with
    | mk o m' =>
     rw [e] at h
     cases o with
     | none => exact h
     | some a => simp only; split <;> exact h
theorem drop_n (m : Cm) (b : Blk) : (m.drop b).n = m.n := by unfold Cm.drop; split <;> rfl
theorem free_n (m : Cm) (x : Int) : (m.free x).2.n = m.n := by
 unfold Cm.free
 split
 ·rfl
 ·split
  ·exact drop_n _ _
  ·rfl
theorem fl1_n (m : Cm) (p c : Nat) : (m.fl1 p c).n = m.n := by
 unfold Cm.fl1; split
 ·rfl
 ·exact drop_n _ _
theorem flN_n (m : Cm) (p : Nat) : ∀ i, (m.flN p i).n = m.n
 | 0 => rfl
 | i + 1 => by rw [Cm.flN,fl1_n,flN_n m p i]
theorem fl1_inv (I : CInv m) (p c : Nat) : CInv (m.fl1 p c) := by
 unfold Cm.fl1
 cases hh : m.held p c with
 | none => exact I
 | some b =>
  obtain ⟨h1,h2,h3⟩ := held_mem hh
  have I' : CInv (m.upd b.a (Blk.setW none)) := I.setW h1 h2 fun q hq => by cases hq
  have hm : Blk.setW none b ∈ (m.upd b.a (Blk.setW none)).bl := mem_upd.2 (.inl ⟨b,h1,rfl,rfl⟩)
  simp only
  unfold Cm.drop
  split
  ·exact I'.rem hm
  ·exact I'
theorem flN_inv (I : CInv m) (p : Nat) : ∀ i,CInv (m.flN p i)
 | 0 => I
 | i + 1 => fl1_inv (flN_inv I p i) p i
/-- Without cells,what is let go is gone. -/
theorem fl1_mem (I : CInv m) (h0 : ∀ b,b ∈ m.bl → b.u = 0) (p c : Nat) : ∀ x,x ∈ (m.fl1 p c).bl → x ∈ m.bl ∧ ¬ (x.w = some p ∧ x.c = (c : Int)) := by
 intro x hx
 unfold Cm.fl1 at hx
 cases hh : m.held p c with
 | none => rw [hh] at hx; exact ⟨hx,fun h => held_none.1 hh x hx ⟨h.2,h.1⟩⟩
 | some b =>
  rw [hh] at hx
  obtain ⟨h1,h2,h3⟩ := held_mem hh
  simp only at hx
  unfold Cm.drop at hx
  rw [if_pos ⟨h0 b h1,rfl⟩] at hx
  obtain ⟨q1,q2⟩ := List.mem_filter.1 hx
  have q3 : x.a ≠ b.a := by simp only [bne_iff_ne,ne_eq] at q2; exact fun e => q2 e
  rcases mem_upd.1 q1 with ⟨y,hy,e,rfl⟩ | ⟨hy,e⟩
  ·exact absurd e q3
  ·exact ⟨hy,fun h => q3 (I.H x b p hy h1 h.1 h3 (h.2.trans h2.symm))⟩
theorem flN_mem (I : CInv m) (h0 : ∀ b,b ∈ m.bl → b.u = 0) (p : Nat) : ∀ i x,x ∈ (m.flN p i).bl → x ∈ m.bl ∧ ∀ c : Nat,c < i → ¬ (x.w = some p ∧ x.c = (c : Int))
 | 0,x,hx => ⟨hx,fun c hc => by omega⟩
 | i + 1,x,hx => by
  have ih := flN_mem I h0 p i
  obtain ⟨h1,h2⟩ := fl1_mem (flN_inv I p i) (fun b hb => h0 b (ih b hb).1) p i x hx
  obtain ⟨h3,h4⟩ := ih x h1
  refine ⟨h3,fun c hc => ?_⟩
  rcases Nat.lt_or_ge c i with q | q
  ·exact h4 c q
  ·obtain rfl : c = i := by omega
   exact h2
theorem flush_mem (I : CInv m) (h0 : ∀ b,b ∈ m.bl → b.u = 0) {p : Nat} : ∀ x,x ∈ (m.flN p 16).bl → x ∈ m.bl ∧ x.w ≠ some p := by
 intro x hx
 obtain ⟨h1,h2⟩ := flN_mem I h0 p 16 x hx
 refine ⟨h1,fun e => ?_⟩
 rcases I.B x h1 with ⟨_,_,q⟩ | ⟨_,_,q⟩ | ⟨c,q1,q2,_⟩
 ·rw [q] at e; cases e
 ·rw [q] at e; cases e
 ·exact h2 c q1 ⟨e,q2⟩
theorem sum_zero {l : List Blk} {g : Blk → Nat} (h : (l.map g).sum = 0) : ∀ b,b ∈ l → g b = 0 := by
 induction l with
 | nil => intro b hb; simp at hb
 | cons x l ih =>
  simp only [List.map_cons,List.sum_cons] at h
  intro b hb
  rcases List.mem_cons.1 hb with e | e
  ·subst e; omega
  ·exact ih (by omega) b e
theorem cells_zero (I : CInv m) (h : m.cells = 0) : ∀ b,b ∈ m.bl → b.u = 0 := fun b hb => pc_eq0 64 b.u (I.u64 hb) (sum_zero (g := fun b => pc 64 b.u) h b hb)
theorem words_ge (I : CInv m) (hn : m.n ≤ 4096) : m.cells ≤ m.words := by
 have : ∀ l : List Blk, (∀ b,b ∈ l → b ∈ m.bl) → (l.map fun b => pc 64 b.u).sum ≤ (l.map fun b => pc 64 b.u * b.ws).sum := by
  intro l
  induction l with
  | nil => intro _; exact Nat.le_refl _
  | cons x l ih =>
   intro hl
   have h1 := ih fun b hb => hl b (List.mem_cons_of_mem _ hb)
   have hx := hl x List.mem_cons_self
   have h2 : pc 64 x.u ≤ pc 64 x.u * x.ws := by
    by_cases hc : x.c = -2
    ·rcases I.B x hx with ⟨_,e,_⟩ | ⟨e,_⟩ | ⟨c,_,e,_⟩
     ·rw [e,pc_z]; exact Nat.zero_le _
     ·omega
     ·omega
    ·exact Nat.le_mul_of_pos_right _ (ws_bd I hn hx hc).1
   simp only [List.map_cons,List.sum_cons]; omega
 unfold Cm.cells Cm.words
 exact this m.bl fun _ h => h
/-! A nil room. -/
theorem nilAlloc {h : AHeap} (p w : Int) : CallP AP 44 [.nilp, .int .i64 p, .int .i64 w] h fun r h' => h' = h ∧ r = res2 0 5 := by
 refine callP (rfl : Tr.get AP 44 = some A44) ?_
 generalize hQ : (fun (r : AVal) (h' : AHeap) => _) = Q
 simp -implicitDefEqProofs (disch := first|decide|assumption|omega|(simp -implicitDefEqProofs only [AM.RN];first|done|omega)|fail) only [↓AM.R0,AM.R1,AM.R2,Nat.reduceAdd,Nat.reduceLeDiff,Nat.reduceEqDiff,Int.reduceToNat,Nat.reduceLT,↓reduceIte,Int.reduceEq,Int.reduceLT,Int.reduceLE]
 subst hQ; exact ⟨rfl,rfl⟩
theorem nilFind0 {h : AHeap} (x : Int) : CallP AP 71 [.nilp, .int .i64 x] h fun r h' => h' = h ∧ r = .tup [.nilp, .int .i64 0, .bool false] := by
 refine callP (rfl : Tr.get AP 71 = some A71) ?_
 generalize hQ : (fun (r : AVal) (h' : AHeap) => _) = Q
 simp -implicitDefEqProofs (disch := first|decide|assumption|omega|(simp -implicitDefEqProofs only [AM.RN];first|done|omega)|fail) only [↓AM.R0,AM.R1,AM.R2,Nat.reduceAdd,Nat.reduceLeDiff,Nat.reduceEqDiff,Int.reduceToNat,Nat.reduceLT,↓reduceIte,Int.reduceEq,Int.reduceLT,Int.reduceLE]
 subst hQ; exact ⟨rfl,rfl⟩
theorem nilFind {h : AHeap} (x : Int) : CallP AP 45 [.nilp, .int .i64 x] h fun r h' => h' = h ∧ r = .tup [.int .i64 0, .int .i64 0, .bool false] := by
 refine callP (rfl : Tr.get AP 45 = some A45) ?_
 generalize hQ : (fun (r : AVal) (h' : AHeap) => _) = Q
 simp -implicitDefEqProofs (disch := first|decide|assumption|omega|(simp -implicitDefEqProofs only [AM.RN];first|done|omega)|fail) only [↓AM.R0,AM.R1,AM.R2,Nat.reduceAdd,Nat.reduceLeDiff,Nat.reduceEqDiff,Int.reduceToNat,Nat.reduceLT,↓reduceIte,Int.reduceEq,Int.reduceLT,Int.reduceLE]
 refine AM.callI_of (nilFind0 x) ?_
 rintro r h2 ⟨rfl,rfl⟩
 simp -implicitDefEqProofs (disch := first|decide|assumption|omega|(simp -implicitDefEqProofs only [AM.RN];first|done|omega)|fail) only [↓AM.R0,AM.R1,AM.R2,Nat.reduceAdd,Nat.reduceLeDiff,Nat.reduceEqDiff,Int.reduceToNat,Nat.reduceLT,↓reduceIte,Int.reduceEq,Int.reduceLT,Int.reduceLE]
 subst hQ; exact ⟨rfl,rfl⟩
theorem nilPages {h : AHeap} (x : Int) : CallP AP 56 [.nilp, .int .i64 x] h fun r h' => h' = h ∧ r = res2 0 5 := by
 refine callP (rfl : Tr.get AP 56 = some A56) ?_
 generalize hQ : (fun (r : AVal) (h' : AHeap) => _) = Q
 simp -implicitDefEqProofs (disch := first|decide|assumption|omega|(simp -implicitDefEqProofs only [AM.RN];first|done|omega)|fail) only [↓AM.R0,AM.R1,AM.R2,Nat.reduceAdd,Nat.reduceLeDiff,Nat.reduceEqDiff,Int.reduceToNat,Nat.reduceLT,↓reduceIte,Int.reduceEq,Int.reduceLT,Int.reduceLE]
 subst hQ; exact ⟨rfl,rfl⟩
theorem nilFree {h : AHeap} (x : Int) : CallP AP 46 [.nilp, .int .i64 x] h fun r h' => h' = h ∧ r = .int .i64 5 := by
 refine callP (rfl : Tr.get AP 46 = some A46) ?_
 generalize hQ : (fun (r : AVal) (h' : AHeap) => _) = Q
 simp -implicitDefEqProofs (disch := first|decide|assumption|omega|(simp -implicitDefEqProofs only [AM.RN];first|done|omega)|fail) only [↓AM.R0,AM.R1,AM.R2,Nat.reduceAdd,Nat.reduceLeDiff,Nat.reduceEqDiff,Int.reduceToNat,Nat.reduceLT,↓reduceIte,Int.reduceEq,Int.reduceLT,Int.reduceLE]
 subst hQ; exact ⟨rfl,rfl⟩
theorem nilFlush {h : AHeap} (x : Int) : CallP AP 49 [.nilp, .int .i64 x] h fun r h' => h' = h ∧ r = .int .i64 5 := by
 refine callP (rfl : Tr.get AP 49 = some A49) ?_
 generalize hQ : (fun (r : AVal) (h' : AHeap) => _) = Q
 simp -implicitDefEqProofs (disch := first|decide|assumption|omega|(simp -implicitDefEqProofs only [AM.RN];first|done|omega)|fail) only [↓AM.R0,AM.R1,AM.R2,Nat.reduceAdd,Nat.reduceLeDiff,Nat.reduceEqDiff,Int.reduceToNat,Nat.reduceLT,↓reduceIte,Int.reduceEq,Int.reduceLT,Int.reduceLE]
 subst hQ; exact ⟨rfl,rfl⟩
theorem nilGive {h : AHeap} (x : Int) : CallP AP 50 [.nilp, .int .i64 x] h fun r h' => h' = h ∧ r = .int .i64 5 := by
 refine callP (rfl : Tr.get AP 50 = some A50) ?_
 generalize hQ : (fun (r : AVal) (h' : AHeap) => _) = Q
 simp -implicitDefEqProofs (disch := first|decide|assumption|omega|(simp -implicitDefEqProofs only [AM.RN];first|done|omega)|fail) only [↓AM.R0,AM.R1,AM.R2,Nat.reduceAdd,Nat.reduceLeDiff,Nat.reduceEqDiff,Int.reduceToNat,Nat.reduceLT,↓reduceIte,Int.reduceEq,Int.reduceLT,Int.reduceLE]
 subst hQ; exact ⟨rfl,rfl⟩
theorem nilUsed {h : AHeap} (x : Int) : CallP AP 48 [.nilp, .int .i64 x] h fun r h' => h' = h ∧ r = .bool false := by
 refine callP (rfl : Tr.get AP 48 = some A48) ?_
 generalize hQ : (fun (r : AVal) (h' : AHeap) => _) = Q
 simp -implicitDefEqProofs (disch := first|decide|assumption|omega|(simp -implicitDefEqProofs only [AM.RN];first|done|omega)|fail) only [↓AM.R0,AM.R1,AM.R2,Nat.reduceAdd,Nat.reduceLeDiff,Nat.reduceEqDiff,Int.reduceToNat,Nat.reduceLT,↓reduceIte,Int.reduceEq,Int.reduceLT,Int.reduceLE]
 subst hQ; exact ⟨rfl,rfl⟩
theorem CellQ.inv {h : AHeap} {g : CG} {m : Cm} (Q : CellQ h g m) : CInv m := by obtain ⟨ws,lv,bs,R⟩ := Q; exact R.I
theorem CellQ.bds {h : AHeap} {g : CG} {m : Cm} (Q : CellQ h g m) : m.cells ≤ 262144 := by obtain ⟨ws,lv,bs,R⟩ := Q; exact R.bds.1
theorem CellQ.kn {h : AHeap} {g : CG} {m : Cm} (Q : CellQ h g m) {j : Nat} (hj : h.n ≤ j) : g.K j = 0 := by
 obtain ⟨ws,lv,bs,R⟩ := Q
 cases e : g.K j with
 | zero => rfl
 | succ x => have := R.lt (j := j) (by omega); omega
/-- A law's room beside the law's own lists. -/
structure LawQ (h h' : AHeap) (g : CG) (m : Cm) : Prop where
 f : HFrame h h' [] []
 q : CellQ h' g m
 k : ∀ j,j < h.n → g.K j = 0
theorem LawQ.cl {h h1 h' : AHeap} {g g' : CG} {m m' : Cm} (L : LawQ h h1 g m) (F : CFr h1 h' g g') (Q : CellQ h' g' m') : LawQ h h' g' m' :=
 ⟨⟨Nat.le_trans L.f.n F.n,F.G.trans L.f.g,fun j hj _ => (F.get j (Nat.lt_of_lt_of_le hj L.f.n) (L.k j hj)).trans (L.f.get j hj (by simp)), fun j hj => by simp at hj,fun j hj => by simp at hj⟩, Q,fun j hj => (F.K j (Nat.lt_of_lt_of_le hj L.f.n)).trans (L.k j hj)⟩
theorem LawQ.own {h h1 h' : AHeap} {g : CG} {m : Cm} (L : LawQ h h1 g m) {A A' : List Nat} (F : HFrame h1 h' A A') (d : ∀ j,j ∈ A → g.K j = 0 ∧ h.n ≤ j) : LawQ h h' g m :=
 ⟨⟨Nat.le_trans L.f.n F.n,F.g.trans L.f.g,fun j hj _ => (F.get j (Nat.lt_of_lt_of_le hj L.f.n) (fun hm => by have := (d j hm).2; omega)).trans (L.f.get j hj (by simp)), fun j hj => by simp at hj,fun j hj => by simp at hj⟩, L.q.keepD F fun j hk hm => hk (d j hm).1,L.k⟩
theorem LawQ.tabR {h h' : AHeap} {g : CG} {m : Cm} (L : LawQ h h' g m) (T : TabR h) : TabR h' := T.frame L.f (by simp)
/-- The law's own list,beside a room's call. -/
theorem SlOf.cfr {α : Type} {enc : α → List AVal} {esz : Nat} {h h' : AHeap} {g g' : CG} {v : AVal} {l : List α} {G : List Nat} (s : SlOf h esz enc v l G) (F : CFr h h' g g') (d : ∀ j,j ∈ G → g.K j = 0) : SlOf h' esz enc v l G ∧ ∀ j,j ∈ G → g'.K j = 0 :=
 ⟨s.frame F.n fun j hj => F.get j (s.lt j hj) (d j hj), fun j hj => (F.K j (s.lt j hj)).trans (d j hj)⟩
end Go.Proofs.YthillgheddpmhaaDoor.Pg
namespace Go.Proofs.YthillgheddpmhaaDoor.Pg
open Go Go.AM Go.Proofs.YthillgheddpmhaaDoor.AmGE
attribute [local irreducible] AM.wp AM.wpIs AM.wpTr AM.opI AM.gI AM.cI AM.trI AM.callI AM.fnI AM.yldI AM.rangeI AM.rangeC AM.YldP AM.asgQ AM.roundQ AM.rangeQ AM.trG AM.trOp AM.trCall AM.seqC AM.loopI
attribute [local irreducible] pc
set_option maxRecDepth 100000
set_option linter.unusedVariables false
set_option linter.unusedSimpArgs false
theorem freeAll {f : Nat → Bool} {n : Nat} (hf : ∀ q,f q = decide (q < n)) : freeN f n = n := by
 have := freeN_row n 0 (f := f) (fun t ht => by rw [hf]; exact decide_eq_true (by omega))
 rw [Nat.zero_add] at this
 rw [this]; simp [freeN]
def encI (x : Nat) : List AVal := [.int .i64 (x : Int)]
set_option maxHeartbeats 16000000 in
theorem lawCellBack {h : AHeap} (T : TabR h) {v0 : AVal} {zs : List Int} (s0 : SlIn h 1 (fun x : Int => [.int .u16 x]) v0 zs) (hzs : ∀ x,x ∈ zs → 0 ≤ x ∧ x ≤ 65535) (hl0 : zs.length ≤ 9223372036854775807) :
  CallP AP 14 [v0] h fun r h' => HFrame h h' [] [] ∧ r = .bool true := by
 refine callP (rfl : Tr.get AP 14 = some A14) ?_
 generalize hQ : (fun (r : AVal) (h' : AHeap) => _) = Q
 simp -implicitDefEqProofs (disch := first|decide|assumption|omega|(simp -implicitDefEqProofs only [AM.RN];first|done|omega)|fail) only [↓AM.R0,AM.R1,AM.R2,Nat.reduceAdd,Nat.reduceLeDiff,Nat.reduceEqDiff,Int.reduceToNat,Nat.reduceLT,↓reduceIte,Int.reduceEq,Int.reduceLT,Int.reduceLE]
 refine AM.callI_of (newC T 200 2) ?_
 rintro r h1 (⟨c,_⟩ | ⟨_,_,_,_,g,f1,k1,Q1,rfl⟩)
 ·exact absurd ⟨by decide,by decide,by decide,by decide⟩ c
 have e1 : (Cm.zero (200 : Int).toNat (2 : Int).toNat) = Cm.zero 200 2 := rfl
 rw [e1] at Q1
 have L1 : LawQ h h1 g (Cm.zero 200 2) := ⟨f1,Q1,fun j hj => by
  cases e : g.K j with
  | zero => rfl
  | succ x => have := k1 j (by omega); omega⟩
 have T1 := L1.tabR T
 simp -implicitDefEqProofs (disch := first|decide|assumption|omega|(simp -implicitDefEqProofs only [AM.RN];first|done|omega)|fail) only [↓AM.R0,AM.R1,AM.R2,Nat.reduceAdd,Nat.reduceLeDiff,Nat.reduceEqDiff,Int.reduceToNat,Nat.reduceLT,↓reduceIte,Int.reduceEq,Int.reduceLT,Int.reduceLE]
 refine AM.callI_of (awakeC T1) ?_
 rintro r h2 ⟨f2,rfl⟩
 have L2 := L1.own f2 (by simp)
 clear L1 Q1 T1 f1 k1 e1
 generalize hc : g.c = c
 simp -implicitDefEqProofs (disch := first|decide|assumption|omega|(simp -implicitDefEqProofs only [AM.RN];first|done|omega)|fail) only [↓AM.R0,AM.R1,AM.R2,Nat.reduceAdd,Nat.reduceLeDiff,Nat.reduceEqDiff,Int.reduceToNat,Nat.reduceLT,↓reduceIte,Int.reduceEq,Int.reduceLT,Int.reduceLE,s0.len]
 refine AM.loopI_of (fun k e h' => ∃ (i : Nat) (m : Cm) (g : CG) (l : List Nat) (sv : AVal) (G : List Nat), k + i = zs.length ∧ e.val 3 = .ptr c 0 0 ∧ e.val 5 = sv ∧ e.val 38 = v0 ∧ e.val 39 = .int .i64 (zs.length : Int) ∧ e.val 40 = .int .i64 (i : Int) ∧
  g.c = c ∧ LawQ h h' g m ∧ SlOf h' 1 encI sv l G ∧ (∀ j,j ∈ G → g.K j = 0 ∧ h.n ≤ j) ∧ m.n = 200 ∧ m.pr = 2 ∧ DInv m ∧ m.cells = l.length ∧ l.Nodup ∧ (∀ x,x ∈ l → ∃ s,InUse m x s)) zs.length ?_ ?_
 ·refine ⟨0,Cm.zero 200 2,g, [], .nils, [],by omega, ?_, ?_, ?_, ?_, ?_,hc,L2,SlOf.nil,by simp,rfl,rfl,fun b hb => by simp [Cm.zero] at hb,rfl,List.nodup_nil,by simp⟩ <;> first | (simp -implicitDefEqProofs (disch := first|decide|assumption|omega|(simp -implicitDefEqProofs only [AM.RN];first|done|omega)|fail) only [↓AM.R0,AM.R1,AM.R2,Nat.reduceAdd,Nat.reduceLeDiff,Nat.reduceEqDiff,Int.reduceToNat,Nat.reduceLT,↓reduceIte,Int.reduceEq,Int.reduceLT,Int.reduceLE]; done) | (simp -implicitDefEqProofs (disch := first|decide|assumption|omega|(simp -implicitDefEqProofs only [AM.RN];first|done|omega)|fail) only [↓AM.R0,AM.R1,AM.R2,Nat.reduceAdd,Nat.reduceLeDiff,Nat.reduceEqDiff,Int.reduceToNat,Nat.reduceLT,↓reduceIte,Int.reduceEq,Int.reduceLT,Int.reduceLE]; rfl)
 clear L2 f2 hc
 clear g
 rintro k e h3 ⟨i,m,g,l,sv,G,hk,y3,y5,y38,y39,y40,hc,L3,so3,dG,hmn,hmp,D,hcl,hnd,huse⟩
 have T3 := L3.tabR T
 have I := (L3.q).inv
 have hl4 : m.cells ≤ 262144 := (L3.q).bds
 simp -implicitDefEqProofs (disch := first|decide|assumption|omega|(simp -implicitDefEqProofs only [AM.RN];first|done|omega)|fail) only [↓AM.R0,AM.R1,AM.R2,Nat.reduceAdd,Nat.reduceLeDiff,Nat.reduceEqDiff,Int.reduceToNat,Nat.reduceLT,↓reduceIte,Int.reduceEq,Int.reduceLT,Int.reduceLE,y39,y40]
 refine AM.cI_bool (fun hb => ?_) (fun hb => ?_)
 ·simp only [decide_eq_true_eq] at hb
  obtain ⟨x,hx⟩ : ∃ x,zs[i]? = some x := ⟨_,List.getElem?_eq_getElem (by omega)⟩
  obtain ⟨hx0,hx1⟩ := hzs x (List.mem_of_getElem? hx)
  obtain ⟨x,rfl⟩ : ∃ a : Nat,x = a := ⟨x.toNat,by omega⟩
  have s3 := s0.keep L3.f
  obtain ⟨id,g', off,vs,ro,x1,x2,x3,x4⟩ := (s3.rd hx).ix1 hx .i64
  have w1 : (i : Int).tmod 2 = ((i % 2 : Nat) : Int) := rfl
  have w2 : (x : Int).tmod 500 = ((x % 500 : Nat) : Int) := rfl
  have w3 : IntKind.i64.wrap ((x % 500 : Nat) : Int) = ((x % 500 : Nat) : Int) := wrap64 (by omega) (by omega)
  have w4 : IntKind.i64.wrap (((x % 500 : Nat) : Int) + 1) = ((x % 500 + 1 : Nat) : Int) := (wrap64 (by omega) (by omega)).trans (by omega)
  have w5 : IntKind.i64.wrap ((i : Int) + 1) = ((i + 1 : Nat) : Int) := (wrap64 (by omega) (by omega)).trans (by omega)
  simp -implicitDefEqProofs (disch := first|decide|assumption|omega|(simp -implicitDefEqProofs only [AM.RN];first|done|omega)|fail) only [↓AM.R0,AM.R1,AM.R2,Nat.reduceAdd,Nat.reduceLeDiff,Nat.reduceEqDiff,Int.reduceToNat,Nat.reduceLT,↓reduceIte,Int.reduceEq,Int.reduceLT,Int.reduceLE,y3,y5,y38,y40,x1,x2,x4,w1,w2,w3,w4]
  rw [← hc]
  refine AM.callI_of (allocC T3 L3.q _ _) ?_
  rintro r h4 ⟨g4,F4,Q4,rfl⟩
  have L4 := L3.cl F4 Q4
  obtain ⟨so4,dG4⟩ := SlOf.cfr so3 F4 fun j hj => (dG j hj).1
  have hn4 := alloc_n m ((i % 2 : Nat) : Int) ((x % 500 + 1 : Nat) : Int)
  have hsp := alloc_use I ((i % 2 : Nat) : Int) ((x % 500 + 1 : Nat) : Int)
  generalize m.alloc ((i % 2 : Nat) : Int) ((x % 500 + 1 : Nat) : Int) = al at *
  obtain ⟨⟨ra,re⟩, m4⟩ := al
  simp only at hsp hn4 Q4 L4
  rcases hsp with ⟨he,hpr,hu,hcs,hD⟩ | ⟨he,hpr,a,s,ha,hs,hu,hno,hcs,hD⟩
  ·have d1 : decide (re = 0) = false := decide_eq_false he
   simp -implicitDefEqProofs (disch := first|decide|assumption|omega|(simp -implicitDefEqProofs only [AM.RN];first|done|omega)|fail) only [↓AM.R0,AM.R1,AM.R2,Nat.reduceAdd,Nat.reduceLeDiff,Nat.reduceEqDiff,Int.reduceToNat,Nat.reduceLT,↓reduceIte,Int.reduceEq,Int.reduceLT,Int.reduceLE,res2,d1,y3,y5,y38,y39,y40,w5]
   refine ⟨k - 1,by omega,i + 1,m4,g4,l,sv,G,by omega,by rw [hc],rfl,rfl,F4.c,L4,so4,fun j hj => ⟨dG4 j hj, (dG j hj).2⟩, hn4.trans hmn,hpr.trans hmp,hD D,hcs.trans hcl,hnd,fun y hy => ?_⟩
   obtain ⟨s,hs⟩ := huse y hy
   exact ⟨s, (hu y s).2 hs⟩
  ·have d1 : decide (re = 0) = true := decide_eq_true he
   subst ha
   have q4 := so4.rd.cells
   simp -implicitDefEqProofs (disch := first|decide|assumption|omega|(simp -implicitDefEqProofs only [AM.RN];first|done|omega)|fail) only [↓AM.R0,AM.R1,AM.R2,Nat.reduceAdd,Nat.reduceLeDiff,Nat.reduceEqDiff,Int.reduceToNat,Nat.reduceLT,↓reduceIte,Int.reduceEq,Int.reduceLT,Int.reduceLE,res2,d1,y3,y5,y38,y39,y40,w5]
   refine AM.opI_of (SlOf.app1 so4 (fun _ => rfl) (fun _ => rfl) (by omega) a fun sw h7 H7 so7 f7 => ?_)
   have L7 := L4.own f7 fun j hj => ⟨dG4 j hj, (dG j hj).2⟩
   have dH : ∀ j,j ∈ H7 → g4.K j = 0 ∧ h.n ≤ j := fun j hj => by
    rcases f7.new j hj with q | q
    ·exact ⟨dG4 j q, (dG j q).2⟩
    ·have hk := L4.q.kn (j := j)
     have := L4.f.n
     exact ⟨hk q,by omega⟩
   simp -implicitDefEqProofs (disch := first|decide|assumption|omega|(simp -implicitDefEqProofs only [AM.RN];first|done|omega)|fail) only [↓AM.R0,AM.R1,AM.R2,Nat.reduceAdd,Nat.reduceLeDiff,Nat.reduceEqDiff,Int.reduceToNat,Nat.reduceLT,↓reduceIte,Int.reduceEq,Int.reduceLT,Int.reduceLE,y3,y38,y39,y40,w5]
   refine ⟨k - 1,by omega,i + 1,m4,g4,l ++ [a],sw,H7,by omega,by rw [hc],rfl,rfl,F4.c,L7,so7,dH,hn4.trans hmn,hpr.trans hmp,hD D,by rw [hcs,hcl,List.length_append]; rfl, ?_,fun y hy => ?_⟩
   ·rw [List.nodup_append]
    refine ⟨hnd,by simp,fun x hx y hy => ?_⟩
    simp at hy; subst hy
    rintro rfl
    obtain ⟨s,hs⟩ := huse x hx
    exact hno s hs
   ·rcases List.mem_append.1 hy with q | q
    ·obtain ⟨s,hs⟩ := huse y q
     exact ⟨s, (hu y s).2 (.inr hs)⟩
    ·simp at q; subst q
     exact ⟨s, (hu y s).2 (.inl ⟨rfl,rfl⟩)⟩
 ·clear hb y38 y39 y40 hk
  have hwg := words_ge I (by omega)
  rw [← hc] at y3
  simp -implicitDefEqProofs (disch := first|decide|assumption|omega|(simp -implicitDefEqProofs only [AM.RN];first|done|omega)|fail) only [↓AM.R0,AM.R1,AM.R2,Nat.reduceAdd,Nat.reduceLeDiff,Nat.reduceEqDiff,Int.reduceToNat,Nat.reduceLT,↓reduceIte,Int.reduceEq,Int.reduceLT,Int.reduceLE,y3]
  refine AM.callI_of (countsC L3.q) ?_
  rintro r h4 ⟨f4,rfl⟩
  have L4 := L3.own f4 (by simp)
  have so4 := so3.frame f4.n fun j hj => f4.get j (so3.lt j hj) (by simp)
  have d1 : decide (((m.cells : Nat) : Int) = ((l.length : Nat) : Int)) = true := decide_eq_true (by omega)
  have d2 : decide (((m.words : Nat) : Int) < ((l.length : Nat) : Int)) = false := decide_eq_false (by omega)
  have hbool : (!decide (((m.cells : Nat) : Int) = ((l.length : Nat) : Int))) = false := by rw [d1]; rfl
  simp -implicitDefEqProofs (disch := first|decide|assumption|omega|(simp -implicitDefEqProofs only [AM.RN];first|done|omega)|fail) only [↓AM.R0,AM.R1,AM.R2,Nat.reduceAdd,Nat.reduceLeDiff,Nat.reduceEqDiff,Int.reduceToNat,Nat.reduceLT,↓reduceIte,Int.reduceEq,Int.reduceLT,Int.reduceLE,y5,so4.len,d1,d2,hbool]
  refine AM.loopI_of (fun k e h' => ∃ (j : Nat) (m' : Cm), k + j = l.length ∧ e.val 3 = .ptr g.c 0 0 ∧ e.val 79 = sv ∧ e.val 80 = .int .i64 (l.length : Int) ∧ e.val 81 = .int .i64 (j : Int) ∧
   LawQ h h' g m' ∧ SlOf h' 1 encI sv l G ∧ m'.n = 200 ∧ m'.pr = 2 ∧ DInv m' ∧ m'.cells + j = l.length ∧ (∀ x,x ∈ l.drop j → ∃ s,InUse m' x s)) l.length ?_ ?_
  ·refine ⟨0,m,by omega, ?_, ?_, ?_, ?_,L4,so4,hmn,hmp,D,by omega,by simpa using huse⟩ <;> first | (simp -implicitDefEqProofs (disch := first|decide|assumption|omega|(simp -implicitDefEqProofs only [AM.RN];first|done|omega)|fail) only [↓AM.R0,AM.R1,AM.R2,Nat.reduceAdd,Nat.reduceLeDiff,Nat.reduceEqDiff,Int.reduceToNat,Nat.reduceLT,↓reduceIte,Int.reduceEq,Int.reduceLT,Int.reduceLE,y3]; done) | (simp -implicitDefEqProofs (disch := first|decide|assumption|omega|(simp -implicitDefEqProofs only [AM.RN];first|done|omega)|fail) only [↓AM.R0,AM.R1,AM.R2,Nat.reduceAdd,Nat.reduceLeDiff,Nat.reduceEqDiff,Int.reduceToNat,Nat.reduceLT,↓reduceIte,Int.reduceEq,Int.reduceLT,Int.reduceLE]; rfl)
  clear y3 y5 L3 so3 L4 so4 f4 hmn hmp D huse d1 d2 hbool hwg T3 I
  rintro k e h5 ⟨j,m', hk,y3,y79,y80,y81,L5,so5,hmn,hmp,D,hcj,huse⟩
  have T5 := L5.tabR T
  have I := L5.q.inv
  simp -implicitDefEqProofs (disch := first|decide|assumption|omega|(simp -implicitDefEqProofs only [AM.RN];first|done|omega)|fail) only [↓AM.R0,AM.R1,AM.R2,Nat.reduceAdd,Nat.reduceLeDiff,Nat.reduceEqDiff,Int.reduceToNat,Nat.reduceLT,↓reduceIte,Int.reduceEq,Int.reduceLT,Int.reduceLE,y80,y81]
  refine AM.cI_bool (fun hb => ?_) (fun hb => ?_)
  ·simp only [decide_eq_true_eq] at hb
   obtain ⟨x,hx⟩ : ∃ x,l[j]? = some x := ⟨_,List.getElem?_eq_getElem (by omega)⟩
   have hdrop : l.drop j = x :: l.drop (j + 1) := by
    rw [List.drop_eq_getElem_cons (by omega)]
    congr 1
    exact (List.getElem?_eq_some_iff.1 hx).2
   obtain ⟨s,hs⟩ := huse x (by rw [hdrop]; exact List.mem_cons_self)
   have hxb := use_bd I hs
   obtain ⟨id,g', off,vs,ro,x1,x2,x3,x4⟩ := (so5.rd).ix1 (enc := fun x : Nat => AVal.int .i64 (x : Int)) hx .i64
   obtain ⟨p1,p2,p3,p4,p5⟩ := free_use I hs
   have hfn := free_n m' (x : Int)
   have w5 : IntKind.i64.wrap ((j : Int) + 1) = ((j + 1 : Nat) : Int) := (wrap64 (by omega) (by omega)).trans (by omega)
   simp -implicitDefEqProofs (disch := first|decide|assumption|omega|(simp -implicitDefEqProofs only [AM.RN];first|done|omega)|fail) only [↓AM.R0,AM.R1,AM.R2,Nat.reduceAdd,Nat.reduceLeDiff,Nat.reduceEqDiff,Int.reduceToNat,Nat.reduceLT,↓reduceIte,Int.reduceEq,Int.reduceLT,Int.reduceLE,y3,y79,y80,y81,x1,x2,x4]
   refine AM.callI_of (freeC T5 L5.q (x : Int) ⟨by omega,by omega⟩) ?_
   rintro r h6 ⟨F6,Q6,rfl⟩
   rw [p1]
   have L6 := L5.cl F6 Q6
   obtain ⟨so6,_⟩ := SlOf.cfr so5 F6 fun j hj => (dG j hj).1
   simp -implicitDefEqProofs (disch := first|decide|assumption|omega|(simp -implicitDefEqProofs only [AM.RN];first|done|omega)|fail) only [↓AM.R0,AM.R1,AM.R2,Nat.reduceAdd,Nat.reduceLeDiff,Nat.reduceEqDiff,Int.reduceToNat,Nat.reduceLT,↓reduceIte,Int.reduceEq,Int.reduceLT,Int.reduceLE,y3,y79,y80,y81,w5]
   refine ⟨k - 1,by omega,j + 1, (m'.free x).2,by omega,rfl,L6,so6,hfn.trans hmn,p2.trans hmp,p5 D,by omega,fun y hy => ?_⟩
   obtain ⟨t,ht⟩ := huse y (by rw [hdrop]; exact List.mem_cons_of_mem _ hy)
   refine ⟨t, (p3 y t).2 ⟨ht, ?_⟩⟩
   rintro rfl
   have hnd2 : (l.drop j).Nodup := List.Nodup.sublist (List.drop_sublist _ _) hnd
   rw [hdrop,List.nodup_cons] at hnd2
   exact hnd2.1 hy
  ·have hj : j = l.length := by simp only [decide_eq_false_iff_not] at hb; omega
   have hc0 : m'.cells = 0 := by omega
   have hz := cells_zero I hc0
   have e0 : m'.flush 0 = (0,m'.flN 0 16) := by unfold Cm.flush; rw [if_neg (by omega)]; rfl
   simp -implicitDefEqProofs (disch := first|decide|assumption|omega|(simp -implicitDefEqProofs only [AM.RN];first|done|omega)|fail) only [↓AM.R0,AM.R1,AM.R2,Nat.reduceAdd,Nat.reduceLeDiff,Nat.reduceEqDiff,Int.reduceToNat,Nat.reduceLT,↓reduceIte,Int.reduceEq,Int.reduceLT,Int.reduceLE,y3]
   refine AM.callI_of (flushC T5 L5.q 0) ?_
   rintro r h6 ⟨F6,Q6,rfl⟩
   rw [e0] at Q6
   rw [e0]
   have L6 := L5.cl F6 Q6
   have I6 := Q6.inv
   have m6 := flush_mem I hz (p := 0)
   have n6 := flN_n m' 0 16
   have p6 := flN_pr m' 0 16
   simp only at Q6 L6 I6
   generalize m'.flN 0 16 = ma at *
   have z6 : ∀ b,b ∈ ma.bl → b.u = 0 := fun b hb => hz b (m6 b hb).1
   have e1 : ma.flush 1 = (0,ma.flN 1 16) := by unfold Cm.flush; rw [if_neg (by omega)]; rfl
   simp -implicitDefEqProofs (disch := first|decide|assumption|omega|(simp -implicitDefEqProofs only [AM.RN];first|done|omega)|fail) only [↓AM.R0,AM.R1,AM.R2,Nat.reduceAdd,Nat.reduceLeDiff,Nat.reduceEqDiff,Int.reduceToNat,Nat.reduceLT,↓reduceIte,Int.reduceEq,Int.reduceLT,Int.reduceLE,y3]
   refine AM.callI_of (flushC (L6.tabR T) L6.q 1) ?_
   rintro r h7 ⟨F7,Q7,rfl⟩
   rw [e1] at Q7
   rw [e1]
   have L7 := L6.cl F7 Q7
   have I7 := Q7.inv
   have m7 := flush_mem I6 z6 (p := 1)
   have n7 := flN_n ma 1 16
   have p7 := flN_pr ma 1 16
   simp only at Q7 L7 I7
   generalize ma.flN 1 16 = mb at *
   have e2 : mb.flush 2 = (1,mb) := by unfold Cm.flush; rw [if_pos (by omega)]
   simp -implicitDefEqProofs (disch := first|decide|assumption|omega|(simp -implicitDefEqProofs only [AM.RN];first|done|omega)|fail) only [↓AM.R0,AM.R1,AM.R2,Nat.reduceAdd,Nat.reduceLeDiff,Nat.reduceEqDiff,Int.reduceToNat,Nat.reduceLT,↓reduceIte,Int.reduceEq,Int.reduceLT,Int.reduceLE,y3]
   refine AM.callI_of (flushC (L7.tabR T) L7.q 2) ?_
   rintro r h8 ⟨F8,Q8,rfl⟩
   rw [e2] at Q8
   rw [e2]
   have L8 := L7.cl F8 Q8
   have hbl : mb.bl = [] := by
    cases hbl : mb.bl with
    | nil => rfl
    | cons b rest =>
     exfalso
     have hb1 : b ∈ mb.bl := by rw [hbl]; exact List.mem_cons_self
     obtain ⟨q1,q2⟩ := m7 b hb1
     obtain ⟨q3,q4⟩ := m6 b q1
     have q5 := (D b q3).2
     have q6 := hz b q3
     cases hw : b.w with
     | none => rw [hw] at q5; rcases q5 with z | z; exact z q6; exact z rfl
     | some p =>
      have := I.P b p q3 hw
      rw [hw] at q2 q4
      have h1 : p ≠ 1 := fun e => q2 (by rw [e])
      have h2 : p ≠ 0 := fun e => q4 (by rw [e])
      omega
   have c8 : mb.cells = 0 := by unfold Cm.cells; rw [hbl]; rfl
   have w8 : mb.words = 0 := by unfold Cm.words; rw [hbl]; rfl
   have f8 : freeN mb.f mb.n = 200 := by
    have hn : mb.n = 200 := by omega
    rw [freeAll (n := mb.n) (fun q => by unfold Cm.f; rw [hbl]; simp), hn]
   simp -implicitDefEqProofs (disch := first|decide|assumption|omega|(simp -implicitDefEqProofs only [AM.RN];first|done|omega)|fail) only [↓AM.R0,AM.R1,AM.R2,Nat.reduceAdd,Nat.reduceLeDiff,Nat.reduceEqDiff,Int.reduceToNat,Nat.reduceLT,↓reduceIte,Int.reduceEq,Int.reduceLT,Int.reduceLE,y3]
   refine AM.callI_of (countsC L8.q) ?_
   rintro r h9 ⟨f9,rfl⟩
   rw [c8,w8,f8]
   have d0 : decide (((0 : Nat) : Int) = 0) = true := rfl
   have d200 : decide (((200 : Nat) : Int) = 200) = true := rfl
   have L9 := L8.own f9 (by simp)
   simp -implicitDefEqProofs (disch := first|decide|assumption|omega|(simp -implicitDefEqProofs only [AM.RN];first|done|omega)|fail) only [↓AM.R0,AM.R1,AM.R2,Nat.reduceAdd,Nat.reduceLeDiff,Nat.reduceEqDiff,Int.reduceToNat,Nat.reduceLT,↓reduceIte,Int.reduceEq,Int.reduceLT,Int.reduceLE]
   refine AM.callI_of (nilAlloc 0 1) ?_
   rintro r ha ⟨rfl,rfl⟩
   simp -implicitDefEqProofs (disch := first|decide|assumption|omega|(simp -implicitDefEqProofs only [AM.RN];first|done|omega)|fail) only [↓AM.R0,AM.R1,AM.R2,Nat.reduceAdd,Nat.reduceLeDiff,Nat.reduceEqDiff,Int.reduceToNat,Nat.reduceLT,↓reduceIte,Int.reduceEq,Int.reduceLT,Int.reduceLE,res2,d0,d200]
   refine AM.callI_of (nilFind 0) ?_
   rintro r ha ⟨rfl,rfl⟩
   simp -implicitDefEqProofs (disch := first|decide|assumption|omega|(simp -implicitDefEqProofs only [AM.RN];first|done|omega)|fail) only [↓AM.R0,AM.R1,AM.R2,Nat.reduceAdd,Nat.reduceLeDiff,Nat.reduceEqDiff,Int.reduceToNat,Nat.reduceLT,↓reduceIte,Int.reduceEq,Int.reduceLT,Int.reduceLE,d0,d200]
   refine AM.callI_of (nilPages 1) ?_
   rintro r ha ⟨rfl,rfl⟩
   simp -implicitDefEqProofs (disch := first|decide|assumption|omega|(simp -implicitDefEqProofs only [AM.RN];first|done|omega)|fail) only [↓AM.R0,AM.R1,AM.R2,Nat.reduceAdd,Nat.reduceLeDiff,Nat.reduceEqDiff,Int.reduceToNat,Nat.reduceLT,↓reduceIte,Int.reduceEq,Int.reduceLT,Int.reduceLE,res2,d0,d200]
   refine AM.callI_of (nilFree 0) ?_
   rintro r ha ⟨rfl,rfl⟩
   simp -implicitDefEqProofs (disch := first|decide|assumption|omega|(simp -implicitDefEqProofs only [AM.RN];first|done|omega)|fail) only [↓AM.R0,AM.R1,AM.R2,Nat.reduceAdd,Nat.reduceLeDiff,Nat.reduceEqDiff,Int.reduceToNat,Nat.reduceLT,↓reduceIte,Int.reduceEq,Int.reduceLT,Int.reduceLE,d0,d200]
   refine AM.callI_of (nilFlush 0) ?_
   rintro r ha ⟨rfl,rfl⟩
   simp -implicitDefEqProofs (disch := first|decide|assumption|omega|(simp -implicitDefEqProofs only [AM.RN];first|done|omega)|fail) only [↓AM.R0,AM.R1,AM.R2,Nat.reduceAdd,Nat.reduceLeDiff,Nat.reduceEqDiff,Int.reduceToNat,Nat.reduceLT,↓reduceIte,Int.reduceEq,Int.reduceLT,Int.reduceLE,d0,d200]
   refine AM.callI_of (nilGive 0) ?_
   rintro r ha ⟨rfl,rfl⟩
   simp -implicitDefEqProofs (disch := first|decide|assumption|omega|(simp -implicitDefEqProofs only [AM.RN];first|done|omega)|fail) only [↓AM.R0,AM.R1,AM.R2,Nat.reduceAdd,Nat.reduceLeDiff,Nat.reduceEqDiff,Int.reduceToNat,Nat.reduceLT,↓reduceIte,Int.reduceEq,Int.reduceLT,Int.reduceLE,d0,d200]
   refine AM.callI_of (nilUsed 0) ?_
   rintro r ha ⟨rfl,rfl⟩
   simp -implicitDefEqProofs (disch := first|decide|assumption|omega|(simp -implicitDefEqProofs only [AM.RN];first|done|omega)|fail) only [↓AM.R0,AM.R1,AM.R2,Nat.reduceAdd,Nat.reduceLeDiff,Nat.reduceEqDiff,Int.reduceToNat,Nat.reduceLT,↓reduceIte,Int.reduceEq,Int.reduceLT,Int.reduceLE,d0,d200]
   subst hQ
   exact ⟨L9.f,rfl⟩
end Go.Proofs.YthillgheddpmhaaDoor.Pg
namespace Go.Proofs.YthillgheddpmhaaDoor.Pg
open Go Go.AM Go.Proofs.YthillgheddpmhaaDoor.AmGE
attribute [local irreducible] AM.wp AM.wpIs AM.wpTr AM.opI AM.gI AM.cI AM.trI AM.callI AM.fnI AM.yldI AM.rangeI AM.rangeC AM.YldP AM.asgQ AM.roundQ AM.rangeQ AM.trG AM.trOp AM.trCall AM.seqC AM.loopI
attribute [local irreducible] pc
set_option maxRecDepth 100000
set_option linter.unusedVariables false
set_option linter.unusedSimpArgs false
variable {m : Cm}
/-- What the law keeps of cells: their places (-1: freed), their words. -/
structure Kept (m : Cm) (l : List Int) (wl : List Nat) : Prop where
 len : l.length = wl.length
 use : ∀ (j : Nat) (x : Int), l[j]? = some x → x = -1 ∨ ∃ y s : Nat,x = (y : Int) ∧ wl[j]? = some s ∧ InUse m y s
 ne : ∀ (i j : Nat) (x : Int), l[i]? = some x → l[j]? = some x → x = -1 ∨ i = j
theorem Kept.mono {m m' : Cm} {l : List Int} {wl : List Nat} (K : Kept m l wl) (h : ∀ x s,InUse m x s → InUse m' x s) : Kept m' l wl := ⟨K.len,fun j x hx => by
 rcases K.use j x hx with e | ⟨y,s,e1,e2,e3⟩
 ·exact .inl e
 ·exact .inr ⟨y,s,e1,e2,h y s e3⟩, K.ne⟩
end Go.Proofs.YthillgheddpmhaaDoor.Pg
namespace Go.Proofs.YthillgheddpmhaaDoor.Pg
open Go Go.AM Go.Proofs.YthillgheddpmhaaDoor.AmGE
attribute [local irreducible] AM.wp AM.wpIs AM.wpTr AM.opI AM.gI AM.cI AM.trI AM.callI AM.fnI AM.yldI AM.rangeI AM.rangeC AM.YldP AM.asgQ AM.roundQ AM.rangeQ AM.trG AM.trOp AM.trCall AM.seqC AM.loopI
attribute [local irreducible] pc
set_option maxRecDepth 100000
set_option linter.unusedVariables false
set_option linter.unusedSimpArgs false
variable {m : Cm}
/-- Cells of one class: rows of pages one behind the other,and what the law knows of them. -/
structure OInv (m : Cm) (c nx : Nat) (ow : List Nat) : Prop where
 n : m.n = 512
 pr : m.pr = 4
 cls : ∀ b,b ∈ m.bl → b.c = (c : Int)
 f : ∀ q,m.f q = decide (nx ≤ q ∧ q < 512)
 fu : ∀ b,b ∈ m.bl → b.w = none → b.full = true
 own : ∀ q v,ow[q]? = some v → v ≠ 0 → q < nx ∧ ∀ b,b ∈ m.bl → b.a ≤ q → q < b.a + b.k → b.w = none ∨ b.w = some (v - 1)
 len : ow.length = 512
end Go.Proofs.YthillgheddpmhaaDoor.Pg
namespace Go.Proofs.YthillgheddpmhaaDoor.Pg
open Go Go.AM Go.Proofs.YthillgheddpmhaaDoor.AmGE
attribute [local irreducible] AM.wp AM.wpIs AM.wpTr AM.opI AM.gI AM.cI AM.trI AM.callI AM.fnI AM.yldI AM.rangeI AM.rangeC AM.YldP AM.asgQ AM.roundQ AM.rangeQ AM.trG AM.trOp AM.trCall AM.seqC AM.loopI
attribute [local irreducible] pc
set_option maxRecDepth 100000
set_option linter.unusedVariables false
set_option linter.unusedSimpArgs false
end Go.Proofs.YthillgheddpmhaaDoor.Pg
