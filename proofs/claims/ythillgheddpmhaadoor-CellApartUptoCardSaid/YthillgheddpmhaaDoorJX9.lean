/-
 What the functions of this seat do,on the machine: lemmas for the laws.
-/
import Derived.Test.YthillgheddpmhaaDoorJX5
import Derived.Test.YthillgheddpmhaaDoorJX8
namespace Go.Proofs.YthillgheddpmhaaDoor.Pg
open Go Go.AM Go.Proofs.YthillgheddpmhaaDoor.AmGE
attribute [local irreducible] AM.wp AM.wpIs AM.wpTr AM.opI AM.gI AM.cI AM.trI AM.callI AM.fnI AM.yldI AM.rangeI AM.rangeC AM.YldP AM.asgQ AM.roundQ AM.rangeQ AM.trG AM.trOp AM.trCall AM.seqC AM.loopI
set_option maxRecDepth 100000
set_option linter.unusedVariables false
set_option linter.unusedSimpArgs false
variable {h h' : AHeap} {g g' : CG} {ws : List Nat} {lv : List (List Sm)} {bs : List Nat} {m : Cm} {cn wn : Int}
def Cm.fl1 (m : Cm) (p c : Nat) : Cm := match m.held p c with
 | none => m
 | some b => (m.upd b.a (Blk.setW none)).drop (Blk.setW none b)
end Go.Proofs.YthillgheddpmhaaDoor.Pg
namespace Go.Proofs.YthillgheddpmhaaDoor.Pg
open Go Go.AM Go.Proofs.YthillgheddpmhaaDoor.AmGE
attribute [local irreducible] AM.wp AM.wpIs AM.wpTr AM.opI AM.gI AM.cI AM.trI AM.callI AM.fnI AM.yldI AM.rangeI AM.rangeC AM.YldP AM.asgQ AM.roundQ AM.rangeQ AM.trG AM.trOp AM.trCall AM.seqC AM.loopI
set_option maxRecDepth 100000
set_option linter.unusedVariables false
set_option linter.unusedSimpArgs false
theorem cells_map (i : Nat) : (AVal.map i).cells = [.map i] := rfl
theorem cell_map (i : Nat) : (AVal.map i).cell = true := rfl
theorem ms16 (h : AHeap) : msV h 1 8 [.nilp] (.int .i64 16) = some (.sl h.n 0 0 16 1,h.push (.cells 0 false (List.replicate 16 .nilp))) := rfl
def Cm.zero (n p : Nat) : Cm := ⟨n,p, []⟩
theorem zeroI_ {n p : Nat} : CInv (Cm.zero n p) :=
 ⟨SInv.nil fun q hq => by unfold Cm.f Cm.zero; simp; exact hq,fun b hb => by simp [Cm.zero] at hb,fun b b' p hb => by simp [Cm.zero] at hb,fun b p hb => by simp [Cm.zero] at hb⟩
def OffZ (v : AVal) : Prop := v = .nils ∨ ∃ id g n e,v = .sl id g 0 n e
theorem app_off {h h' : AHeap} {esz b : Nat} {x y v : AVal} (e : h.app esz b x y = some (v,h')) (hx : OffZ x) : OffZ v := by
 unfold AHeap.app at e
 cases he : h.elems esz y with
 | none => rw [he] at e; cases e
 | some p =>
  obtain ⟨m,ys⟩ := p
  rw [he] at e
  simp only [Option.bind_some] at e
  split at e
  ·split at e
   ·cases e; exact .inl rfl
   ·split at e
    ·cases e; exact .inr ⟨_,_,_,_,rfl⟩
    ·cases e
  ·split at e
   ·split at e
    ·cases e; exact hx
    ·cases e
   ·split at e
    ·split at e
     ·split at e
      ·cases e; exact .inr ⟨_,_,_,_,rfl⟩
      ·cases e
     ·cases e
    ·cases e
  ·cases e
theorem wpOp_off {h : AHeap} {esz b : Nat} {x y : AVal} {k : AVal → AHeap → Prop} (hx : OffZ x) (w : AM.wpOp (h.app esz b x y) fun v h' => OffZ v → k v h') : AM.wpOp (h.app esz b x y) k := by
 cases e : h.app esz b x y with
 | none => rw [e] at w; exact w
 | some p => rw [e] at w; exact w (app_off e hx)
theorem getD_mem {l : List Nat} {i : Nat} (h : i < l.length) : l.getD i 0 ∈ l := by
 rw [List.getD_eq_getElem?_getD,List.getElem?_eq_getElem h]; exact List.getElem_mem h
theorem getD_inj {l : List Nat} (hn : l.Nodup) {i j : Nat} (hi : i < l.length) (hj : j < l.length) (e : l.getD i 0 = l.getD j 0) : i = j := by
 rw [List.getD_eq_getElem?_getD,List.getElem?_eq_getElem hi,List.getD_eq_getElem?_getD,List.getElem?_eq_getElem hj] at e
 exact (List.getElem_inj hn).1 e
def encR' (j : Nat) : List AVal := [.sl j 0 0 16 1]
theorem range_getD : ∀ l : List Nat, (List.range l.length).map (fun i => AVal.sl (l.getD i 0) 0 0 16 1) = l.flatMap encR'
 | [] => rfl
 | a :: l => by
  rw [List.length_cons,List.range_succ_eq_map,List.map_cons,List.map_map,List.flatMap_cons]
  have := range_getD l
  rw [← this]; rfl
def encR (j : Nat) : List AVal := [.sl j 0 0 16 1]
set_option maxHeartbeats 8000000 in
theorem newC {h : AHeap} (T : TabR h) (n p : Int) : CallP AP 42 [.int .i64 n, .int .i64 p] h fun r h' => (¬ (1 ≤ p ∧ p ≤ 8 ∧ 1 ≤ n ∧ n ≤ 4096) ∧ HFrame h h' [] [] ∧ r = .tup [.nilp, .int .i64 1]) ∨
  (1 ≤ p ∧ p ≤ 8 ∧ 1 ≤ n ∧ n ≤ 4096 ∧ ∃ g,HFrame h h' [] [] ∧ (∀ j,g.K j ≠ 0 → h.n ≤ j) ∧ CellQ h' g (Cm.zero n.toNat p.toNat) ∧ r = .tup [.ptr g.c 0 0, .int .i64 0]) := by
 refine callP (rfl : Tr.get AP 42 = some A42) ?_
 generalize hQ : (fun (r : AVal) (h' : AHeap) => _) = Q
 rcases Int.lt_or_le p 1 with c1 | c1
 ·have d1 : decide (p < 1) = true := decide_eq_true c1
  simp -implicitDefEqProofs (disch := first|decide|assumption|omega|(simp -implicitDefEqProofs only [AM.RN];first|done|omega)|fail) only [↓AM.R0,AM.R1,AM.R2,Nat.reduceAdd,Nat.reduceLeDiff,Nat.reduceEqDiff,Int.reduceToNat,Nat.reduceLT,↓reduceIte,Int.reduceEq,Int.reduceLT,Int.reduceLE,d1]
  subst hQ; exact .inl ⟨by omega,HFrame.refl (by simp), rfl⟩
 have d1 : decide (p < 1) = false := decide_eq_false (by omega)
 rcases Int.lt_or_le 8 p with c2 | c2
 ·have d2 : decide ((8 : Int) < p) = true := decide_eq_true c2
  simp -implicitDefEqProofs (disch := first|decide|assumption|omega|(simp -implicitDefEqProofs only [AM.RN];first|done|omega)|fail) only [↓AM.R0,AM.R1,AM.R2,Nat.reduceAdd,Nat.reduceLeDiff,Nat.reduceEqDiff,Int.reduceToNat,Nat.reduceLT,↓reduceIte,Int.reduceEq,Int.reduceLT,Int.reduceLE,d1,d2]
  subst hQ; exact .inl ⟨by omega,HFrame.refl (by simp), rfl⟩
 have d2 : decide ((8 : Int) < p) = false := decide_eq_false (by omega)
 simp -implicitDefEqProofs (disch := first|decide|assumption|omega|(simp -implicitDefEqProofs only [AM.RN];first|done|omega)|fail) only [↓AM.R0,AM.R1,AM.R2,Nat.reduceAdd,Nat.reduceLeDiff,Nat.reduceEqDiff,Int.reduceToNat,Nat.reduceLT,↓reduceIte,Int.reduceEq,Int.reduceLT,Int.reduceLE,d1,d2]
 refine AM.callI_of (newS T n) ?_
 rintro r h1 (⟨c3,f1,rfl⟩ | ⟨n1,n2,t,so,oo,q,ws,lv,f1,R,hf,rfl⟩)
 ·simp -implicitDefEqProofs (disch := first|decide|assumption|omega|(simp -implicitDefEqProofs only [AM.RN];first|done|omega)|fail) only [↓AM.R0,AM.R1,AM.R2,Nat.reduceAdd,Nat.reduceLeDiff,Nat.reduceEqDiff,Int.reduceToNat,Nat.reduceLT,↓reduceIte,Int.reduceEq,Int.reduceLT,Int.reduceLE]
  subst hQ; exact .inl ⟨by omega,f1,rfl⟩
 obtain ⟨p,rfl⟩ : ∃ x : Nat,p = x := ⟨p.toNat,by omega⟩
 obtain ⟨n,rfl⟩ : ∃ x : Nat,n = x := ⟨n.toNat,by omega⟩
 rw [Int.toNat_natCast] at R hf hQ
 rw [Int.toNat_natCast] at hQ
 simp -implicitDefEqProofs (disch := first|decide|assumption|omega|(simp -implicitDefEqProofs only [AM.RN];first|done|omega)|fail) only [↓AM.R0,AM.R1,AM.R2,Nat.reduceAdd,Nat.reduceLeDiff,Nat.reduceEqDiff,Int.reduceToNat,Nat.reduceLT,↓reduceIte,Int.reduceEq,Int.reduceLT,Int.reduceLE,a_mkMap,cells_map,cell_map]
 have F2 : HFrame h ((h1.push (.map [])).push (.cells 0 false [.ptr t 0 0, .map h1.n, .nils, .int .i64 0, .int .i64 0])) [] [] := ((HFrame.non f1).pushTmp _).pushTmp _
 have fR : HFrame h1 ((h1.push (.map [])).push (.cells 0 false [.ptr t 0 0, .map h1.n, .nils, .int .i64 0, .int .i64 0])) [] [] := ((HFrame.refl (h := h1) (F := []) (by simp)).pushTmp _).pushTmp _
 have R2 := R.keep fR
 have gm : ((h1.push (.map [])).push (.cells 0 false [.ptr t 0 0, .map h1.n, .nils, .int .i64 0, .int .i64 0])).get h1.n = .map [] := by rw [AHeap.get_push_ne _ _ (by simp), AHeap.get_push_same]
 have gc : ((h1.push (.map [])).push (.cells 0 false [.ptr t 0 0, .map h1.n, .nils, .int .i64 0, .int .i64 0])).get (h1.n + 1) = .cells 0 false [.ptr t 0 0, .map h1.n, .nils, .int .i64 0, .int .i64 0] := AHeap.get_push_same _ _
 have n3 : ((h1.push (.map [])).push (.cells 0 false [.ptr t 0 0, .map h1.n, .nils, .int .i64 0, .int .i64 0])).n = h1.n + 2 := by simp
 have hnew : ∀ j,j ∈ q.F ++ [t,so,oo] → h.n ≤ j ∧ j < h1.n := fun j hj => by
  refine ⟨?_,R.flt j hj⟩
  rcases f1.new j hj with e | e
  ·simp at e
  ·exact e
 have hn1 := f1.n
 generalize (h1.push (.map [])).push (.cells 0 false [.ptr t 0 0, .map h1.n, .nils, .int .i64 0, .int .i64 0]) = h3 at *
 refine AM.loopI_of (fun k e h' => ∃ (i : Nat) (rs : List Nat) (sv : AVal) (G : List Nat), k + i = p ∧ rs.length = i ∧ e.val 8 = .ptr (h1.n + 1) 0 0 ∧ e.val 27 = .int .i64 (p : Int) ∧ e.val 28 = .int .i64 (i : Int) ∧ HFrame h h' [] [] ∧ HFrame h3 h' [h1.n + 1] [h1.n + 1] ∧
  h'.get (h1.n + 1) = .cells 0 false [.ptr t 0 0, .map h1.n,sv, .int .i64 0, .int .i64 0] ∧ SlOf h' 1 encR sv rs G ∧ OffZ sv ∧ (∀ j,j ∈ G → h3.n ≤ j) ∧ rs.Nodup ∧ (∀ j,j ∈ rs → h3.n ≤ j ∧ j < h'.n ∧ j ∉ G ∧ h'.get j = .cells 0 false (List.replicate 16 .nilp))) p ?_ ?_
 ·refine ⟨0, [], .nils, [],by omega,rfl, ?_, ?_, ?_,F2,HFrame.refl (by simp; omega), gc,SlOf.nil, .inl rfl,by simp,List.nodup_nil,by simp⟩ <;> first | (simp -implicitDefEqProofs (disch := first|decide|assumption|omega|(simp -implicitDefEqProofs only [AM.RN];first|done|omega)|fail) only [↓AM.R0,AM.R1,AM.R2,Nat.reduceAdd,Nat.reduceLeDiff,Nat.reduceEqDiff,Int.reduceToNat,Nat.reduceLT,↓reduceIte,Int.reduceEq,Int.reduceLT,Int.reduceLE]; done) | (simp -implicitDefEqProofs (disch := first|decide|assumption|omega|(simp -implicitDefEqProofs only [AM.RN];first|done|omega)|fail) only [↓AM.R0,AM.R1,AM.R2,Nat.reduceAdd,Nat.reduceLeDiff,Nat.reduceEqDiff,Int.reduceToNat,Nat.reduceLT,↓reduceIte,Int.reduceEq,Int.reduceLT,Int.reduceLE]; rfl)
 rintro k e h' ⟨i,rs,sv,G,hk,hrs,y8,y27,y28,F4,f4,gc4,so4,hoff,hG,hnd,hrow⟩
 have hn4 := f4.n
 simp -implicitDefEqProofs (disch := first|decide|assumption|omega|(simp -implicitDefEqProofs only [AM.RN];first|done|omega)|fail) only [↓AM.R0,AM.R1,AM.R2,Nat.reduceAdd,Nat.reduceLeDiff,Nat.reduceEqDiff,Int.reduceToNat,Nat.reduceLT,↓reduceIte,Int.reduceEq,Int.reduceLT,Int.reduceLE,y27,y28]
 refine AM.cI_bool (fun hb => ?_) (fun hb => ?_)
 ·have hi : i < p := by simp only [decide_eq_true_eq] at hb; omega
  have lc4 : h1.n + 1 < h'.n := by omega
  have w1 : IntKind.i64.wrap ((i : Int) + 1) = ((i + 1 : Nat) : Int) := (wrap64 (by omega) (by omega)).trans (by omega)
  simp -implicitDefEqProofs (disch := first|decide|assumption|omega|(simp -implicitDefEqProofs only [AM.RN];first|done|omega)|fail) only [↓AM.R0,AM.R1,AM.R2,Nat.reduceAdd,Nat.reduceLeDiff,Nat.reduceEqDiff,Int.reduceToNat,Nat.reduceLT,↓reduceIte,Int.reduceEq,Int.reduceLT,Int.reduceLE,y8,gc4]
  refine AM.trCall_of countC ?_
  rintro r h5 ⟨f5,rfl⟩
  have m16 := ms16 h5
  have gc5 := (f5.get _ lc4 (by simp)).trans gc4
  have so5 := so4.frame f5.n fun j hj => f5.get j (so4.lt j hj) (by simp)
  have hn5 := f5.n
  have f6 : HFrame h5 (h5.push (.cells 0 false (List.replicate 16 .nilp))) [] [] := (HFrame.refl (h := h5) (F := []) (by simp)).pushTmp _
  have g6 : (h5.push (.cells 0 false (List.replicate 16 .nilp))).get h5.n = .cells 0 false (List.replicate 16 .nilp) := AHeap.get_push_same _ _
  have n6 : (h5.push (.cells 0 false (List.replicate 16 .nilp))).n = h5.n + 1 := by simp
  have so6 := so5.frame f6.n fun j hj => f6.get j (so5.lt j hj) (by simp)
  have lc5 : h1.n + 1 < h5.n := by omega
  have gc6 := (f6.get _ lc5 (by simp)).trans gc5
  simp -implicitDefEqProofs (disch := first|decide|assumption|omega|(simp -implicitDefEqProofs only [AM.RN];first|done|omega)|fail) only [↓AM.R0,AM.R1,AM.R2,Nat.reduceAdd,Nat.reduceLeDiff,Nat.reduceEqDiff,Int.reduceToNat,Nat.reduceLT,↓reduceIte,Int.reduceEq,Int.reduceLT,Int.reduceLE,m16,gc5]
  generalize h5.push (.cells 0 false (List.replicate 16 .nilp)) = h6 at *
  rw [← n6]
  have hbeq : sv.beq sv = true := by rcases so4 with ⟨a,_⟩ | ⟨id,g', off,vs,a,_⟩ <;> rw [a] <;> simp [AVal.beq]
  refine AM.trOp_of (wpOp_off hoff (SlOf.app1 so6 (fun _ => rfl) (fun _ => rfl) (by omega) h5.n fun sw h7 H7 so7 f7 hoff7 => ?_))
  have cG : h1.n + 1 ∉ G := fun hm => by have := hG _ hm; omega
  have gc7 := (f7.get (h1.n + 1) (by omega) cG).trans gc6
  have lc7 : h1.n + 1 < h7.n := by have := f7.n; omega
  have hn7 := f7.n
  have hH : ∀ j,j ∈ H7 → h3.n ≤ j := fun j hj => by
   rcases f7.new j hj with q | q
   ·exact hG j q
   ·omega
  have q7 := so7.rd.cells
  have gp : (h6.push (.cells 0 false (encR h5.n))).get (h1.n + 1) = .cells 0 false [.ptr t 0 0, .map h1.n,sv, .int .i64 0, .int .i64 0] := by rw [AHeap.get_push_ne _ _ (by omega)]; exact gc6
  simp only [encR] at gp
  simp -implicitDefEqProofs (disch := first|decide|assumption|omega|(simp -implicitDefEqProofs only [AM.RN];first|done|omega)|fail) only [↓AM.R0,AM.R1,AM.R2,Nat.reduceAdd,Nat.reduceLeDiff,Nat.reduceEqDiff,Int.reduceToNat,Nat.reduceLT,↓reduceIte,Int.reduceEq,Int.reduceLT,Int.reduceLE,gc7,gc6,gc5,gp,q7.1,q7.2,w1,hbeq,y28]
  have fs := HFrame.set h7 (h1.n + 1) (.cells 0 false [.ptr t 0 0, .map h1.n,sw, .int .i64 0, .int .i64 0]) (F := [h1.n + 1]) (by simp) (by simpa using lc7)
  have so8 := so7.set (i := h1.n + 1) (fun hm => by have := hH _ hm; omega) (.cells 0 false [.ptr t 0 0, .map h1.n,sw, .int .i64 0, .int .i64 0])
  refine ⟨k - 1,by omega,i + 1,rs ++ [h5.n],sw,H7,by omega,by rw [List.length_append,hrs]; rfl,y8,y27,rfl, ?_, ?_,rfl,so8,hoff7,hH, ?_,fun j hj => ?_⟩
  ·have a1 := (F4.trans f5).trans f6
   have a2 : HFrame h6 h7 G H7 := f7
   refine HFrame.setTmp ⟨by omega,by rw [a2.g,a1.g],fun j hj _ => ?_,fun j hj => by simp at hj,fun j hj => by simp at hj⟩ (by omega) _
   rw [a2.get j (by omega) (fun hm => by have := hG _ hm; omega)]
   exact a1.get j hj (by simp)
  ·refine ⟨by simp; omega,by rw [show (h7.set (h1.n + 1) _).g = h7.g from rfl,f7.g,f6.g,f5.g,f4.g],fun j hj hm => ?_,fun j hj => .inl hj,fun j hj => by simp at hj; subst hj; simp; omega⟩
   simp only [List.mem_singleton] at hm
   rw [AHeap.get_set_ne _ _ hm,f7.get j (by omega) (fun hm => by have := hG _ hm; omega), f6.get j (by omega) (by simp), f5.get j (by omega) (by simp)]
   exact f4.get j hj (by simpa using hm)
  ·rw [List.nodup_append]
   refine ⟨hnd,by simp,fun x hx y hy => ?_⟩
   simp at hy; subst hy
   have := (hrow x hx).2.1
   omega
  ·have key : h3.n ≤ j ∧ j < h6.n ∧ j ∉ G ∧ h6.get j = .cells 0 false (List.replicate 16 .nilp) := by
    rcases List.mem_append.1 hj with q | q
    ·obtain ⟨r1,r2,r3,r4⟩ := hrow j q
     exact ⟨r1,by omega,r3, (f6.get j (by omega) (by simp)).trans ((f5.get j r2 (by simp)).trans r4)⟩
    ·simp at q; subst q
     exact ⟨by omega,by omega,fun hm => by have := so4.lt _ hm; omega,g6⟩
   obtain ⟨r1,r2,r3,r4⟩ := key
   refine ⟨r1,by omega,fun hm => ?_, ?_⟩
   ·rcases f7.new j hm with e | e
    ·exact r3 e
    ·omega
   ·rw [AHeap.get_set_ne _ _ (by omega), f7.get j r2 r3,r4]
 ·have hi : i = p := by simp only [decide_eq_false_iff_not] at hb; omega
  simp -implicitDefEqProofs (disch := first|decide|assumption|omega|(simp -implicitDefEqProofs only [AM.RN];first|done|omega)|fail) only [↓AM.R0,AM.R1,AM.R2,Nat.reduceAdd,Nat.reduceLeDiff,Nat.reduceEqDiff,Int.reduceToNat,Nat.reduceLT,↓reduceIte,Int.reduceEq,Int.reduceLT,Int.reduceLE,y8]
  subst hQ
  obtain ⟨id,gn,vs,hid,gid,lid,hvs,hGid⟩ : ∃ id gn vs,sv = .sl id gn 0 rs.length 1 ∧ h'.get id = .cells gn false vs ∧ id < h'.n ∧ vs = rs.flatMap encR ∧ G = [id] := by
   rcases so4 with ⟨_,e,_⟩ | ⟨id,gn,off,vs,e1,e2,e3,e4,e5,e6⟩
   ·subst e; simp at hrs; omega
   ·rcases hoff with e | ⟨a,b,c,d,e⟩
    ·rw [e] at e1; cases e1
    ·rw [e] at e1; cases e1
     exact ⟨id,gn,vs,e,e2,e3,by rw [← e5]; rfl,e6⟩
  have hidn : h3.n ≤ id := hG id (by rw [hGid]; simp)
  have K1 : ∀ j,j ∈ q.F ++ [t,so,oo] → j < h1.n := fun j hj => (hnew j hj).2
  have hKK : ∀ j, (if j = h1.n + 1 then 1 else if j = h1.n then 2 else if j = id then 3 else if j ∈ rs then 4 else if j ∈ q.F ++ [t,so,oo] then 6 else 0) ≠ 0 → h.n ≤ j ∧ j < h'.n := fun j hj => by
   split at hj
   ·omega
   ·split at hj
    ·omega
    ·split at hj
     ·omega
     ·split at hj
      ·rename_i hm; have := hrow j hm; omega
      ·split at hj
       ·rename_i hm; have := hnew j hm; omega
       ·exact absurd rfl hj
  refine .inr ⟨by omega,by omega,by omega,by omega, ⟨h1.n + 1,t,so,oo,h1.n,id,gn,q,fun x => rs.getD x 0,fun _ => 0,fun j => if j = h1.n + 1 then 1 else if j = h1.n then 2 else if j = id then 3 else if j ∈ rs then 4 else if j ∈ q.F ++ [t,so,oo] then 6 else 0⟩, F4,fun j hj => (hKK j hj).1, ⟨ws,lv, [], ?_⟩, rfl⟩
  subst hi
  have n0 := T.2
  refine ⟨zeroI_,R2.keepD f4 (fun j hj hm => by simp at hm; have := K1 j hj; omega), by show i ≤ 8; omega, ?_, (f4.get h1.n (by omega) (by simp)).trans gm,List.nodup_nil,fun a => by simp [Cm.zero], ?_,fun p hp => ?_,fun b hb => by simp [Cm.zero] at hb,fun j hj => ⟨by have := hKK j hj; omega, (hKK j hj).2⟩, ⟨if_pos rfl, ?_, ?_⟩, fun p hp => ?_,fun b hb => by simp [Cm.zero] at hb,fun j hj => ?_,fun a b ha hb e => getD_inj hnd (by rw [hrs]; exact ha) (by rw [hrs]; exact hb) e,fun b b' hb => by simp [Cm.zero] at hb⟩
  ·show h'.get (h1.n + 1) = _
   rw [gc4,hid,hrs]; rfl
  ·show h'.get id = .cells gn false (holdV _ _)
   rw [gid,hvs]
   have := range_getD rs
   rw [hrs] at this
   show _ = AObj.cells gn false ((List.range i).map fun p => .sl (rs.getD p 0) 0 0 16 1)
   rw [this]; rfl
  ·have hp : p < i := hp
   have hm := getD_mem (l := rs) (i := p) (by omega)
   show h'.get (rs.getD p 0) = _
   rw [(hrow _ hm).2.2.2]
   rfl
  ·show (if h1.n = h1.n + 1 then 1 else if h1.n = h1.n then 2 else _) = 2
   rw [if_neg (by omega), if_pos rfl]
  ·show (if id = h1.n + 1 then 1 else if id = h1.n then 2 else if id = id then 3 else _) = 3
   rw [if_neg (by omega), if_neg (by omega), if_pos rfl]
  ·have hp : p < i := hp
   have hm := getD_mem (l := rs) (i := p) (by omega)
   have := hrow _ hm
   show (if rs.getD p 0 = h1.n + 1 then 1 else if rs.getD p 0 = h1.n then 2 else if rs.getD p 0 = id then 3 else if rs.getD p 0 ∈ rs then 4 else _) = 4
   rw [if_neg (by omega), if_neg (by omega), if_neg (fun e => this.2.2.1 (by rw [hGid,e]; simp)), if_pos hm]
  ·have hj' : j ∈ q.F ++ [t,so,oo] := hj
   have := K1 j hj'
   show (if j = h1.n + 1 then 1 else if j = h1.n then 2 else if j = id then 3 else if j ∈ rs then 4 else if j ∈ q.F ++ [t,so,oo] then 6 else 0) = 6
   rw [if_neg (by omega), if_neg (by omega), if_neg (by omega), if_neg (fun hm => by have := hrow j hm; omega), if_pos hj']
end Go.Proofs.YthillgheddpmhaaDoor.Pg
namespace Go.Proofs.YthillgheddpmhaaDoor.Pg
open Go Go.AM Go.Proofs.YthillgheddpmhaaDoor.AmGE
attribute [local irreducible] AM.wp AM.wpIs AM.wpTr AM.opI AM.gI AM.cI AM.trI AM.callI AM.fnI AM.yldI AM.rangeI AM.rangeC AM.YldP AM.asgQ AM.roundQ AM.rangeQ AM.trG AM.trOp AM.trCall AM.seqC AM.loopI
set_option maxRecDepth 100000
set_option linter.unusedVariables false
set_option linter.unusedSimpArgs false
/-- What a room that was made here leaves alone. -/
theorem CFr.newH {h h1 h' : AHeap} {g g' : CG} (f : HFrame h h1 [] []) (k : ∀ j,g.K j ≠ 0 → h.n ≤ j) (F : CFr h1 h' g g') : HFrame h h' [] [] ∧ ∀ j,j < h.n → g'.K j = 0 := by
 have hk : ∀ j,j < h.n → g.K j = 0 := fun j hj => by
  cases e : g.K j with
  | zero => rfl
  | succ x => have := k j (by omega); omega
 refine ⟨⟨Nat.le_trans f.n F.n,F.G.trans f.g,fun j hj _ => (F.get j (Nat.lt_of_lt_of_le hj f.n) (hk j hj)).trans (f.get j hj (by simp)), fun j hj => by simp at hj,fun j hj => by simp at hj⟩, fun j hj => (F.K j (Nat.lt_of_lt_of_le hj f.n)).trans (hk j hj)⟩
theorem CellQ.K0 {h : AHeap} {g : CG} {m : Cm} (Q : CellQ h g m) : g.K 0 = 0 := by obtain ⟨ws,lv,bs,R⟩ := Q; exact R.K0
theorem CellQ.keep {h h' : AHeap} {g : CG} {m : Cm} (Q : CellQ h g m) {A : List Nat} (f : HFrame h h' [] A) : CellQ h' g m := by obtain ⟨ws,lv,bs,R⟩ := Q; exact ⟨ws,lv,bs,R.keep f⟩
theorem CellQ.keepD {h h' : AHeap} {g : CG} {m : Cm} (Q : CellQ h g m) {A A' : List Nat} (f : HFrame h h' A A') (d : ∀ j,g.K j ≠ 0 → j ∉ A) : CellQ h' g m := by obtain ⟨ws,lv,bs,R⟩ := Q; exact ⟨ws,lv,bs,R.keepD f d⟩
set_option maxHeartbeats 4000000 in
theorem awakeC {h : AHeap} (T : TabR h) : CallP AP 43 [] h fun r h' => HFrame h h' [] [] ∧ r = .bool true := by
 refine callP (rfl : Tr.get AP 43 = some A43) ?_
 generalize hQ : (fun (r : AVal) (h' : AHeap) => _) = Q
 simp -implicitDefEqProofs (disch := first|decide|assumption|omega|(simp -implicitDefEqProofs only [AM.RN];first|done|omega)|fail) only [↓AM.R0,AM.R1,AM.R2,Nat.reduceAdd,Nat.reduceLeDiff,Nat.reduceEqDiff,Int.reduceToNat,Nat.reduceLT,↓reduceIte,Int.reduceEq,Int.reduceLT,Int.reduceLE]
 refine AM.callI_of (newC T 8 2) ?_
 rintro r h1 (⟨c,_⟩ | ⟨_,_,_,_,g,f1,k1,Q1,rfl⟩)
 ·exact absurd ⟨by decide,by decide,by decide,by decide⟩ c
 have T1 := T.frame f1 (by simp)
 have e1 : (Cm.zero (8 : Int).toNat (2 : Int).toNat) = Cm.zero 8 2 := rfl
 rw [e1] at Q1
 simp -implicitDefEqProofs (disch := first|decide|assumption|omega|(simp -implicitDefEqProofs only [AM.RN];first|done|omega)|fail) only [↓AM.R0,AM.R1,AM.R2,Nat.reduceAdd,Nat.reduceLeDiff,Nat.reduceEqDiff,Int.reduceToNat,Nat.reduceLT,↓reduceIte,Int.reduceEq,Int.reduceLT,Int.reduceLE]
 refine AM.callI_of (allocC T1 Q1 0 3) ?_
 rintro r h2 ⟨g2,F2,Q2,rfl⟩
 have T2 := F2.tabR Q1.K0 T1
 have a2 : ((Cm.zero 8 2).alloc 0 3).1 = (0,0) := by decide +kernel
 rw [a2, ← F2.c]
 generalize hm2 : ((Cm.zero 8 2).alloc 0 3).2 = m2 at *
 simp -implicitDefEqProofs (disch := first|decide|assumption|omega|(simp -implicitDefEqProofs only [AM.RN];first|done|omega)|fail) only [↓AM.R0,AM.R1,AM.R2,Nat.reduceAdd,Nat.reduceLeDiff,Nat.reduceEqDiff,Int.reduceToNat,Nat.reduceLT,↓reduceIte,Int.reduceEq,Int.reduceLT,Int.reduceLE,res2]
 refine AM.callI_of (allocC T2 Q2 0 3) ?_
 rintro r h3 ⟨g3,F3,Q3,rfl⟩
 have T3 := F3.tabR Q2.K0 T2
 have a3 : (m2.alloc 0 3).1 = (3,0) := by rw [← hm2]; decide +kernel
 rw [a3, ← F3.c]
 generalize hm3 : (m2.alloc 0 3).2 = m3 at *
 simp -implicitDefEqProofs (disch := first|decide|assumption|omega|(simp -implicitDefEqProofs only [AM.RN];first|done|omega)|fail) only [↓AM.R0,AM.R1,AM.R2,Nat.reduceAdd,Nat.reduceLeDiff,Nat.reduceEqDiff,Int.reduceToNat,Nat.reduceLT,↓reduceIte,Int.reduceEq,Int.reduceLT,Int.reduceLE,res2]
 refine AM.callI_of (allocC T3 Q3 1 3) ?_
 rintro r h4 ⟨g4,F4,Q4,rfl⟩
 have T4 := F4.tabR Q3.K0 T3
 have a4 : (m3.alloc 1 3).1 = (64,0) := by rw [← hm3, ← hm2]; decide +kernel
 rw [a4, ← F4.c]
 generalize hm4 : (m3.alloc 1 3).2 = m4 at *
 simp -implicitDefEqProofs (disch := first|decide|assumption|omega|(simp -implicitDefEqProofs only [AM.RN];first|done|omega)|fail) only [↓AM.R0,AM.R1,AM.R2,Nat.reduceAdd,Nat.reduceLeDiff,Nat.reduceEqDiff,Int.reduceToNat,Nat.reduceLT,↓reduceIte,Int.reduceEq,Int.reduceLT,Int.reduceLE,res2]
 have Q4' := Q4
 obtain ⟨ws,lv,bs,R4⟩ := Q4'
 refine AM.callI_of (findC R4 5 (by decide)) ?_
 rintro r h5 ⟨f5,rfl⟩
 have Q5 := Q4.keep f5
 have a5 : encC (m4.cell 5) = .tup [.int .i64 3, .int .i64 3, .bool true] := by
  have e : (m4.cell 5).map (fun p => (p.1.a,p.2,p.1.ws)) = some (0,1,3) := by rw [← hm4, ← hm3, ← hm2]; decide +kernel
  cases hc : m4.cell 5 with
  | none => rw [hc] at e; cases e
  | some p =>
   obtain ⟨b,k⟩ := p
   rw [hc] at e
   simp only [Option.map_some,Option.some.injEq,Prod.mk.injEq] at e
   unfold encC
   simp only [e.1,e.2.1,e.2.2]; rfl
 rw [a5]
 simp -implicitDefEqProofs (disch := first|decide|assumption|omega|(simp -implicitDefEqProofs only [AM.RN];first|done|omega)|fail) only [↓AM.R0,AM.R1,AM.R2,Nat.reduceAdd,Nat.reduceLeDiff,Nat.reduceEqDiff,Int.reduceToNat,Nat.reduceLT,↓reduceIte,Int.reduceEq,Int.reduceLT,Int.reduceLE]
 refine AM.callI_of (usedC Q5 1) ?_
 rintro r h6 ⟨f6,rfl⟩
 have Q6 := Q5.keep f6
 have a6 : (findF m4.L 1).isSome = true := by rw [← hm4, ← hm3, ← hm2]; decide +kernel
 rw [a6]
 simp -implicitDefEqProofs (disch := first|decide|assumption|omega|(simp -implicitDefEqProofs only [AM.RN];first|done|omega)|fail) only [↓AM.R0,AM.R1,AM.R2,Nat.reduceAdd,Nat.reduceLeDiff,Nat.reduceEqDiff,Int.reduceToNat,Nat.reduceLT,↓reduceIte,Int.reduceEq,Int.reduceLT,Int.reduceLE]
 refine AM.callI_of (usedC Q6 2) ?_
 rintro r h7 ⟨f7,rfl⟩
 have a7 : (findF m4.L 2).isSome = false := by rw [← hm4, ← hm3, ← hm2]; decide +kernel
 rw [a7]
 simp -implicitDefEqProofs (disch := first|decide|assumption|omega|(simp -implicitDefEqProofs only [AM.RN];first|done|omega)|fail) only [↓AM.R0,AM.R1,AM.R2,Nat.reduceAdd,Nat.reduceLeDiff,Nat.reduceEqDiff,Int.reduceToNat,Nat.reduceLT,↓reduceIte,Int.reduceEq,Int.reduceLT,Int.reduceLE]
 subst hQ
 have FF := (F2.trans F3).trans F4
 exact ⟨((((CFr.newH f1 k1 FF).1).trans f5).trans f6).trans f7,rfl⟩
end Go.Proofs.YthillgheddpmhaaDoor.Pg
namespace Go.Proofs.YthillgheddpmhaaDoor.Pg
open Go Go.AM Go.Proofs.YthillgheddpmhaaDoor.AmGE
set_option maxRecDepth 100000
set_option linter.unusedVariables false
set_option linter.unusedSimpArgs false
variable {m : Cm}
def UseB (b : Blk) (x s : Nat) : Prop := ∃ k,b.u.testBit k = true ∧ x = b.a * 64 + k * b.ws ∧ s = b.ws
def InUse (m : Cm) (x s : Nat) : Prop := ∃ b,b ∈ m.bl ∧ UseB b x s
/-- Nothing is kept that is neither used nor held. -/
def DInv (m : Cm) : Prop := ∀ b,b ∈ m.bl → b.c ≠ -2 ∧ (b.u ≠ 0 ∨ b.w ≠ none)
theorem CInv.bit (I : CInv m) {b : Blk} (hb : b ∈ m.bl) {k : Nat} (h : b.u.testBit k = true) : b.c ≠ -2 ∧ 1 ≤ b.ws ∧ k * b.ws + b.ws ≤ b.k * 64 := by
 rcases I.B b hb with ⟨_,e,_⟩ | ⟨e,e2,_⟩ | ⟨c,h1,e,e3,e4⟩
 ·rw [e] at h; simp at h
 ·have hk := (I.bd hb).1
  have hk0 : k = 0 := by
   rcases Nat.eq_zero_or_pos k with q | q
   ·exact q
   ·exfalso
    rw [Nat.testBit_lt_two_pow (Nat.lt_of_le_of_lt e2 (Nat.lt_of_lt_of_le (by decide : 1 < 2 ^ 1) (Nat.pow_le_pow_right (by decide) q)))] at h; cases h
  have hw : b.ws = b.k * 64 := by unfold Blk.ws; rw [if_pos (by omega)]
  rw [hk0,hw]; omega
 ·have ht := tabs c h1
  have hw : b.ws = sizeT.getD c 0 := by unfold Blk.ws; rw [if_neg (by omega), e,Int.toNat_natCast]
  have hlt : k < cellT.getD c 0 := by
   rcases Nat.lt_or_ge k (cellT.getD c 0) with q | q
   ·exact q
   ·rw [Nat.testBit_lt_two_pow (Nat.lt_of_lt_of_le e4 (Nat.pow_le_pow_right (by decide) q))] at h; cases h
  refine ⟨by omega,by omega, ?_⟩
  rw [hw,e3]
  have h5 : (k + 1) * sizeT.getD c 0 ≤ cellT.getD c 0 * sizeT.getD c 0 := Nat.mul_le_mul_right _ (by omega)
  rw [Nat.add_mul,Nat.one_mul] at h5
  omega
theorem use_find (I : CInv m) {b : Blk} (hb : b ∈ m.bl) {k : Nat} (h : b.u.testBit k = true) : m.find ((b.a * 64 + k * b.ws : Nat) : Int) = some (b,k) := by
 obtain ⟨h1,h2,h3⟩ := I.bit hb h
 have hq1 : b.a ≤ (b.a * 64 + k * b.ws) / 64 := by omega
 have hq2 : (b.a * 64 + k * b.ws) / 64 < b.a + b.k := by omega
 unfold Cm.find
 rw [if_neg (by omega), Int.toNat_natCast]
 have hf := I.S.find (s := b.sp) (List.mem_map.2 ⟨b,hb,rfl⟩) (q := (b.a * 64 + k * b.ws) / 64) hq1 hq2
 rw [findF_find] at hf
 cases e : m.bl.find? (fun b' => decide (b'.a ≤ (b.a * 64 + k * b.ws) / 64) && decide ((b.a * 64 + k * b.ws) / 64 < b'.a + b'.k)) with
 | none => rw [e] at hf; cases hf
 | some b' =>
  rw [e] at hf
  simp only [Option.map_some,Option.some.injEq] at hf
  have hb' := List.mem_of_find?_eq_some e
  have : b'.a = b.a := congrArg Sp.a hf
  obtain rfl := I.same hb' hb this
  simp only
  rw [if_neg h1,Nat.add_sub_cancel_left,Nat.mul_div_cancel _ (by omega)]
theorem use_cell (I : CInv m) {b : Blk} (hb : b ∈ m.bl) {k : Nat} (h : b.u.testBit k = true) : m.cell ((b.a * 64 + k * b.ws : Nat) : Int) = some (b,k) := by
 unfold Cm.cell; rw [use_find I hb h]; simp only [h,if_true]
theorem use_bd (I : CInv m) {x s : Nat} (h : InUse m x s) : 1 ≤ s ∧ x + s ≤ m.n * 64 := by
 obtain ⟨b,hb,k,h1,rfl,rfl⟩ := h
 have h2 := I.bit hb h1
 have h3 := I.bd hb
 omega
theorem use_fun (I : CInv m) {x s t : Nat} (h : InUse m x s) (h' : InUse m x t) : s = t := by
 obtain ⟨b,hb,k,h1,rfl,rfl⟩ := h
 obtain ⟨b', hb', k', h1', e,rfl⟩ := h'
 have f1 := use_find I hb h1
 have f2 := use_find I hb' h1'
 rw [← e,f1] at f2
 simp only [Option.some.injEq,Prod.mk.injEq] at f2
 rw [f2.1]
/-- Cells have nothing in common. -/
theorem use_apart (I : CInv m) {x s y t : Nat} (h : InUse m x s) (h' : InUse m y t) (ne : x ≠ y) : x + s ≤ y ∨ y + t ≤ x := by
 obtain ⟨b,hb,k,h1,rfl,rfl⟩ := h
 obtain ⟨b', hb', k', h1', rfl,rfl⟩ := h'
 have z1 := I.bit hb h1
 have z2 := I.bit hb' h1'
 by_cases e : b.a = b'.a
 ·obtain rfl := I.same hb hb' e
  rcases Nat.lt_trichotomy k k' with q | q | q
  ·left
   have := Nat.mul_le_mul_right b.ws (show k + 1 ≤ k' by omega)
   rw [Nat.add_mul,Nat.one_mul] at this
   omega
  ·subst q; exact absurd rfl ne
  ·right
   have := Nat.mul_le_mul_right b.ws (show k' + 1 ≤ k by omega)
   rw [Nat.add_mul,Nat.one_mul] at this
   omega
 ·have hs := fun q => sp_uniq I.S.srt (s := b.sp) (t := b'.sp) (q := q)
  have d1 := I.bd hb
  have d2 := I.bd hb'
  have key : b.a + b.k ≤ b'.a ∨ b'.a + b'.k ≤ b.a := by
   refine Classical.byContradiction fun hc => e ?_
   rcases Nat.lt_or_ge b.a b'.a with q | q
   ·have := hs b'.a (List.mem_map.2 ⟨b,hb,rfl⟩) (List.mem_map.2 ⟨b', hb', rfl⟩) (by show b.a ≤ b'.a; omega) (by show b'.a < b.a + b.k; omega) (Nat.le_refl _) (by show b'.a < b'.a + b'.k; omega)
    exact congrArg Sp.a this
   ·have := hs b.a (List.mem_map.2 ⟨b,hb,rfl⟩) (List.mem_map.2 ⟨b', hb', rfl⟩) (Nat.le_refl _) (by show b.a < b.a + b.k; omega) (by show b'.a ≤ b.a; omega) (by show b.a < b'.a + b'.k; omega)
    exact congrArg Sp.a this
  omega
theorem use_updW (I : CInv m) {b : Blk} (hb : b ∈ m.bl) (w : Option Nat) (x s : Nat) : InUse (m.upd b.a (Blk.setW w)) x s ↔ InUse m x s := by
 constructor
 ·rintro ⟨y,hy,hu⟩
  rcases mem_upd.1 hy with ⟨y', hy', e,rfl⟩ | ⟨hy', e⟩
  ·exact ⟨y', hy', hu⟩
  ·exact ⟨y,hy', hu⟩
 ·rintro ⟨y,hy,hu⟩
  by_cases e : y.a = b.a
  ·exact ⟨Blk.setW w y,mem_upd.2 (.inl ⟨y,hy,e,rfl⟩), hu⟩
  ·exact ⟨y,mem_upd.2 (.inr ⟨hy,e⟩), hu⟩
theorem use_ins {b : Blk} (h0 : b.u = 0) (x s : Nat) : InUse (m.ins b) x s ↔ InUse m x s := by
 constructor
 ·rintro ⟨y,hy,hu⟩
  rcases mem_insB.1 hy with rfl | e
  ·obtain ⟨k,q,_⟩ := hu; rw [h0] at q; simp at q
  ·exact ⟨y,e,hu⟩
 ·rintro ⟨y,hy,hu⟩; exact ⟨y,mem_insB.2 (.inr hy), hu⟩
theorem use_rem (I : CInv m) {b : Blk} (hb : b ∈ m.bl) (h0 : b.u = 0) (x s : Nat) : InUse (m.rem b.a) x s ↔ InUse m x s := by
 constructor
 ·rintro ⟨y,hy,hu⟩; exact ⟨y, (List.mem_filter.1 hy).1,hu⟩
 ·rintro ⟨y,hy,hu⟩
  refine ⟨y,List.mem_filter.2 ⟨hy, ?_⟩, hu⟩
  simp only [bne_iff_ne,ne_eq]
  intro e
  obtain rfl := I.same hy hb e
  obtain ⟨k,q,_⟩ := hu; rw [h0] at q; simp at q
theorem use_drop (I : CInv m) {b : Blk} (hb : b ∈ m.bl) (x s : Nat) : InUse (m.drop b) x s ↔ InUse m x s := by
 unfold Cm.drop
 split
 ·rename_i h; exact use_rem I hb h.1 x s
 ·exact Iff.rfl
/-- A cell more,or less. -/
theorem use_bits (I : CInv m) {b : Blk} (hb : b ∈ m.bl) {u k : Nat} (hk : ∀ j,u.testBit j = if j = k then !b.u.testBit k else b.u.testBit j) (x s : Nat) :
  (b.u.testBit k = false → (InUse (m.upd b.a (Blk.setU u)) x s ↔ (x = b.a * 64 + k * b.ws ∧ s = b.ws) ∨ InUse m x s)) ∧
  (b.u.testBit k = true → (InUse (m.upd b.a (Blk.setU u)) x s ↔ InUse m x s ∧ x ≠ b.a * 64 + k * b.ws)) := by
 constructor
 ·intro hf
  constructor
  ·rintro ⟨y,hy,j,h1,h2,h3⟩
   rcases mem_upd.1 hy with ⟨y', hy', e,rfl⟩ | ⟨hy', e⟩
   ·obtain rfl := I.same hy' hb e
    have h1' : u.testBit j = true := h1
    rw [hk] at h1'
    by_cases ej : j = k
    ·subst ej; exact .inl ⟨h2,h3⟩
    ·rw [if_neg ej] at h1'
     exact .inr ⟨y', hb,j,h1', h2,h3⟩
   ·exact .inr ⟨y,hy', j,h1,h2,h3⟩
  ·rintro (⟨h2,h3⟩ | ⟨y,hy,j,h1,h2,h3⟩)
   ·refine ⟨Blk.setU u b,mem_upd.2 (.inl ⟨b,hb,rfl,rfl⟩), k, ?_,h2,h3⟩
    show u.testBit k = true
    rw [hk,if_pos rfl,hf]; rfl
   ·by_cases e : y.a = b.a
    ·obtain rfl := I.same hy hb e
     refine ⟨Blk.setU u y,mem_upd.2 (.inl ⟨y,hy,rfl,rfl⟩), j, ?_,h2,h3⟩
     show u.testBit j = true
     rw [hk,if_neg (by rintro rfl; rw [hf] at h1; cases h1), h1]
    ·exact ⟨y,mem_upd.2 (.inr ⟨hy,e⟩), j,h1,h2,h3⟩
 ·intro ht
  constructor
  ·rintro ⟨y,hy,j,h1,h2,h3⟩
   rcases mem_upd.1 hy with ⟨y', hy', e,rfl⟩ | ⟨hy', e⟩
   ·obtain rfl := I.same hy' hb e
    have h1' : u.testBit j = true := h1
    rw [hk] at h1'
    by_cases ej : j = k
    ·subst ej; rw [if_pos rfl,ht] at h1'; cases h1'
    ·rw [if_neg ej] at h1'
     refine ⟨⟨y', hb,j,h1', h2,h3⟩, fun e2 => ?_⟩
     have f1 := use_find I hb h1'
     have f2 := use_find I hb ht
     have h2' : x = y'.a * 64 + j * y'.ws := h2
     rw [← h2', e2,f2] at f1
     simp only [Option.some.injEq,Prod.mk.injEq,true_and] at f1
     exact ej f1.symm
   ·refine ⟨⟨y,hy', j,h1,h2,h3⟩, fun e2 => ?_⟩
    have f1 := use_find I hy' h1
    have f2 := use_find I hb ht
    rw [← h2,e2,f2] at f1
    simp only [Option.some.injEq,Prod.mk.injEq] at f1
    exact e (by rw [f1.1])
  ·rintro ⟨⟨y,hy,j,h1,h2,h3⟩, ne⟩
   by_cases e : y.a = b.a
   ·obtain rfl := I.same hy hb e
    refine ⟨Blk.setU u y,mem_upd.2 (.inl ⟨y,hy,rfl,rfl⟩), j, ?_,h2,h3⟩
    show u.testBit j = true
    rw [hk,if_neg (by rintro rfl; exact ne h2), h1]
   ·exact ⟨y,mem_upd.2 (.inr ⟨hy,e⟩), j,h1,h2,h3⟩
theorem bits_set {u k : Nat} (h : u.testBit k = false) (j : Nat) : (u ||| 2 ^ k).testBit j = if j = k then !u.testBit k else u.testBit j := by
 rw [Nat.testBit_or,Nat.testBit_two_pow]
 by_cases e : j = k
 ·subst e; simp [h]
 ·rw [if_neg e,decide_eq_false (fun q => e q.symm), Bool.or_false]
theorem bits_clr {u k : Nat} (hu : u < 18446744073709551616) (hk : k < 64) (h : u.testBit k = true) (j : Nat) : (clr u k).testBit j = if j = k then !u.testBit k else u.testBit j := by
 obtain ⟨h1,h2⟩ := clr_bit hu hk
 by_cases e : j = k
 ·subst e; rw [if_pos rfl,h]; exact h1
 ·rw [if_neg e]
  have h3 := h2 h
  have : u.testBit j = ((clr u k) ||| 2 ^ k).testBit j := by unfold clr; rw [h3]
  rw [this,Nat.testBit_or,Nat.testBit_two_pow,decide_eq_false (fun q => e q.symm), Bool.or_false]
theorem pick2_use (I : CInv m) {p c : Nat} (hc : c < 16) : (∀ x s,InUse (m.pick2 p c).2 x s ↔ InUse m x s) ∧ (DInv m → DInv (m.pick2 p c).2) := by
 unfold Cm.pick2
 cases hs : m.spare c with
 | some b =>
  obtain ⟨h1,h2,h3,h4⟩ := spare_mem hs
  refine ⟨fun x s => use_updW I h1 _ x s,fun D y hy => ?_⟩
  rcases mem_upd.1 hy with ⟨y', hy', e,rfl⟩ | ⟨hy', e⟩
  ·exact ⟨(D y' hy').1, .inr (by show (some p : Option Nat) ≠ none; simp)⟩
  ·exact D y hy'
 | none =>
  simp only
  cases hf : m.fit (pageT.getD c 0) with
  | none => exact ⟨fun x s => Iff.rfl,id⟩
  | some a =>
   have ht := tabs c hc
   have hfa := (fit_some (by omega) (fun q => f_out m)).1 hf
   have I' : CInv (m.ins ⟨a,pageT.getD c 0,c,0,none⟩) := I.ins (b := ⟨a,pageT.getD c 0,c,0,none⟩) (by show 1 ≤ pageT.getD c 0; omega) hfa (.inr (.inr ⟨c,hc,rfl,rfl,Nat.two_pow_pos _⟩)) rfl
   have hm : (⟨a,pageT.getD c 0,c,0,none⟩ : Blk) ∈ (m.ins ⟨a,pageT.getD c 0,c,0,none⟩).bl := mem_insB.2 (.inl rfl)
   refine ⟨fun x s => (use_updW I' hm (some p) x s).trans (use_ins rfl x s), fun D y hy => ?_⟩
   rcases mem_upd.1 hy with ⟨y', hy', e,rfl⟩ | ⟨hy', e⟩
   ·obtain rfl := I'.same hy' hm e
    exact ⟨by show (c : Int) ≠ -2; omega, .inr (by show (some p : Option Nat) ≠ none; simp)⟩
   ·rcases mem_insB.1 hy' with rfl | q
    ·exact absurd rfl e
    ·exact D y q
theorem pick_use (I : CInv m) {p c : Nat} (hc : c < 16) : (∀ x s,InUse (m.pick p c).2 x s ↔ InUse m x s) ∧ (DInv m → DInv (m.pick p c).2) := by
 unfold Cm.pick
 cases hh : m.held p c with
 | none => exact pick2_use I hc
 | some b =>
  simp only
  obtain ⟨h1,h2,h3⟩ := held_mem hh
  by_cases hf : b.full = true
  ·rw [if_pos hf]
   have I' : CInv (m.upd b.a (Blk.setW none)) := I.setW h1 h2 fun q hq => by cases hq
   obtain ⟨a1,a2⟩ := pick2_use I' (p := p) hc
   refine ⟨fun x s => (a1 x s).trans (use_updW I h1 none x s), fun D => a2 fun y hy => ?_⟩
   rcases mem_upd.1 hy with ⟨y', hy', e,rfl⟩ | ⟨hy', e⟩
   ·obtain rfl := I.same hy' h1 e
    refine ⟨(D y' hy').1, .inl fun e0 => ?_⟩
    have e0' : y'.u = 0 := e0
    unfold Blk.full at hf
    rw [e0', pc_z,h2,Int.toNat_natCast] at hf
    have := tabs c hc
    have := of_decide_eq_true hf
    omega
   ·exact D y hy'
  ·rw [if_neg hf]; exact ⟨fun x s => Iff.rfl,id⟩
theorem pick2_pr (m : Cm) (p c : Nat) : (m.pick2 p c).2.pr = m.pr := by
 unfold Cm.pick2
 cases m.spare c with
 | some b => rfl
 | none => simp only; cases m.fit (pageT.getD c 0) <;> rfl
theorem pick_pr (m : Cm) (p c : Nat) : (m.pick p c).2.pr = m.pr := by
 unfold Cm.pick
 cases m.held p c with
 | none => exact pick2_pr m p c
 | some b =>
  simp only
  split
  ·exact pick2_pr _ p c
  ·rfl
theorem pick2_inv (I : CInv m) {p c : Nat} (hp : p < m.pr) (hc : c < 16) (hn : m.held p c = none) : CInv (m.pick2 p c).2 ∧ ∀ a, (m.pick2 p c).1 = some a → ∃ b,b ∈ (m.pick2 p c).2.bl ∧ b.a = a ∧ b.c = (c : Int) ∧ b.w = some p ∧ b.full = false := by
 unfold Cm.pick2
 cases hs : m.spare c with
 | some b =>
  obtain ⟨h1,h2,h3,h4⟩ := spare_mem hs
  refine ⟨I.setW h1 h2 fun q hq => (by cases hq; exact ⟨hp,hn⟩), fun a ha => ?_⟩
  simp only [Option.some.injEq] at ha
  exact ⟨Blk.setW (some p) b,mem_upd.2 (.inl ⟨b,h1,rfl,rfl⟩), ha,h2,rfl,h4⟩
 | none =>
  simp only
  cases hf : m.fit (pageT.getD c 0) with
  | none => exact ⟨I,fun a ha => by cases ha⟩
  | some a =>
   have ht := tabs c hc
   have hfa := (fit_some (by omega) (fun q => f_out m)).1 hf
   have I' : CInv (m.ins ⟨a,pageT.getD c 0,c,0,none⟩) := I.ins (b := ⟨a,pageT.getD c 0,c,0,none⟩) (by show 1 ≤ pageT.getD c 0; omega) hfa (.inr (.inr ⟨c,hc,rfl,rfl,Nat.two_pow_pos _⟩)) rfl
   have hm : (⟨a,pageT.getD c 0,c,0,none⟩ : Blk) ∈ (m.ins ⟨a,pageT.getD c 0,c,0,none⟩).bl := mem_insB.2 (.inl rfl)
   refine ⟨I'.setW hm rfl fun q hq => (by cases hq; exact ⟨hp,held_ins rfl hn⟩), fun a' ha => ?_⟩
   simp only [Option.some.injEq] at ha
   refine ⟨Blk.setW (some p) ⟨a,pageT.getD c 0,c,0,none⟩, mem_upd.2 (.inl ⟨_,hm,rfl,rfl⟩), ha,rfl,rfl, ?_⟩
   show decide (pc 64 0 = cellT.getD (c : Int).toNat 0) = false
   rw [pc_z,Int.toNat_natCast]; exact decide_eq_false (by omega)
theorem pick_inv (I : CInv m) {p c : Nat} (hp : p < m.pr) (hc : c < 16) : CInv (m.pick p c).2 ∧ ∀ a, (m.pick p c).1 = some a → ∃ b,b ∈ (m.pick p c).2.bl ∧ b.a = a ∧ b.c = (c : Int) ∧ b.w = some p ∧ b.full = false := by
 unfold Cm.pick
 cases hh : m.held p c with
 | none => exact pick2_inv I hp hc hh
 | some b =>
  simp only
  obtain ⟨h1,h2,h3⟩ := held_mem hh
  by_cases hf : b.full = true
  ·rw [if_pos hf]
   have I' : CInv (m.upd b.a (Blk.setW none)) := I.setW h1 h2 fun q hq => by cases hq
   exact pick2_inv I' hp hc (held_upd_none I hh)
  ·rw [if_neg hf]
   refine ⟨I,fun a ha => ?_⟩
   simp only [Option.some.injEq] at ha
   exact ⟨b,h1,ha,h2,h3,by simpa using hf⟩
/-- What Alloc does to the cells that are used. -/
theorem alloc_use (I : CInv m) (p w : Int) :
  ((m.alloc p w).1.2 ≠ 0 ∧ (m.alloc p w).2.pr = m.pr ∧ (∀ x s,InUse (m.alloc p w).2 x s ↔ InUse m x s) ∧ (m.alloc p w).2.cells = m.cells ∧ (DInv m → DInv (m.alloc p w).2)) ∨
  ((m.alloc p w).1.2 = 0 ∧ (m.alloc p w).2.pr = m.pr ∧ ∃ x s : Nat, (m.alloc p w).1.1 = (x : Int) ∧ w ≤ s ∧ (∀ y t,InUse (m.alloc p w).2 y t ↔ (y = x ∧ t = s) ∨ InUse m y t) ∧ (∀ t, ¬ InUse m x t) ∧ (m.alloc p w).2.cells = m.cells + 1 ∧ (DInv m → DInv (m.alloc p w).2)) := by
 unfold Cm.alloc
 by_cases hbad : p < 0 ∨ (m.pr : Int) ≤ p ∨ w < 1
 ·rw [if_pos hbad]; exact .inl ⟨by simp,rfl,fun _ _ => Iff.rfl,rfl,id⟩
 rw [if_neg hbad]
 by_cases h1024 : 1024 < w
 ·rw [if_pos h1024]; exact .inl ⟨by simp,rfl,fun _ _ => Iff.rfl,rfl,id⟩
 rw [if_neg h1024]
 obtain ⟨p,rfl⟩ : ∃ x : Nat,p = x := ⟨p.toNat,by omega⟩
 obtain ⟨w,rfl⟩ : ∃ x : Nat,w = x := ⟨w.toNat,by omega⟩
 rw [Int.toNat_natCast,Int.toNat_natCast]
 -- a free bit of a block is used
 have key : ∀ (m' : Cm) (I' : CInv m') (b : Blk) (k u : Nat), b ∈ m'.bl → (∀ x s,InUse m' x s ↔ InUse m x s) → b.u.testBit k = false → (∀ j,u.testBit j = if j = k then !b.u.testBit k else b.u.testBit j) → CInv (m'.upd b.a (Blk.setU u)) →
   (∀ y t,InUse (m'.upd b.a (Blk.setU u)) y t ↔ (y = b.a * 64 + k * b.ws ∧ t = b.ws) ∨ InUse m y t) ∧ ∀ t, ¬ InUse m (b.a * 64 + k * b.ws) t := fun m' I' b k u hb hu hbit hj I2 => by
  refine ⟨fun y t => by rw [(use_bits I' hb hj y t).1 hbit,hu],fun t ht => ?_⟩
  obtain ⟨b2,hb2,k2,q1,q2,q3⟩ := (hu _ t).2 ht
  have hm2 : Blk.setU u b ∈ (m'.upd b.a (Blk.setU u)).bl := mem_upd.2 (.inl ⟨b,hb,rfl,rfl⟩)
  have hbk : (Blk.setU u b).u.testBit k = true := by show u.testBit k = true; rw [hj,if_pos rfl,hbit]; rfl
  have f1 := use_find I2 hm2 hbk
  by_cases e : b2.a = b.a
  ·obtain rfl := I'.same hb2 hb e
   have hbk2 : (Blk.setU u b2).u.testBit k2 = true := by
    show u.testBit k2 = true
    rw [hj]; split
    ·rw [hbit]; rfl
    ·exact q1
   have f2 := use_find I2 hm2 hbk2
   have e1 : (Blk.setU u b2).a * 64 + k * (Blk.setU u b2).ws = (Blk.setU u b2).a * 64 + k2 * (Blk.setU u b2).ws := q2
   rw [← e1,f1] at f2
   simp only [Option.some.injEq,Prod.mk.injEq,true_and] at f2
   rw [f2,q1] at hbit; cases hbit
  ·have f2 := use_find I2 (b := b2) (mem_upd.2 (.inr ⟨hb2,e⟩)) q1
   have e1 : (Blk.setU u b).a * 64 + k * (Blk.setU u b).ws = b2.a * 64 + k2 * b2.ws := q2
   rw [← e1,f1] at f2
   simp only [Option.some.injEq,Prod.mk.injEq] at f2
   exact e (by rw [← f2.1]; rfl)
 by_cases h64 : (64 : Int) < (w : Int)
 ·rw [if_pos h64]
  have hk : 1 ≤ (w + 63) / 64 := by omega
  have hwk : w ≤ (w + 63) / 64 * 64 := by omega
  generalize (w + 63) / 64 = k at *
  cases hft : m.fit k with
  | none => exact .inl ⟨by simp,rfl,fun _ _ => Iff.rfl,rfl,id⟩
  | some a =>
   have hfa := (fit_some hk (fun q => f_out m)).1 hft
   have I4 : CInv (m.ins ⟨a,k, -1,0,none⟩) := I.ins (b := ⟨a,k, -1,0,none⟩) hk hfa (.inr (.inl ⟨rfl,by simp,rfl⟩)) rfl
   have hm : (⟨a,k, -1,0,none⟩ : Blk) ∈ (m.ins ⟨a,k, -1,0,none⟩).bl := mem_insB.2 (.inl rfl)
   have I5 : CInv ((m.ins ⟨a,k, -1,0,none⟩).upd a (Blk.setU 1)) := I4.setU hm (.inl ⟨rfl,Nat.le_refl _⟩)
   obtain ⟨k1,k2⟩ := key _ I4 ⟨a,k, -1,0,none⟩ 0 1 hm (use_ins rfl) (by simp) (fun j => by
    by_cases e : j = 0
    ·subst e; simp
    ·rw [if_neg e]; simp only [Nat.zero_testBit]
     cases j with
     | zero => exact absurd rfl e
     | succ j => rw [Nat.testBit_succ]; simp) I5
   have hc := cells_upd I4 hm 1
   have hc0 := cells_ins0 (m := m) ⟨a,k, -1,0,none⟩ rfl
   have hws : (⟨a,k, -1,0,none⟩ : Blk).ws = k * 64 := rfl
   rw [hws,Nat.zero_mul,Nat.add_zero] at k1 k2
   refine .inr ⟨rfl,rfl,a * 64,k * 64,rfl,by omega,k1,k2, ?_,fun D y hy => ?_⟩
   ·have e1 : pc 64 (⟨a,k, -1,0,none⟩ : Blk).u = 0 := pc_z 64
    rw [e1,pc1] at hc
    show ((m.ins ⟨a,k, -1,0,none⟩).upd a (Blk.setU 1)).cells = _
    have hc' : ((m.ins ⟨a,k, -1,0,none⟩).upd a (Blk.setU 1)).cells + 0 = (m.ins ⟨a,k, -1,0,none⟩).cells + 1 := hc
    omega
   ·rcases mem_upd.1 hy with ⟨y', hy', e,rfl⟩ | ⟨hy', e⟩
    ·obtain rfl := I4.same hy' hm e
     exact ⟨by show (-1 : Int) ≠ -2; decide, .inl (by show (1 : Nat) ≠ 0; decide)⟩
    ·rcases mem_insB.1 hy' with rfl | q
     ·exact absurd rfl e
     ·exact D y q
 ·rw [if_neg h64]
  obtain ⟨hc16,hcls⟩ := cls_ok w (by omega) (by omega)
  have hp : p < m.pr := by omega
  obtain ⟨I3,hb3⟩ := pick_inv I hp hc16
  obtain ⟨u3,D3⟩ := pick_use I (p := p) hc16
  have c3 := (pick_cw I hp hc16).1
  have pr3 := pick_pr m p (clsOf w)
  cases hpk : m.pick p (clsOf w) with
  | mk o m3 =>
   rw [hpk] at I3 hb3 u3 D3 c3 pr3
   simp only at I3 hb3 u3 D3 c3 pr3
   cases o with
   | none => exact .inl ⟨by simp,pr3,u3,c3,D3⟩
   | some a =>
    obtain ⟨b,hb,rfl,hbc,hbw,hbf⟩ := hb3 a rfl
    have hg := I3.get hb
    simp only [hg]
    obtain ⟨d,hd1,hd2,hd3,hd4⟩ := I3.cls hb (by omega)
    have ht := tabs d hd1
    have hnf : pc 64 b.u ≠ cellT.getD d 0 := fun e2 => by
     unfold Blk.full at hbf
     rw [hd2,Int.toNat_natCast,decide_eq_true e2] at hbf; cases hbf
    obtain ⟨z1,z2,z3⟩ := lowZ_ok (by omega) hd4 hnf
    have hu2 : b.u ||| 2 ^ lowZ b.u < 2 ^ cellT.getD d 0 := Nat.or_lt_two_pow hd4 (Nat.pow_lt_pow_right (by decide) z1)
    have I5 : CInv (m3.upd b.a (Blk.setU (b.u ||| 2 ^ lowZ b.u))) := I3.setU hb (.inr ⟨d,hd1,hd2,hu2⟩)
    obtain ⟨k1,k2⟩ := key m3 I3 b (lowZ b.u) _ hb u3 z2 (bits_set z2) I5
    have hc5 := cells_upd I3 hb (b.u ||| 2 ^ lowZ b.u)
    rw [pc_set 64 _ _ (by omega) z2] at hc5
    have hdw : d = clsOf w := by omega
    have hsz : w ≤ b.ws := by
     have h1 : b.ws = sizeT.getD d 0 := by unfold Blk.ws; rw [if_neg (by omega), hd2,Int.toNat_natCast]
     rw [h1,hdw]
     have := hcls (clsOf w) hc16
     omega
    refine .inr ⟨trivial,pr3,b.a * 64 + lowZ b.u * b.ws,b.ws,rfl,by omega,k1,k2,by omega,fun D y hy => ?_⟩
    rcases mem_upd.1 hy with ⟨y', hy', e,rfl⟩ | ⟨hy', e⟩
    ·obtain rfl := I3.same hy' hb e
     exact ⟨(D3 D y' hb).1, .inr (by show y'.w ≠ none; rw [hbw]; simp)⟩
    ·exact D3 D y hy'
theorem free_use (I : CInv m) {x s : Nat} (h : InUse m x s) : (m.free x).1 = 0 ∧ (m.free x).2.pr = m.pr ∧ (∀ y t,InUse (m.free x).2 y t ↔ InUse m y t ∧ y ≠ x) ∧ (m.free x).2.cells + 1 = m.cells ∧ (DInv m → DInv (m.free x).2) := by
 obtain ⟨b,hb,k,h1,h2,h3⟩ := h
 have hcell := use_cell I hb h1
 rw [← h2] at hcell
 have hbit := I.bit hb h1
 have hu := I.u64 hb
 have hk64 : k < 64 := by
  rcases Nat.lt_or_ge k 64 with q | q
  ·exact q
  ·rw [Nat.testBit_lt_two_pow (Nat.lt_of_lt_of_le hu (Nat.pow_le_pow_right (n := 2) (by decide) q : 2 ^ 64 ≤ 2 ^ k))] at h1; cases h1
 have I' : CInv (m.upd b.a (Blk.setU (clr b.u k))) := I.setU hb (by
  rcases I.B b hb with ⟨e,_⟩ | ⟨e,e2,_⟩ | ⟨c,e1,e2,_,e3⟩
  ·exact absurd e hbit.1
  ·exact .inl ⟨e,Nat.le_trans (clr_le _ _) e2⟩
  ·exact .inr ⟨c,e1,e2,Nat.lt_of_le_of_lt (clr_le _ _) e3⟩)
 have hm : Blk.setU (clr b.u k) b ∈ (m.upd b.a (Blk.setU (clr b.u k))).bl := mem_upd.2 (.inl ⟨b,hb,rfl,rfl⟩)
 have hfr : m.free x = (0, (m.upd b.a (Blk.setU (clr b.u k))).drop (Blk.setU (clr b.u k) b)) := by
  unfold Cm.free; rw [hcell]; simp only; rw [if_pos (by omega)]
 rw [hfr]
 have hc := cells_upd I hb (clr b.u k)
 have := pc_clr hu hk64 h1
 have hd := drop_cw I' hm
 refine ⟨rfl, ?_,fun y t => ?_,by show ((m.upd b.a (Blk.setU (clr b.u k))).drop (Blk.setU (clr b.u k) b)).cells + 1 = _; omega,fun D => ?_⟩
 ·show ((m.upd b.a (Blk.setU (clr b.u k))).drop (Blk.setU (clr b.u k) b)).pr = _
  unfold Cm.drop; split <;> rfl
 ·show InUse ((m.upd b.a (Blk.setU (clr b.u k))).drop (Blk.setU (clr b.u k) b)) y t ↔ _
  rw [use_drop I' hm, (use_bits I hb (bits_clr hu hk64 h1) y t).2 h1, ← h2]
 ·show DInv ((m.upd b.a (Blk.setU (clr b.u k))).drop (Blk.setU (clr b.u k) b))
  unfold Cm.drop
  have base : ∀ y,y ∈ (m.upd b.a (Blk.setU (clr b.u k))).bl → y.a ≠ b.a → y.c ≠ -2 ∧ (y.u ≠ 0 ∨ y.w ≠ none) := fun y hy e => by
   rcases mem_upd.1 hy with ⟨y', hy', e', rfl⟩ | ⟨hy', _⟩
   ·exact absurd e' e
   ·exact D y hy'
  split
  ·intro y hy
   obtain ⟨q1,q2⟩ := List.mem_filter.1 hy
   exact base y q1 (by simp only [bne_iff_ne,ne_eq] at q2; exact fun e2 => q2 e2)
  ·rename_i hn
   intro y hy
   by_cases e : y.a = b.a
   ·have : y = Blk.setU (clr b.u k) b := I'.same hy hm e
    rw [this]
    refine ⟨hbit.1, ?_⟩
    by_cases e0 : (Blk.setU (clr b.u k) b).u = 0
    ·exact .inr fun ew => hn ⟨e0,ew⟩
    ·exact .inl e0
   ·exact base y hy e
theorem free_none {x : Nat} (I : CInv m) (h : ∀ s, ¬ InUse m x s) : m.free x = (4,m) := by
 unfold Cm.free
 cases hc : m.cell x with
 | none => rfl
 | some p =>
  obtain ⟨b,k⟩ := p
  simp only
  unfold Cm.cell at hc
  cases hf : m.find x with
  | none => rw [hf] at hc; cases hc
  | some q =>
   obtain ⟨b', k'⟩ := q
   rw [hf] at hc
   simp only at hc
   split at hc
   ·rename_i ht
    cases hc
    obtain ⟨hb,_⟩ := find_some hf
    rw [if_neg (fun e => h b.ws ⟨b,hb,k,ht,by omega,rfl⟩)]
   ·cases hc
end Go.Proofs.YthillgheddpmhaaDoor.Pg
namespace Go.Proofs.YthillgheddpmhaaDoor.Pg
open Go Go.AM Go.Proofs.YthillgheddpmhaaDoor.AmGE
attribute [local irreducible] AM.wp AM.wpIs AM.wpTr AM.opI AM.gI AM.cI AM.trI AM.callI AM.fnI AM.yldI AM.rangeI AM.rangeC AM.YldP AM.asgQ AM.roundQ AM.rangeQ AM.trG AM.trOp AM.trCall AM.seqC AM.loopI
set_option maxRecDepth 100000
set_option linter.unusedVariables false
set_option linter.unusedSimpArgs false
attribute [local irreducible] pc
variable {m : Cm}
theorem pick2_n (m : Cm) (p c : Nat) : (m.pick2 p c).2.n = m.n := by
 unfold Cm.pick2
 cases m.spare c with
 | some b => rfl
 | none => simp only; cases m.fit (pageT.getD c 0) <;> rfl
theorem pick_n (m : Cm) (p c : Nat) : (m.pick p c).2.n = m.n := by
 unfold Cm.pick
 cases m.held p c with
 | none => exact pick2_n m p c
 | some b =>
  simp only
  split
  ·exact pick2_n _ p c
  ·rfl
theorem alloc_n (m : Cm) (p w : Int) : (m.alloc p w).2.n = m.n := by
 unfold Cm.alloc
 split
 ·rfl
 ·split
  ·rfl
  ·split
   ·split <;> rfl
   ·have h := pick_n m p.toNat (clsOf w.toNat)
    cases e : m.pick p.toNat (clsOf w.toNat) with
    | mk o m' =>
     rw [e] at h
     cases o with
     | none => exact h
     | some a => simp only; split <;> exact h
theorem drop_n (m : Cm) (b : Blk) : (m.drop b).n = m.n := by unfold Cm.drop; split <;> rfl
theorem free_n (m : Cm) (x : Int) : (m.free x).2.n = m.n := by
 unfold Cm.free
 split
 ·rfl
 ·split
  ·exact drop_n _ _
  ·rfl
theorem CellQ.inv {h : AHeap} {g : CG} {m : Cm} (Q : CellQ h g m) : CInv m := by obtain ⟨ws,lv,bs,R⟩ := Q; exact R.I
theorem CellQ.bds {h : AHeap} {g : CG} {m : Cm} (Q : CellQ h g m) : m.cells ≤ 262144 := by obtain ⟨ws,lv,bs,R⟩ := Q; exact R.bds.1
theorem CellQ.kn {h : AHeap} {g : CG} {m : Cm} (Q : CellQ h g m) {j : Nat} (hj : h.n ≤ j) : g.K j = 0 := by
 obtain ⟨ws,lv,bs,R⟩ := Q
 cases e : g.K j with
 | zero => rfl
 | succ x => have := R.lt (j := j) (by omega); omega
/-- A law's room beside the law's own lists. -/
structure LawQ (h h' : AHeap) (g : CG) (m : Cm) : Prop where
 f : HFrame h h' [] []
 q : CellQ h' g m
 k : ∀ j,j < h.n → g.K j = 0
theorem LawQ.cl {h h1 h' : AHeap} {g g' : CG} {m m' : Cm} (L : LawQ h h1 g m) (F : CFr h1 h' g g') (Q : CellQ h' g' m') : LawQ h h' g' m' :=
 ⟨⟨Nat.le_trans L.f.n F.n,F.G.trans L.f.g,fun j hj _ => (F.get j (Nat.lt_of_lt_of_le hj L.f.n) (L.k j hj)).trans (L.f.get j hj (by simp)), fun j hj => by simp at hj,fun j hj => by simp at hj⟩, Q,fun j hj => (F.K j (Nat.lt_of_lt_of_le hj L.f.n)).trans (L.k j hj)⟩
theorem LawQ.own {h h1 h' : AHeap} {g : CG} {m : Cm} (L : LawQ h h1 g m) {A A' : List Nat} (F : HFrame h1 h' A A') (d : ∀ j,j ∈ A → g.K j = 0 ∧ h.n ≤ j) : LawQ h h' g m :=
 ⟨⟨Nat.le_trans L.f.n F.n,F.g.trans L.f.g,fun j hj _ => (F.get j (Nat.lt_of_lt_of_le hj L.f.n) (fun hm => by have := (d j hm).2; omega)).trans (L.f.get j hj (by simp)), fun j hj => by simp at hj,fun j hj => by simp at hj⟩, L.q.keepD F fun j hk hm => hk (d j hm).1,L.k⟩
theorem LawQ.tabR {h h' : AHeap} {g : CG} {m : Cm} (L : LawQ h h' g m) (T : TabR h) : TabR h' := T.frame L.f (by simp)
/-- The law's own list,beside a room's call. -/
theorem SlOf.cfr {α : Type} {enc : α → List AVal} {esz : Nat} {h h' : AHeap} {g g' : CG} {v : AVal} {l : List α} {G : List Nat} (s : SlOf h esz enc v l G) (F : CFr h h' g g') (d : ∀ j,j ∈ G → g.K j = 0) : SlOf h' esz enc v l G ∧ ∀ j,j ∈ G → g'.K j = 0 :=
 ⟨s.frame F.n fun j hj => F.get j (s.lt j hj) (d j hj), fun j hj => (F.K j (s.lt j hj)).trans (d j hj)⟩
end Go.Proofs.YthillgheddpmhaaDoor.Pg
namespace Go.Proofs.YthillgheddpmhaaDoor.Pg
open Go Go.AM Go.Proofs.YthillgheddpmhaaDoor.AmGE
attribute [local irreducible] AM.wp AM.wpIs AM.wpTr AM.opI AM.gI AM.cI AM.trI AM.callI AM.fnI AM.yldI AM.rangeI AM.rangeC AM.YldP AM.asgQ AM.roundQ AM.rangeQ AM.trG AM.trOp AM.trCall AM.seqC AM.loopI
attribute [local irreducible] pc
set_option maxRecDepth 100000
set_option linter.unusedVariables false
set_option linter.unusedSimpArgs false
def encI (x : Nat) : List AVal := [.int .i64 (x : Int)]
end Go.Proofs.YthillgheddpmhaaDoor.Pg
namespace Go.Proofs.YthillgheddpmhaaDoor.Pg
open Go Go.AM Go.Proofs.YthillgheddpmhaaDoor.AmGE
attribute [local irreducible] AM.wp AM.wpIs AM.wpTr AM.opI AM.gI AM.cI AM.trI AM.callI AM.fnI AM.yldI AM.rangeI AM.rangeC AM.YldP AM.asgQ AM.roundQ AM.rangeQ AM.trG AM.trOp AM.trCall AM.seqC AM.loopI
attribute [local irreducible] pc
set_option maxRecDepth 100000
set_option linter.unusedVariables false
set_option linter.unusedSimpArgs false
variable {m : Cm}
theorem use_enc (I : CInv m) {x s : Nat} (h : InUse m x s) : encC (m.cell x) = .tup [.int .i64 (x : Int), .int .i64 (s : Int), .bool true] := by
 obtain ⟨b,hb,k,h1,rfl,rfl⟩ := h
 rw [use_cell I hb h1]; rfl
theorem SlOf.upd1 {α : Type} {enc : α → AVal} {h : AHeap} {v : AVal} {l : List α} {G : List Nat} (s : SlOf h 1 (fun a => [enc a]) v l G) {j : Nat} (hj : j < l.length) :
  ∃ id g off vs,v = .sl id g off l.length 1 ∧ h.get id = .cells g false vs ∧ id < h.n ∧ off + j + 1 ≤ vs.length ∧ G = [id] ∧ vs[off + j]? = some (enc (l[j]'hj)) ∧ ixV h 1 v (.int .i64 (j : Int)) = some (.ptr id g (off + j), h) ∧
   ∀ a,SlOf (h.set id (.cells g false (vs.take (off + j) ++ [enc a] ++ vs.drop (off + j + 1)))) 1 (fun a => [enc a]) v (l.set j a) G := by
 rcases s with ⟨_,e,_⟩ | ⟨id,g,off,vs,e1,e2,e3,e4,e5,e6⟩
 ·subst e; simp at hj
 ·have hm : ∀ l : List α,l.flatMap (fun a => [enc a]) = l.map enc := fun l => by
   induction l with
   | nil => rfl
   | cons x l ih => rw [List.flatMap_cons,ih]; rfl
  have hx : vs[off + j]? = some (enc (l[j]'hj)) := by
   have : (vs.drop off)[j]? = some (enc (l[j]'hj)) := by rw [e5,hm,List.getElem?_map,List.getElem?_eq_getElem hj]; rfl
   rwa [List.getElem?_drop] at this
  refine ⟨id,g,off,vs,e1,e2,e3,by omega,e6,hx, ?_,fun a => .inr ⟨id,g,off,_,by rw [List.length_set]; exact e1,AHeap.get_set_same _ _ _,e3, ?_, ?_,e6⟩⟩
  ·rw [e1]
   have := AM.ix_sl (h := h) (k := .i64) (n := (j : Int)) (len := l.length) (esz := 1) (off := off) e2 (by omega) (by omega)
   simpa using this
  ·rw [List.length_set]; simp only [List.length_append,List.length_take,List.length_drop,List.length_cons,List.length_nil]; omega
  ·have e7 : vs.take (off + j) ++ [enc a] ++ vs.drop (off + j + 1) = vs.set (off + j) (enc a) := by
    rw [List.set_eq_take_append_cons_drop,if_pos (by omega), List.append_assoc]; rfl
   rw [e7,List.drop_set,if_neg (by omega), e5,hm,hm,Nat.add_sub_cancel_left,List.map_set]
/-- One word of the owners. -/
theorem ow_set {ow : List Nat} {q v : Nat} (h : q < ow.length) : (owV ow).take q ++ [.int .i64 (v : Int)] ++ (owV ow).drop (q + 1) = owV (ow.set q v) := by
 have : owV (ow.set q v) = (owV ow).set q (.int .i64 (v : Int)) := by unfold owV; rw [List.map_set]
 rw [this,List.set_eq_take_append_cons_drop,if_pos (by unfold owV; rw [List.length_map]; exact h), List.append_assoc]; rfl
theorem ow_len (ow : List Nat) : (owV ow).length = ow.length := by unfold owV; rw [List.length_map]
def Owned (ow : List Nat) (m : Cm) : Prop := ∀ q v,ow[q]? = some v → v ≠ 0 → ∃ x s,InUse m x s ∧ x ≤ q ∧ q < x + s
/-- What the law keeps of cells: their places (-1: freed), their words. -/
structure Kept (m : Cm) (l : List Int) (wl : List Nat) : Prop where
 len : l.length = wl.length
 use : ∀ (j : Nat) (x : Int), l[j]? = some x → x = -1 ∨ ∃ y s : Nat,x = (y : Int) ∧ wl[j]? = some s ∧ InUse m y s
 ne : ∀ (i j : Nat) (x : Int), l[i]? = some x → l[j]? = some x → x = -1 ∨ i = j
theorem alloc_err (m : Cm) {p w : Int} (h1 : 0 ≤ p ∧ p < m.pr) (h2 : 1 ≤ w ∧ w ≤ 1024) : (m.alloc p w).1.2 = 0 ∨ (m.alloc p w).1.2 = 3 := by
 unfold Cm.alloc
 rw [if_neg (by omega), if_neg (by omega)]
 split
 ·split
  ·exact .inr rfl
  ·exact .inl rfl
 ·split
  ·exact .inr rfl
  ·split
   ·exact .inl rfl
   ·exact .inl rfl
theorem Kept.mono {m m' : Cm} {l : List Int} {wl : List Nat} (K : Kept m l wl) (h : ∀ x s,InUse m x s → InUse m' x s) : Kept m' l wl := ⟨K.len,fun j x hx => by
 rcases K.use j x hx with e | ⟨y,s,e1,e2,e3⟩
 ·exact .inl e
 ·exact .inr ⟨y,s,e1,e2,h y s e3⟩, K.ne⟩
def encZ (x : Int) : List AVal := [.int .i64 x]
set_option maxHeartbeats 32000000 in
theorem lawCellApart {h : AHeap} (T : TabR h) {v0 v1 : AVal} {zs os : List Int} (s0 : SlIn h 1 (fun x : Int => [.int .u16 x]) v0 zs) (hzs : ∀ x,x ∈ zs → 0 ≤ x ∧ x ≤ 65535) (hl0 : zs.length ≤ 68719476736)
  (s1 : SlIn h 1 (fun x : Int => [.int .u8 x]) v1 os) (hos : ∀ x,x ∈ os → 0 ≤ x ∧ x ≤ 255) (hl1 : os.length ≤ 9223372036854775807) :
  CallP AP 10 [v0,v1] h fun r h' => HFrame h h' [] [] ∧ r = .bool true := by
 refine callP (rfl : Tr.get AP 10 = some A10) ?_
 generalize hQ : (fun (r : AVal) (h' : AHeap) => _) = Q
 simp -implicitDefEqProofs (disch := first|decide|assumption|omega|(simp -implicitDefEqProofs only [AM.RN];first|done|omega)|fail) only [↓AM.R0,AM.R1,AM.R2,Nat.reduceAdd,Nat.reduceLeDiff,Nat.reduceEqDiff,Int.reduceToNat,Nat.reduceLT,↓reduceIte,Int.reduceEq,Int.reduceLT,Int.reduceLE]
 refine AM.callI_of (newC T 256 3) ?_
 rintro r h1 (⟨c,_⟩ | ⟨_,_,_,_,g,f1,k1,Q1,rfl⟩)
 ·exact absurd ⟨by decide,by decide,by decide,by decide⟩ c
 have e1 : (Cm.zero (256 : Int).toNat (3 : Int).toNat) = Cm.zero 256 3 := rfl
 rw [e1] at Q1
 have L1 : LawQ h h1 g (Cm.zero 256 3) := ⟨f1,Q1,fun j hj => by
  cases e : g.K j with
  | zero => rfl
  | succ x => have := k1 j (by omega); omega⟩
 have T1 := L1.tabR T
 simp -implicitDefEqProofs (disch := first|decide|assumption|omega|(simp -implicitDefEqProofs only [AM.RN];first|done|omega)|fail) only [↓AM.R0,AM.R1,AM.R2,Nat.reduceAdd,Nat.reduceLeDiff,Nat.reduceEqDiff,Int.reduceToNat,Nat.reduceLT,↓reduceIte,Int.reduceEq,Int.reduceLT,Int.reduceLE]
 refine AM.callI_of (awakeC T1) ?_
 rintro r h2 ⟨f2,rfl⟩
 have L2 := L1.own f2 (by simp)
 clear L1 Q1 T1 f1 k1 e1
 generalize hc : g.c = c
 have ms := msI (h := h2) (k := 16384) (by decide)
 have em : ((16384 : Nat) : Int) = 16384 := rfl
 rw [em] at ms
 have fo := (HFrame.refl (h := h2) (F := []) (by simp)).pushTmp (.cells 0 false (owV (List.replicate 16384 0)))
 have go : (h2.push (.cells 0 false (owV (List.replicate 16384 0)))).get h2.n = .cells 0 false (owV (List.replicate 16384 0)) := AHeap.get_push_same _ _
 have no : (h2.push (.cells 0 false (owV (List.replicate 16384 0)))).n = h2.n + 1 := by simp
 have L3 := L2.own fo (by simp)
 have ko := L2.q.kn (j := h2.n) (Nat.le_refl _)
 have ho := L2.f.n
 simp -implicitDefEqProofs (disch := first|decide|assumption|omega|(simp -implicitDefEqProofs only [AM.RN];first|done|omega)|fail) only [↓AM.R0,AM.R1,AM.R2,Nat.reduceAdd,Nat.reduceLeDiff,Nat.reduceEqDiff,Int.reduceToNat,Nat.reduceLT,↓reduceIte,Int.reduceEq,Int.reduceLT,Int.reduceLE,s0.len,ms]
 generalize h2.n = oid at *
 generalize (h2.push (.cells 0 false (owV (List.replicate 16384 0)))) = h3 at *
 refine AM.loopI_of (fun k e h' => ∃ (i : Nat) (m : Cm) (g : CG) (l : List Int) (wl : List Nat) (sv sw : AVal) (G H ow : List Nat), k + i = zs.length ∧ e.val 1 = v1 ∧ e.val 5 = .ptr c 0 0 ∧ e.val 7 = .sl oid 0 0 16384 1 ∧ e.val 8 = sv ∧ e.val 9 = sw ∧ e.val 36 = v0 ∧ e.val 37 = .int .i64 (zs.length : Int) ∧ e.val 38 = .int .i64 (i : Int) ∧
  g.c = c ∧ LawQ h h' g m ∧ m.n = 256 ∧ m.pr = 3 ∧ oid < h'.n ∧ g.K oid = 0 ∧ h'.get oid = .cells 0 false (owV ow) ∧ ow.length = 16384 ∧ Owned ow m ∧
  SlOf h' 1 encZ sv l G ∧ (∀ j,j ∈ G → g.K j = 0 ∧ h.n ≤ j) ∧ SlOf h' 1 encI sw wl H ∧ (∀ j,j ∈ H → g.K j = 0 ∧ h.n ≤ j) ∧ (∀ j,j ∈ G → j ∉ H) ∧ oid ∉ G ∧ oid ∉ H ∧ Kept m l wl ∧ l.length ≤ i) zs.length ?_ ?_
 ·refine ⟨0,Cm.zero 256 3,g, [], [], .nils, .nils, [], [],List.replicate 16384 0,by omega, ?_, ?_, ?_, ?_, ?_, ?_, ?_, ?_,hc,L3,rfl,rfl,by omega,ko,go,List.length_replicate .., ?_,SlOf.nil,by simp,SlOf.nil,by simp,by simp,by simp,by simp, ⟨rfl,by simp,by simp⟩, Nat.le_refl _⟩
  ·simp -implicitDefEqProofs (disch := first|decide|assumption|omega|(simp -implicitDefEqProofs only [AM.RN];first|done|omega)|fail) only [↓AM.R0,AM.R1,AM.R2,Nat.reduceAdd,Nat.reduceLeDiff,Nat.reduceEqDiff,Int.reduceToNat,Nat.reduceLT,↓reduceIte,Int.reduceEq,Int.reduceLT,Int.reduceLE]
  ·simp -implicitDefEqProofs (disch := first|decide|assumption|omega|(simp -implicitDefEqProofs only [AM.RN];first|done|omega)|fail) only [↓AM.R0,AM.R1,AM.R2,Nat.reduceAdd,Nat.reduceLeDiff,Nat.reduceEqDiff,Int.reduceToNat,Nat.reduceLT,↓reduceIte,Int.reduceEq,Int.reduceLT,Int.reduceLE]
  ·simp -implicitDefEqProofs (disch := first|decide|assumption|omega|(simp -implicitDefEqProofs only [AM.RN];first|done|omega)|fail) only [↓AM.R0,AM.R1,AM.R2,Nat.reduceAdd,Nat.reduceLeDiff,Nat.reduceEqDiff,Int.reduceToNat,Nat.reduceLT,↓reduceIte,Int.reduceEq,Int.reduceLT,Int.reduceLE]
  ·simp -implicitDefEqProofs (disch := first|decide|assumption|omega|(simp -implicitDefEqProofs only [AM.RN];first|done|omega)|fail) only [↓AM.R0,AM.R1,AM.R2,Nat.reduceAdd,Nat.reduceLeDiff,Nat.reduceEqDiff,Int.reduceToNat,Nat.reduceLT,↓reduceIte,Int.reduceEq,Int.reduceLT,Int.reduceLE]
  ·simp -implicitDefEqProofs (disch := first|decide|assumption|omega|(simp -implicitDefEqProofs only [AM.RN];first|done|omega)|fail) only [↓AM.R0,AM.R1,AM.R2,Nat.reduceAdd,Nat.reduceLeDiff,Nat.reduceEqDiff,Int.reduceToNat,Nat.reduceLT,↓reduceIte,Int.reduceEq,Int.reduceLT,Int.reduceLE]
  ·simp -implicitDefEqProofs (disch := first|decide|assumption|omega|(simp -implicitDefEqProofs only [AM.RN];first|done|omega)|fail) only [↓AM.R0,AM.R1,AM.R2,Nat.reduceAdd,Nat.reduceLeDiff,Nat.reduceEqDiff,Int.reduceToNat,Nat.reduceLT,↓reduceIte,Int.reduceEq,Int.reduceLT,Int.reduceLE]
  ·simp -implicitDefEqProofs (disch := first|decide|assumption|omega|(simp -implicitDefEqProofs only [AM.RN];first|done|omega)|fail) only [↓AM.R0,AM.R1,AM.R2,Nat.reduceAdd,Nat.reduceLeDiff,Nat.reduceEqDiff,Int.reduceToNat,Nat.reduceLT,↓reduceIte,Int.reduceEq,Int.reduceLT,Int.reduceLE]
  ·simp -implicitDefEqProofs (disch := first|decide|assumption|omega|(simp -implicitDefEqProofs only [AM.RN];first|done|omega)|fail) only [↓AM.R0,AM.R1,AM.R2,Nat.reduceAdd,Nat.reduceLeDiff,Nat.reduceEqDiff,Int.reduceToNat,Nat.reduceLT,↓reduceIte,Int.reduceEq,Int.reduceLT,Int.reduceLE]; rfl
  ·intro q v hq hv
   rw [List.getElem?_replicate] at hq
   split at hq
   ·cases hq; exact absurd rfl hv
   ·cases hq
 clear L2 L3 f2 hc fo go no ko ms em
 clear g
 rintro k e h3 ⟨i,m,g,l,wl,sv,sw,G,H,ow,hk,y1,y5,y7,y8,y9,y36,y37,y38,hc,L3,hmn,hmp,lo,ko,go,hol,hOw,so3,dG,sw3,dH,dGH,oG,oH,hK,hli⟩
 have T3 := L3.tabR T
 have I := (L3.q).inv
 simp -implicitDefEqProofs (disch := first|decide|assumption|omega|(simp -implicitDefEqProofs only [AM.RN];first|done|omega)|fail) only [↓AM.R0,AM.R1,AM.R2,Nat.reduceAdd,Nat.reduceLeDiff,Nat.reduceEqDiff,Int.reduceToNat,Nat.reduceLT,↓reduceIte,Int.reduceEq,Int.reduceLT,Int.reduceLE,y37,y38]
 refine AM.cI_bool (fun hb => ?_) (fun hb => ?_)
 rotate_left
 ·simp -implicitDefEqProofs (disch := first|decide|assumption|omega|(simp -implicitDefEqProofs only [AM.RN];first|done|omega)|fail) only [↓AM.R0,AM.R1,AM.R2,Nat.reduceAdd,Nat.reduceLeDiff,Nat.reduceEqDiff,Int.reduceToNat,Nat.reduceLT,↓reduceIte,Int.reduceEq,Int.reduceLT,Int.reduceLE]
  subst hQ
  exact ⟨L3.f,rfl⟩
 simp only [decide_eq_true_eq] at hb
 obtain ⟨x,hx⟩ : ∃ x,zs[i]? = some x := ⟨_,List.getElem?_eq_getElem (by omega)⟩
 obtain ⟨hx0,hx1⟩ := hzs x (List.mem_of_getElem? hx)
 obtain ⟨x,rfl⟩ : ∃ a : Nat,x = a := ⟨x.toNat,by omega⟩
 have s3 := s0.keep L3.f
 obtain ⟨id,g', off,vs,ro,x1,x2,x3,x4⟩ := (s3.rd hx).ix1 hx .i64
 have w2 : (x : Int).tmod 300 = ((x % 300 : Nat) : Int) := rfl
 have w3 : IntKind.i64.wrap ((x % 300 : Nat) : Int) = ((x % 300 : Nat) : Int) := wrap64 (by omega) (by omega)
 have w4 : IntKind.i64.wrap (((x % 300 : Nat) : Int) + 1) = ((x % 300 + 1 : Nat) : Int) := (wrap64 (by omega) (by omega)).trans (by omega)
 have w5 : (x : Int).tmod 7 = ((x % 7 : Nat) : Int) := rfl
 have w6 : (x : Int).tmod 1024 = ((x % 1024 : Nat) : Int) := rfl
 have w7 : IntKind.i64.wrap ((x % 1024 : Nat) : Int) = ((x % 1024 : Nat) : Int) := wrap64 (by omega) (by omega)
 have w8 : IntKind.i64.wrap (((x % 1024 : Nat) : Int) + 1) = ((x % 1024 + 1 : Nat) : Int) := (wrap64 (by omega) (by omega)).trans (by omega)
 have w9 : IntKind.i64.wrap ((i : Int) + 1) = ((i + 1 : Nat) : Int) := (wrap64 (by omega) (by omega)).trans (by omega)
 have wa : (i : Int).tmod 3 = ((i % 3 : Nat) : Int) := rfl
 simp -implicitDefEqProofs (disch := first|decide|assumption|omega|(simp -implicitDefEqProofs only [AM.RN];first|done|omega)|fail) only [↓AM.R0,AM.R1,AM.R2,Nat.reduceAdd,Nat.reduceLeDiff,Nat.reduceEqDiff,Int.reduceToNat,Nat.reduceLT,↓reduceIte,Int.reduceEq,Int.reduceLT,Int.reduceLE,y1,y5,y7,y8,y9,y36,y37,y38,x1,x2,x4,w2,w3,w4,w5]
 refine AM.cI_cut (fun e' h' => h' = h3 ∧ ∃ w : Nat,1 ≤ w ∧ w ≤ 1024 ∧ e'.val 1 = v1 ∧ e'.val 5 = .ptr c 0 0 ∧ e'.val 7 = .sl oid 0 0 16384 1 ∧ e'.val 8 = sv ∧ e'.val 9 = sw ∧ e'.val 10 = .int .i64 (i : Int) ∧ e'.val 12 = .int .i64 (w : Int) ∧ e'.val 36 = v0 ∧ e'.val 37 = .int .i64 (zs.length : Int) ∧ e'.val 38 = .int .i64 (i : Int)) ?_ ?_
 rotate_left
 ·refine AM.cI_bool (fun hd => ?_) (fun hd => ?_)
  ·simp -implicitDefEqProofs (disch := first|decide|assumption|omega|(simp -implicitDefEqProofs only [AM.RN];first|done|omega)|fail) only [↓AM.R0,AM.R1,AM.R2,Nat.reduceAdd,Nat.reduceLeDiff,Nat.reduceEqDiff,Int.reduceToNat,Nat.reduceLT,↓reduceIte,Int.reduceEq,Int.reduceLT,Int.reduceLE,y1,y5,y7,y8,y9,y36,y37,y38,w6,w7,w8]
   exact ⟨x % 1024 + 1,by omega,by omega,rfl⟩
  ·simp -implicitDefEqProofs (disch := first|decide|assumption|omega|(simp -implicitDefEqProofs only [AM.RN];first|done|omega)|fail) only [↓AM.R0,AM.R1,AM.R2,Nat.reduceAdd,Nat.reduceLeDiff,Nat.reduceEqDiff,Int.reduceToNat,Nat.reduceLT,↓reduceIte,Int.reduceEq,Int.reduceLT,Int.reduceLE,y1,y5,y7,y8,y9,y36,y37,y38]
   exact ⟨x % 300 + 1,by omega,by omega,rfl⟩
 clear y1 y5 y7 y8 y9 y36 y37 y38 x1 x2 x3 x4
 rintro e h' ⟨hh,w,hw1,hw2,y1,y5,y7,y8,y9,y10,y12,y36,y37,y38⟩
 rw [hh]
 clear hh
 simp -implicitDefEqProofs (disch := first|decide|assumption|omega|(simp -implicitDefEqProofs only [AM.RN];first|done|omega)|fail) only [↓AM.R0,AM.R1,AM.R2,Nat.reduceAdd,Nat.reduceLeDiff,Nat.reduceEqDiff,Int.reduceToNat,Nat.reduceLT,↓reduceIte,Int.reduceEq,Int.reduceLT,Int.reduceLE,y5,y10,y12,wa]
 rw [← hc]
 refine AM.callI_of (allocC T3 L3.q _ _) ?_
 rintro r h4 ⟨g4,F4,Q4,rfl⟩
 have L4 := L3.cl F4 Q4
 obtain ⟨so4,dG4⟩ := SlOf.cfr so3 F4 fun j hj => (dG j hj).1
 obtain ⟨sw4,dH4⟩ := SlOf.cfr sw3 F4 fun j hj => (dH j hj).1
 have lo4 := Nat.lt_of_lt_of_le lo F4.n
 have ko4 := (F4.K oid lo).trans ko
 have go4 := (F4.get oid lo ko).trans go
 have hn4 := alloc_n m ((i % 3 : Nat) : Int) (w : Int)
 have hsp := alloc_use I ((i % 3 : Nat) : Int) (w : Int)
 have h3err := alloc_err m (p := ((i % 3 : Nat) : Int)) (w := (w : Int)) ⟨by omega,by omega⟩ ⟨by omega,by omega⟩
 generalize m.alloc ((i % 3 : Nat) : Int) (w : Int) = al at *
 obtain ⟨⟨ra,re⟩, m4⟩ := al
 simp only at hsp hn4 Q4 L4 h3err
 rcases hsp with ⟨he,hpr,hu,hcs,hD⟩ | ⟨he,hpr,a,s,ha,hs,hu,hno,hcs,hD⟩
 ·have hre : re = 3 := by omega
  subst hre
  simp -implicitDefEqProofs (disch := first|decide|assumption|omega|(simp -implicitDefEqProofs only [AM.RN];first|done|omega)|fail) only [↓AM.R0,AM.R1,AM.R2,Nat.reduceAdd,Nat.reduceLeDiff,Nat.reduceEqDiff,Int.reduceToNat,Nat.reduceLT,↓reduceIte,Int.reduceEq,Int.reduceLT,Int.reduceLE,res2,y1,y5,y7,y8,y9,y36,y37,y38,w9]
  exact ⟨k - 1,by omega,i + 1,m4,g4,l,wl,sv,sw,G,H,ow,by omega,by rw [hc],rfl,rfl,rfl,F4.c,L4,hn4.trans hmn,hpr.trans hmp,lo4,ko4,go4,hol,fun q v hq hv => by
   obtain ⟨y,t,z1,z2⟩ := hOw q v hq hv
   exact ⟨y,t, (hu y t).2 z1,z2⟩, so4,fun j hj => ⟨dG4 j hj, (dG j hj).2⟩, sw4,fun j hj => ⟨dH4 j hj, (dH j hj).2⟩, dGH,oG,oH,hK.mono fun y t => (hu y t).2,by omega⟩
 ·subst he
  subst ha
  have I4 := L4.q.inv
  have huse : InUse m4 a s := (hu a s).2 (.inl ⟨rfl,rfl⟩)
  have hbd := use_bd I4 huse
  obtain ⟨wsx,lvx,bsx,R4⟩ := L4.q
  have hK4 : Kept m4 l wl := hK.mono fun y t hy => (hu y t).2 (.inr hy)
  have hn256 : m4.n = 256 := hn4.trans hmn
  have hza : ∀ q,a ≤ q → q < a + s → ow[q]? = some 0 := fun q q1 q2 => by
   have hq : ow[q]? = some (ow[q]'(by omega)) := List.getElem?_eq_getElem (by omega)
   by_cases e : ow[q]'(by omega) = 0
   ·rw [hq,e]
   ·exfalso
    obtain ⟨y,t,z1,z2,z3⟩ := hOw q _ hq e
    have z4 : InUse m4 y t := (hu y t).2 (.inr z1)
    have ne : a ≠ y := by rintro rfl; exact hno t z1
    rcases use_apart I4 huse z4 ne with z | z <;> omega
  have hOw4 : Owned ow m4 := fun q v hq hv => by
   obtain ⟨y,t,z1,z2⟩ := hOw q v hq hv
   exact ⟨y,t, (hu y t).2 (.inr z1), z2⟩
  simp -implicitDefEqProofs (disch := first|decide|assumption|omega|(simp -implicitDefEqProofs only [AM.RN];first|done|omega)|fail) only [↓AM.R0,AM.R1,AM.R2,Nat.reduceAdd,Nat.reduceLeDiff,Nat.reduceEqDiff,Int.reduceToNat,Nat.reduceLT,↓reduceIte,Int.reduceEq,Int.reduceLT,Int.reduceLE,res2,y1,y5,y7,y8,y9,y36,y37,y38,w9]
  rw [← hc, ← F4.c]
  refine AM.callI_of (findC R4 (a : Int) ⟨by omega,by omega⟩) ?_
  rintro r h5 ⟨f5,rfl⟩
  rw [use_enc I4 huse]
  have L5 := L4.own f5 (by simp)
  have so5 := so4.frame f5.n fun j hj => f5.get j (so4.lt j hj) (by simp)
  have sw5 := sw4.frame f5.n fun j hj => f5.get j (sw4.lt j hj) (by simp)
  have lo5 := Nat.lt_of_lt_of_le lo4 f5.n
  have go5 := (f5.get oid lo4 (by simp)).trans go4
  have dd1 : decide ((s : Int) < (w : Int)) = false := decide_eq_false (by omega)
  have dd2 : decide ((a : Int) < 0) = false := decide_eq_false (by omega)
  have w10 : IntKind.i64.wrap ((a : Int) + (s : Int)) = ((a + s : Nat) : Int) := (wrap64 (by omega) (by omega)).trans (by omega)
  have dd3 : decide ((16384 : Int) < ((a + s : Nat) : Int)) = false := decide_eq_false (by omega)
  have em : ((16384 : Nat) : Int) = 16384 := rfl
  have dd4 : decide ((a : Int) = (a : Int)) = true := decide_eq_true rfl
  clear R4 wsx lvx bsx
  rw [← hc, ← F4.c] at y5
  simp -implicitDefEqProofs (disch := first|decide|assumption|omega|(simp -implicitDefEqProofs only [AM.RN];first|done|omega)|fail) only [↓AM.R0,AM.R1,AM.R2,Nat.reduceAdd,Nat.reduceLeDiff,Nat.reduceEqDiff,Int.reduceToNat,Nat.reduceLT,↓reduceIte,Int.reduceEq,Int.reduceLT,Int.reduceLE,y1,y5,y7,y8,y9,y12,y36,y37,y38,dd1,dd2,dd3,dd4,w10,em]
  refine AM.loopI_of (fun k' e h' => ∃ (d : Nat) (ow' : List Nat), k' + d = s ∧ e.val 1 = v1 ∧ e.val 5 = .ptr g4.c 0 0 ∧ e.val 7 = .sl oid 0 0 16384 1 ∧ e.val 8 = sv ∧ e.val 9 = sw ∧ e.val 10 = .int .i64 (i : Int) ∧ e.val 13 = .int .i64 (a : Int) ∧ e.val 16 = .int .i64 (s : Int) ∧ e.val 18 = .int .i64 ((a + d : Nat) : Int) ∧ e.val 36 = v0 ∧ e.val 37 = .int .i64 (zs.length : Int) ∧ e.val 38 = .int .i64 (i : Int) ∧
   HFrame h5 h' [oid] [oid] ∧ h'.get oid = .cells 0 false (owV ow') ∧ ow'.length = 16384 ∧ (∀ q,a + d ≤ q → q < a + s → ow'[q]? = some 0) ∧ (∀ q, ¬ (a ≤ q ∧ q < a + d) → ow'[q]? = ow[q]?)) s ?_ ?_
  ·refine ⟨0,ow,by omega, ?_, ?_, ?_, ?_, ?_, ?_, ?_, ?_, ?_, ?_, ?_, ?_,HFrame.refl (by simpa using lo5), go5,hol,fun q q1 q2 => hza q (by omega) q2,fun q _ => rfl⟩ <;> first | (simp -implicitDefEqProofs (disch := first|decide|assumption|omega|(simp -implicitDefEqProofs only [AM.RN];first|done|omega)|fail) only [↓AM.R0,AM.R1,AM.R2,Nat.reduceAdd,Nat.reduceLeDiff,Nat.reduceEqDiff,Int.reduceToNat,Nat.reduceLT,↓reduceIte,Int.reduceEq,Int.reduceLT,Int.reduceLE,y1,y5,y7,y8,y9,y10,y36,y37,y38]; done) | (simp -implicitDefEqProofs (disch := first|decide|assumption|omega|(simp -implicitDefEqProofs only [AM.RN];first|done|omega)|fail) only [↓AM.R0,AM.R1,AM.R2,Nat.reduceAdd,Nat.reduceLeDiff,Nat.reduceEqDiff,Int.reduceToNat,Nat.reduceLT,↓reduceIte,Int.reduceEq,Int.reduceLT,Int.reduceLE,y1,y5,y7,y8,y9,y10,y36,y37,y38]; rfl)
  clear y1 y5 y7 y8 y9 y10 y12 y36 y37 y38 go5 dd1 dd2 dd3 dd4
  rintro k' e h6 ⟨d,ow', hkd,y1,y5,y7,y8,y9,y10,y13,y16,y18,y36,y37,y38,f6,go6,hol6,hz6,ho6⟩
  have lo6 := Nat.lt_of_lt_of_le lo5 f6.n
  simp -implicitDefEqProofs (disch := first|decide|assumption|omega|(simp -implicitDefEqProofs only [AM.RN];first|done|omega)|fail) only [↓AM.R0,AM.R1,AM.R2,Nat.reduceAdd,Nat.reduceLeDiff,Nat.reduceEqDiff,Int.reduceToNat,Nat.reduceLT,↓reduceIte,Int.reduceEq,Int.reduceLT,Int.reduceLE,y13,y16,y18,w10]
  refine AM.cI_bool (fun hd => ?_) (fun hd => ?_)
  ·have hd : d < s := by simp only [decide_eq_true_eq] at hd; omega
   have xo := ix1 go6 (len := 16384) (i := a + d) (by omega)
   have xv := ow_at (hz6 (a + d) (by omega) (by omega))
   have xl : a + d + 1 ≤ (owV ow').length := by rw [ow_len]; omega
   have d0 : decide (((0 : Nat) : Int) = 0) = true := rfl
   have w11 : IntKind.i64.wrap ((i : Int) + 1) = ((i + 1 : Nat) : Int) := (wrap64 (by omega) (by omega)).trans (by omega)
   have w12 : IntKind.i64.wrap (((a + d : Nat) : Int) + 1) = ((a + (d + 1) : Nat) : Int) := (wrap64 (by omega) (by omega)).trans (by omega)
   have us := ow_set (ow := ow') (q := a + d) (v := i + 1) (by omega)
   simp -implicitDefEqProofs (disch := first|decide|assumption|omega|(simp -implicitDefEqProofs only [AM.RN];first|done|omega)|fail) only [↓AM.R0,AM.R1,AM.R2,Nat.reduceAdd,Nat.reduceLeDiff,Nat.reduceEqDiff,Int.reduceToNat,Nat.reduceLT,↓reduceIte,Int.reduceEq,Int.reduceLT,Int.reduceLE,y1,y5,y7,y8,y9,y10,y13,y16,y18,y36,y37,y38,go6,xo,xv,xl,d0,w11,w12,us]
   refine ⟨k' - 1,by omega,d + 1,ow'.set (a + d) (i + 1), by omega,rfl,f6.trans (HFrame.set h6 oid _ (by simp) f6.lt), rfl,by rw [List.length_set,hol6],fun q q1 q2 => ?_,fun q q1 => ?_⟩
   ·rw [List.getElem?_set_ne (by omega)]; exact hz6 q (by omega) q2
   ·rw [List.getElem?_set_ne (by omega)]; exact ho6 q (by omega)
  ·have hd : d = s := by simp only [decide_eq_false_iff_not] at hd; omega
   subst hd
   have L6 := L5.own f6 fun j hj => by simp at hj; subst hj; exact ⟨ko4,ho⟩
   have so6 := so5.frame f6.n fun j hj => f6.get j (so5.lt j hj) (by simp; rintro rfl; exact oG hj)
   have sw6 := sw5.frame f6.n fun j hj => f6.get j (sw5.lt j hj) (by simp; rintro rfl; exact oH hj)
   have hOw6 : Owned ow' m4 := fun q v hq hv => by
    by_cases z : a ≤ q ∧ q < a + d
    ·exact ⟨a,d,huse,z.1,z.2⟩
    ·rw [ho6 q z] at hq; exact hOw4 q v hq hv
   simp -implicitDefEqProofs (disch := first|decide|assumption|omega|(simp -implicitDefEqProofs only [AM.RN];first|done|omega)|fail) only [↓AM.R0,AM.R1,AM.R2,Nat.reduceAdd,Nat.reduceLeDiff,Nat.reduceEqDiff,Int.reduceToNat,Nat.reduceLT,↓reduceIte,Int.reduceEq,Int.reduceLT,Int.reduceLE,y8,y13]
   refine AM.opI_of (SlOf.app1 so6 (fun _ => rfl) (fun _ => rfl) (by omega) (a : Int) fun sv7 h7 G7 so7 f7 => ?_)
   have sw7 := sw6.frame f7.n fun j hj => f7.get j (sw6.lt j hj) (fun hm => dGH j hm hj)
   have lo6' := lo6
   have go7 := (f7.get oid lo6 oG).trans go6
   have lo7 := Nat.lt_of_lt_of_le lo6 f7.n
   have L7 := L6.own f7 fun j hj => ⟨dG4 j hj, (dG j hj).2⟩
   have dG7 : ∀ j,j ∈ G7 → g4.K j = 0 ∧ h.n ≤ j := fun j hj => by
    rcases f7.new j hj with q | q
    ·exact ⟨dG4 j q, (dG j q).2⟩
    ·have := L6.f.n; exact ⟨L6.q.kn q,by omega⟩
   have dGH7 : ∀ j,j ∈ G7 → j ∉ H := fun j hj hm => by
    rcases f7.new j hj with q | q
    ·exact dGH j q hm
    ·have := sw6.lt j hm; omega
   have oG7 : oid ∉ G7 := fun hm => by
    rcases f7.new _ hm with q | q
    ·exact oG q
    ·omega
   simp -implicitDefEqProofs (disch := first|decide|assumption|omega|(simp -implicitDefEqProofs only [AM.RN];first|done|omega)|fail) only [↓AM.R0,AM.R1,AM.R2,Nat.reduceAdd,Nat.reduceLeDiff,Nat.reduceEqDiff,Int.reduceToNat,Nat.reduceLT,↓reduceIte,Int.reduceEq,Int.reduceLT,Int.reduceLE,y9,y16]
   refine AM.opI_of (SlOf.app1 sw7 (fun _ => rfl) (fun _ => rfl) (by have := hK.len; omega) d fun sw8 h8 H8 sw8' f8 => ?_)
   have so8 := so7.frame f8.n fun j hj => f8.get j (so7.lt j hj) (fun hm => dGH7 j hj hm)
   have go8 := (f8.get oid lo7 oH).trans go7
   have lo8 := Nat.lt_of_lt_of_le lo7 f8.n
   have L8 := L7.own f8 fun j hj => ⟨dH4 j hj, (dH j hj).2⟩
   have dH8 : ∀ j,j ∈ H8 → g4.K j = 0 ∧ h.n ≤ j := fun j hj => by
    rcases f8.new j hj with q | q
    ·exact ⟨dH4 j q, (dH j q).2⟩
    ·have := L7.f.n; exact ⟨L7.q.kn q,by omega⟩
   have dGH8 : ∀ j,j ∈ G7 → j ∉ H8 := fun j hj hm => by
    rcases f8.new j hm with q | q
    ·exact dGH7 j hj q
    ·have := so7.lt j hj; omega
   have oH8 : oid ∉ H8 := fun hm => by
    rcases f8.new _ hm with q | q
    ·exact oH q
    ·omega
   have hK8 : Kept m4 (l ++ [(a : Int)]) (wl ++ [d]) := by
    refine ⟨by rw [List.length_append,List.length_append,hK4.len]; rfl,fun j x hx => ?_,fun j1 j2 x hx1 hx2 => ?_⟩
    ·rcases Nat.lt_or_ge j l.length with q | q
     ·rw [List.getElem?_append_left q] at hx
      rcases hK4.use j x hx with z | ⟨y,t,z1,z2,z3⟩
      ·exact .inl z
      ·exact .inr ⟨y,t,z1,by rw [List.getElem?_append_left (by rw [← hK4.len]; exact q)]; exact z2,z3⟩
     ·rw [List.getElem?_append_right q] at hx
      have hj : j - l.length = 0 := by
       rcases Nat.eq_zero_or_pos (j - l.length) with z | z
       ·exact z
       ·rw [List.getElem?_eq_none (by simp; omega)] at hx; cases hx
      rw [hj] at hx
      simp at hx
      exact .inr ⟨a,d,hx.symm,by rw [List.getElem?_append_right (by rw [← hK4.len]; exact q), ← hK4.len,hj]; rfl,huse⟩
    ·have key : ∀ j x, (l ++ [(a : Int)])[j]? = some x → (j < l.length ∧ l[j]? = some x) ∨ (j = l.length ∧ x = (a : Int)) := fun j x hx => by
      rcases Nat.lt_or_ge j l.length with q | q
      ·rw [List.getElem?_append_left q] at hx; exact .inl ⟨q,hx⟩
      ·rw [List.getElem?_append_right q] at hx
       rcases Nat.eq_zero_or_pos (j - l.length) with z | z
       ·rw [z] at hx; simp at hx; exact .inr ⟨by omega,hx.symm⟩
       ·rw [List.getElem?_eq_none (by simp; omega)] at hx; cases hx
     have old : ∀ j x,l[j]? = some x → x = (a : Int) → False := fun j x hx e => by
      rcases hK.use j x hx with z | ⟨y,t,z1,z2,z3⟩
      ·omega
      ·obtain rfl : y = a := by omega
       exact hno t z3
     rcases key j1 x hx1 with ⟨q1,q2⟩ | ⟨q1,q2⟩ <;> rcases key j2 x hx2 with ⟨p1,p2⟩ | ⟨p1,p2⟩
     ·exact hK4.ne j1 j2 x q2 p2
     ·exact (old j1 x q2 p2).elim
     ·exact (old j2 x p2 q2).elim
     ·exact .inr (by omega)
   generalize hl' : l ++ [(a : Int)] = l' at *
   generalize hw' : wl ++ [d] = wl' at *
   have ll' : 1 ≤ l'.length := by rw [← hl', List.length_append]; simp
   have lenb : l'.length ≤ i + 1 := by rw [← hl', List.length_append]; simp; omega
   have done : ∀ (h9 : AHeap) (m9 : Cm) (l9 : List Int) (ow9 : List Nat), LawQ h h9 g4 m9 → m9.n = 256 → m9.pr = 3 → oid < h9.n → h9.get oid = .cells 0 false (owV ow9) → ow9.length = 16384 → Owned ow9 m9 → SlOf h9 1 encZ sv7 l9 G7 → SlOf h9 1 encI sw8 wl' H8 → Kept m9 l9 wl' → l9.length ≤ i + 1 →
     ∃ k', k' < k ∧ ∃ (i_1 : Nat) (m : Cm) (g : CG) (l : List Int) (wl : List Nat) (sv sw : AVal) (G H ow : List Nat), k' + i_1 = zs.length ∧ sv7 = sv ∧ sw8 = sw ∧ AVal.int .i64 ((i + 1 : Nat) : Int) = .int .i64 (i_1 : Int) ∧
  g.c = g4.c ∧ LawQ h h9 g m ∧ m.n = 256 ∧ m.pr = 3 ∧ oid < h9.n ∧ g.K oid = 0 ∧ h9.get oid = .cells 0 false (owV ow) ∧ ow.length = 16384 ∧ Owned ow m ∧
  SlOf h9 1 encZ sv l G ∧ (∀ j,j ∈ G → g.K j = 0 ∧ h.n ≤ j) ∧ SlOf h9 1 encI sw wl H ∧ (∀ j,j ∈ H → g.K j = 0 ∧ h.n ≤ j) ∧ (∀ j,j ∈ G → j ∉ H) ∧ oid ∉ G ∧ oid ∉ H ∧ Kept m l wl ∧ l.length ≤ i_1 := fun h9 m9 l9 ow9 a9 b1 b2 b3 b4 b5 b6 b7 b8 b9 bz =>
    ⟨k - 1,by omega,i + 1,m9,g4,l9,wl', sv7,sw8,G7,H8,ow9,by omega,rfl,rfl,rfl,rfl,a9,b1,b2,b3,ko4,b4,b5,b6,b7,dG7,b8,dH8,dGH8,oG7,oH8,b9,bz⟩
   have gt0 : decide ((0 : Int) < ((l'.length : Nat) : Int)) = true := decide_eq_true (by omega)
   rcases Nat.lt_or_ge i os.length with hio | hio
   rotate_left
   ·have dio : decide ((i : Int) < ((os.length : Nat) : Int)) = false := decide_eq_false (by omega)
    simp -implicitDefEqProofs (disch := first|decide|assumption|omega|(simp -implicitDefEqProofs only [AM.RN];first|done|omega)|fail) only [↓AM.R0,AM.R1,AM.R2,Nat.reduceAdd,Nat.reduceLeDiff,Nat.reduceEqDiff,Int.reduceToNat,Nat.reduceLT,↓reduceIte,Int.reduceEq,Int.reduceLT,Int.reduceLE,y1,y5,y7,y10,y36,y37,y38,s1.len,dio,w9]
    exact done h8 m4 l' ow' L8 hn256 (hpr.trans hmp) lo8 go8 hol6 hOw6 so8 sw8' hK8 lenb
   have dio : decide ((i : Int) < ((os.length : Nat) : Int)) = true := decide_eq_true (by omega)
   obtain ⟨z,hz⟩ : ∃ z,os[i]? = some z := ⟨_,List.getElem?_eq_getElem (by omega)⟩
   obtain ⟨hz0,hz1⟩ := hos z (List.mem_of_getElem? hz)
   obtain ⟨z,rfl⟩ : ∃ a : Nat,z = a := ⟨z.toNat,by omega⟩
   obtain ⟨idz,gz,offz,vz,roz,z1,z2,z3,z4⟩ := ((s1.keep L8.f).rd hz).ix1 hz .i64
   have wz1 : (z : Int).tmod 3 = ((z % 3 : Nat) : Int) := rfl
   have wz2 : IntKind.i64.wrap (z : Int) = (z : Int) := wrap64 (by omega) (by omega)
   have wz3 : (z : Int).tmod ((l'.length : Nat) : Int) = ((z % l'.length : Nat) : Int) := rfl
   have hj : z % l'.length < l'.length := Nat.mod_lt _ (by omega)
   have hl0' : ((l'.length : Nat) : Int) ≠ 0 := by omega
   simp -implicitDefEqProofs (disch := first|decide|assumption|omega|(simp -implicitDefEqProofs only [AM.RN];first|done|omega)|fail) only [↓AM.R0,AM.R1,AM.R2,Nat.reduceAdd,Nat.reduceLeDiff,Nat.reduceEqDiff,Int.reduceToNat,Nat.reduceLT,↓reduceIte,Int.reduceEq,Int.reduceLT,Int.reduceLE,y1,y5,y7,y10,y36,y37,y38,s1.len,so8.len,dio,gt0,z1,z2,z4,wz1,wz2,wz3]
   refine AM.cI_bool (fun hd => ?_) (fun hd => ?_)
   rotate_left
   ·simp -implicitDefEqProofs (disch := first|decide|assumption|omega|(simp -implicitDefEqProofs only [AM.RN];first|done|omega)|fail) only [↓AM.R0,AM.R1,AM.R2,Nat.reduceAdd,Nat.reduceLeDiff,Nat.reduceEqDiff,Int.reduceToNat,Nat.reduceLT,↓reduceIte,Int.reduceEq,Int.reduceLT,Int.reduceLE,y1,y5,y7,y10,y36,y37,y38,w9]
    exact done h8 m4 l' ow' L8 hn256 (hpr.trans hmp) lo8 go8 hol6 hOw6 so8 sw8' hK8 lenb
   generalize z % l'.length = j at *
   obtain ⟨ia,ga,offa,va,q1,q2,q3,q4,q5,q6,q7,q8⟩ := SlOf.upd1 (enc := fun x : Int => AVal.int .i64 x) so8 hj
   obtain ⟨y,hy⟩ : ∃ y,l'[j]? = some y := ⟨_,List.getElem?_eq_getElem hj⟩
   have hy2 : l'[j]'hj = y := by rw [List.getElem?_eq_getElem hj] at hy; exact Option.some.inj hy
   rw [hy2] at q6
   simp -implicitDefEqProofs (disch := first|decide|assumption|omega|(simp -implicitDefEqProofs only [AM.RN];first|done|omega)|fail) only [↓AM.R0,AM.R1,AM.R2,Nat.reduceAdd,Nat.reduceLeDiff,Nat.reduceEqDiff,Int.reduceToNat,Nat.reduceLT,↓reduceIte,Int.reduceEq,Int.reduceLT,Int.reduceLE,y1,y5,y7,y10,y36,y37,y38,s1.len,so8.len,z1,z2,z4,wz2,wz3,q7,q2,q6]
   rcases hK8.use j y hy with rfl | ⟨b,t,rfl,hwt,hbt⟩
   ·have dneg : decide ((-1 : Int) < 0) = true := rfl
    simp -implicitDefEqProofs (disch := first|decide|assumption|omega|(simp -implicitDefEqProofs only [AM.RN];first|done|omega)|fail) only [↓AM.R0,AM.R1,AM.R2,Nat.reduceAdd,Nat.reduceLeDiff,Nat.reduceEqDiff,Int.reduceToNat,Nat.reduceLT,↓reduceIte,Int.reduceEq,Int.reduceLT,Int.reduceLE,y1,y5,y7,y10,y36,y37,y38,dneg,w9]
    exact done h8 m4 l' ow' L8 hn256 (hpr.trans hmp) lo8 go8 hol6 hOw6 so8 sw8' hK8 lenb
   have dnn : decide ((b : Int) < 0) = false := decide_eq_false (by omega)
   have hbb := use_bd I4 hbt
   obtain ⟨p1,p2,p3,p4,p5⟩ := free_use I4 hbt
   have T8 := L8.tabR T
   simp -implicitDefEqProofs (disch := first|decide|assumption|omega|(simp -implicitDefEqProofs only [AM.RN];first|done|omega)|fail) only [↓AM.R0,AM.R1,AM.R2,Nat.reduceAdd,Nat.reduceLeDiff,Nat.reduceEqDiff,Int.reduceToNat,Nat.reduceLT,↓reduceIte,Int.reduceEq,Int.reduceLT,Int.reduceLE,y1,y5,y7,y10,y36,y37,y38,so8.len,q7,q2,q6,dnn]
   refine AM.callI_of (freeC T8 L8.q (b : Int) ⟨by omega,by omega⟩) ?_
   rintro r h9 ⟨F9,Q9,rfl⟩
   rw [p1]
   have L9 := L8.cl F9 Q9
   have fn9 := free_n m4 (b : Int)
   have fno : ∀ t, ¬ InUse (m4.free b).2 b t := fun t ht => ((p3 b t).1 ht).2 rfl
   have e4 := free_none Q9.inv fno
   generalize (m4.free (b : Int)).2 = m9 at *
   have so9 := (SlOf.cfr so8 F9 fun j hj => (dG7 j hj).1).1
   have sw9 := (SlOf.cfr sw8' F9 fun j hj => (dH8 j hj).1).1
   have go9 := (F9.get oid lo8 ko4).trans go8
   have lo9 := Nat.lt_of_lt_of_le lo8 F9.n
   have qa9 := (F9.get ia q3 (dG7 ia (by rw [q5]; simp)).1).trans q2
   have q79 : ixV h9 1 sv7 (.int .i64 (j : Int)) = some (.ptr ia ga (offa + j), h9) := by
    rw [q1]
    have := AM.ix_sl (h := h9) (k := .i64) (n := (j : Int)) (len := l'.length) (esz := 1) (off := offa) qa9 (by omega) (by omega)
    simpa using this
   have q39 := Nat.lt_of_lt_of_le q3 F9.n
   simp -implicitDefEqProofs (disch := first|decide|assumption|omega|(simp -implicitDefEqProofs only [AM.RN];first|done|omega)|fail) only [↓AM.R0,AM.R1,AM.R2,Nat.reduceAdd,Nat.reduceLeDiff,Nat.reduceEqDiff,Int.reduceToNat,Nat.reduceLT,↓reduceIte,Int.reduceEq,Int.reduceLT,Int.reduceLE,y1,y5,y7,y10,y36,y37,y38,q79,qa9,q6]
   refine AM.callI_of (freeC (L9.tabR T) L9.q (b : Int) ⟨by omega,by omega⟩) ?_
   rintro r ha ⟨Fa,Qa,rfl⟩
   rw [e4] at Qa
   rw [e4]
   have La := L9.cl Fa Qa
   have soa := (SlOf.cfr so9 Fa fun j hj => (dG7 j hj).1).1
   have swa := (SlOf.cfr sw9 Fa fun j hj => (dH8 j hj).1).1
   have goa := (Fa.get oid lo9 ko4).trans go9
   have loa := Nat.lt_of_lt_of_le lo9 Fa.n
   have qaa := (Fa.get ia q39 (dG7 ia (by rw [q5]; simp)).1).trans qa9
   have q7a : ixV ha 1 sv7 (.int .i64 (j : Int)) = some (.ptr ia ga (offa + j), ha) := by
    rw [q1]
    have := AM.ix_sl (h := ha) (k := .i64) (n := (j : Int)) (len := l'.length) (esz := 1) (off := offa) qaa (by omega) (by omega)
    simpa using this
   have q3a := Nat.lt_of_lt_of_le q39 Fa.n
   simp -implicitDefEqProofs (disch := first|decide|assumption|omega|(simp -implicitDefEqProofs only [AM.RN];first|done|omega)|fail) only [↓AM.R0,AM.R1,AM.R2,Nat.reduceAdd,Nat.reduceLeDiff,Nat.reduceEqDiff,Int.reduceToNat,Nat.reduceLT,↓reduceIte,Int.reduceEq,Int.reduceLT,Int.reduceLE,y1,y5,y7,y10,y36,y37,y38,q7a,qaa,q6]
   have oia : oid ≠ ia := fun e => oG7 (by rw [q5,e]; simp)
   refine AM.loopI_of (fun k' e h' => ∃ (d' : Nat) (ow9 : List Nat), k' + d' = t ∧ e.val 1 = v1 ∧ e.val 5 = .ptr g4.c 0 0 ∧ e.val 7 = .sl oid 0 0 16384 1 ∧ e.val 8 = sv7 ∧ e.val 9 = sw8 ∧ e.val 19 = .int .i64 (j : Int) ∧ e.val 20 = .int .i64 ((b + d' : Nat) : Int) ∧ e.val 36 = v0 ∧ e.val 37 = .int .i64 (zs.length : Int) ∧ e.val 38 = .int .i64 (i : Int) ∧
    HFrame ha h' [oid] [oid] ∧ h'.get oid = .cells 0 false (owV ow9) ∧ ow9.length = 16384 ∧ (∀ q,b ≤ q → q < b + d' → ow9[q]? = some 0) ∧ (∀ q, ¬ (b ≤ q ∧ q < b + d') → ow9[q]? = ow'[q]?)) t ?_ ?_
   ·refine ⟨0,ow', by omega, ?_, ?_, ?_, ?_, ?_, ?_, ?_, ?_, ?_, ?_,HFrame.refl (by simpa using loa), goa,hol6,fun q q1 q2 => by omega,fun q _ => rfl⟩ <;> first | (simp -implicitDefEqProofs (disch := first|decide|assumption|omega|(simp -implicitDefEqProofs only [AM.RN];first|done|omega)|fail) only [↓AM.R0,AM.R1,AM.R2,Nat.reduceAdd,Nat.reduceLeDiff,Nat.reduceEqDiff,Int.reduceToNat,Nat.reduceLT,↓reduceIte,Int.reduceEq,Int.reduceLT,Int.reduceLE,y1,y5,y7,y36,y37,y38]; done) | (simp -implicitDefEqProofs (disch := first|decide|assumption|omega|(simp -implicitDefEqProofs only [AM.RN];first|done|omega)|fail) only [↓AM.R0,AM.R1,AM.R2,Nat.reduceAdd,Nat.reduceLeDiff,Nat.reduceEqDiff,Int.reduceToNat,Nat.reduceLT,↓reduceIte,Int.reduceEq,Int.reduceLT,Int.reduceLE,y1,y5,y7,y36,y37,y38]; rfl)
   clear y1 y5 y7 y8 y9 y10 y13 y16 y18 y36 y37 y38 z1 z2 z3 z4
   rintro k'' e hb' ⟨d', ow9,hkd', y1,y5,y7,y8,y9,y19,y20,y36,y37,y38,fb,gob,holb,hzb,hob⟩
   have lob := Nat.lt_of_lt_of_le loa fb.n
   have sob := soa.frame fb.n fun j hj => fb.get j (soa.lt j hj) (by simp; rintro rfl; exact oG7 hj)
   have swb := swa.frame fb.n fun j hj => fb.get j (swa.lt j hj) (by simp; rintro rfl; exact oH8 hj)
   obtain ⟨ib,gb,offb,vb,r1,r2,r3,r4,r5,r6,r7,r8⟩ := SlOf.upd1 (enc := fun x : Int => AVal.int .i64 x) sob hj
   rw [hy2] at r6
   obtain ⟨ic,gc,offc,vc,roc,t1,t2,t3,t4⟩ := (swb.rd).ix1 (enc := fun x : Nat => AVal.int .i64 (x : Int)) hwt .i64
   have w13 : IntKind.i64.wrap ((b : Int) + (t : Int)) = ((b + t : Nat) : Int) := (wrap64 (by omega) (by omega)).trans (by omega)
   simp -implicitDefEqProofs (disch := first|decide|assumption|omega|(simp -implicitDefEqProofs only [AM.RN];first|done|omega)|fail) only [↓AM.R0,AM.R1,AM.R2,Nat.reduceAdd,Nat.reduceLeDiff,Nat.reduceEqDiff,Int.reduceToNat,Nat.reduceLT,↓reduceIte,Int.reduceEq,Int.reduceLT,Int.reduceLE,y8,y9,y19,y20,r7,r2,r6,t1,t2,t4,w13]
   refine AM.cI_bool (fun hc' => ?_) (fun hc' => ?_)
   ·have hd' : d' < t := by simp only [decide_eq_true_eq] at hc'; omega
    have xo := ix1 gob (len := 16384) (i := b + d') (by omega)
    have xl : b + d' + 1 ≤ (owV ow9).length := by rw [ow_len]; omega
    have w12 : IntKind.i64.wrap (((b + d' : Nat) : Int) + 1) = ((b + (d' + 1) : Nat) : Int) := (wrap64 (by omega) (by omega)).trans (by omega)
    have us := ow_set (ow := ow9) (q := b + d') (v := 0) (by omega)
    have e00 : ((0 : Nat) : Int) = 0 := rfl
    rw [e00] at us
    simp -implicitDefEqProofs (disch := first|decide|assumption|omega|(simp -implicitDefEqProofs only [AM.RN];first|done|omega)|fail) only [↓AM.R0,AM.R1,AM.R2,Nat.reduceAdd,Nat.reduceLeDiff,Nat.reduceEqDiff,Int.reduceToNat,Nat.reduceLT,↓reduceIte,Int.reduceEq,Int.reduceLT,Int.reduceLE,y1,y5,y7,y8,y9,y19,y20,y36,y37,y38,gob,xo,xl,w12,us]
    refine ⟨k'' - 1,by omega,d' + 1,ow9.set (b + d') 0,by omega,rfl,fb.trans (HFrame.set hb' oid _ (by simp) fb.lt), rfl,by rw [List.length_set,holb],fun q q1 q2 => ?_,fun q q1 => ?_⟩
    ·by_cases e : b + d' = q
     ·subst e; rw [List.getElem?_set_self (by omega)]
     ·rw [List.getElem?_set_ne e]; exact hzb q q1 (by omega)
    ·rw [List.getElem?_set_ne (by omega)]; exact hob q (by omega)
   ·have hd' : d' = t := by simp only [decide_eq_false_iff_not] at hc'; omega
    have Lb := La.own fb fun j hj => by simp at hj; subst hj; exact ⟨ko4,ho⟩
    have hib : ib ∈ G7 := by rw [r5]; simp
    have fs := HFrame.set hb' ib (.cells gb false (vb.take (offb + j) ++ [.int .i64 (-1)] ++ vb.drop (offb + j + 1))) (F := G7) hib sob.lt
    have Lc := Lb.own fs dG7
    have soc := r8 (-1)
    have swc := swb.set (i := ib) (fun hm => dGH8 ib hib hm) (.cells gb false (vb.take (offb + j) ++ [.int .i64 (-1)] ++ vb.drop (offb + j + 1)))
    have goc := (AHeap.get_set_ne hb' (.cells gb false (vb.take (offb + j) ++ [.int .i64 (-1)] ++ vb.drop (offb + j + 1))) (show oid ≠ ib from fun e => oG7 (by rw [e]; exact hib))).trans gob
    have rl : offb + j + 1 ≤ vb.length := r4
    simp -implicitDefEqProofs (disch := first|decide|assumption|omega|(simp -implicitDefEqProofs only [AM.RN];first|done|omega)|fail) only [↓AM.R0,AM.R1,AM.R2,Nat.reduceAdd,Nat.reduceLeDiff,Nat.reduceEqDiff,Int.reduceToNat,Nat.reduceLT,↓reduceIte,Int.reduceEq,Int.reduceLT,Int.reduceLE,y1,y5,y7,y8,y9,y19,y36,y37,y38,r7,r2,rl,w9]
    refine done _ m9 (l'.set j (-1)) ow9 Lc (fn9.trans hn256) (p2.trans (hpr.trans hmp)) lob goc holb (fun q v hq hv => ?_) soc swc ⟨by rw [List.length_set]; exact hK8.len,fun q x hx => ?_,fun a1 a2 x h1 h2 => ?_⟩ (by rw [List.length_set]; exact lenb)
    ·by_cases z : b ≤ q ∧ q < b + d'
     ·rw [hzb q z.1 z.2] at hq; cases hq; exact absurd rfl hv
     ·rw [hob q z] at hq
      obtain ⟨x,s', u1,u2,u3⟩ := hOw6 q v hq hv
      refine ⟨x,s', (p3 x s').2 ⟨u1, ?_⟩, u2,u3⟩
      rintro rfl
      have := use_fun I4 u1 hbt
      omega
    ·by_cases e : j = q
     ·subst e; rw [List.getElem?_set_self hj] at hx; cases hx; exact .inl rfl
     ·rw [List.getElem?_set_ne e] at hx
      rcases hK8.use q x hx with z | ⟨y,s', u1,u2,u3⟩
      ·exact .inl z
      ·refine .inr ⟨y,s', u1,u2, (p3 y s').2 ⟨u3, ?_⟩⟩
       rintro rfl
       rw [u1] at hx
       rcases hK8.ne q j _ hx hy with z | z
       ·omega
       ·exact e z.symm
    ·by_cases e1 : j = a1
     ·subst e1; rw [List.getElem?_set_self hj] at h1; cases h1; exact .inl rfl
     ·by_cases e2 : j = a2
      ·subst e2; rw [List.getElem?_set_self hj] at h2; cases h2; exact .inl rfl
      ·rw [List.getElem?_set_ne e1] at h1
       rw [List.getElem?_set_ne e2] at h2
       exact hK8.ne a1 a2 x h1 h2
end Go.Proofs.YthillgheddpmhaaDoor.Pg
namespace Go.Proofs.YthillgheddpmhaaDoor.Pg
open Go Go.AM Go.Proofs.YthillgheddpmhaaDoor.AmGE
attribute [local irreducible] AM.wp AM.wpIs AM.wpTr AM.opI AM.gI AM.cI AM.trI AM.callI AM.fnI AM.yldI AM.rangeI AM.rangeC AM.YldP AM.asgQ AM.roundQ AM.rangeQ AM.trG AM.trOp AM.trCall AM.seqC AM.loopI
attribute [local irreducible] pc
set_option maxRecDepth 100000
set_option linter.unusedVariables false
set_option linter.unusedSimpArgs false
variable {m : Cm}
/-- Cells of one class: rows of pages one behind the other,and what the law knows of them. -/
structure OInv (m : Cm) (c nx : Nat) (ow : List Nat) : Prop where
 n : m.n = 512
 pr : m.pr = 4
 cls : ∀ b,b ∈ m.bl → b.c = (c : Int)
 f : ∀ q,m.f q = decide (nx ≤ q ∧ q < 512)
 fu : ∀ b,b ∈ m.bl → b.w = none → b.full = true
 own : ∀ q v,ow[q]? = some v → v ≠ 0 → q < nx ∧ ∀ b,b ∈ m.bl → b.a ≤ q → q < b.a + b.k → b.w = none ∨ b.w = some (v - 1)
 len : ow.length = 512
end Go.Proofs.YthillgheddpmhaaDoor.Pg
namespace Go.Proofs.YthillgheddpmhaaDoor.Pg
open Go Go.AM Go.Proofs.YthillgheddpmhaaDoor.AmGE
attribute [local irreducible] AM.wp AM.wpIs AM.wpTr AM.opI AM.gI AM.cI AM.trI AM.callI AM.fnI AM.yldI AM.rangeI AM.rangeC AM.YldP AM.asgQ AM.roundQ AM.rangeQ AM.trG AM.trOp AM.trCall AM.seqC AM.loopI
attribute [local irreducible] pc
set_option maxRecDepth 100000
set_option linter.unusedVariables false
set_option linter.unusedSimpArgs false
end Go.Proofs.YthillgheddpmhaaDoor.Pg
