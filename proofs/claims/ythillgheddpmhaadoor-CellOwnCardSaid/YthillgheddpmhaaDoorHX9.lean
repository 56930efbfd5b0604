/-
 What the functions of this seat do,on the machine: lemmas for the laws.
-/
import Derived.Test.YthillgheddpmhaaDoorHX5
import Derived.Test.YthillgheddpmhaaDoorHX8
namespace Go.Proofs.YthillgheddpmhaaDoor.Pg
open Go Go.AM Go.Proofs.YthillgheddpmhaaDoor.AmGE
attribute [local irreducible] AM.wp AM.wpIs AM.wpTr AM.opI AM.gI AM.cI AM.trI AM.callI AM.fnI AM.yldI AM.rangeI AM.rangeC AM.YldP AM.asgQ AM.roundQ AM.rangeQ AM.trG AM.trOp AM.trCall AM.seqC AM.loopI
set_option maxRecDepth 100000
set_option linter.unusedVariables false
set_option linter.unusedSimpArgs false
variable {h h' : AHeap} {g g' : CG} {ws : List Nat} {lv : List (List Sm)} {bs : List Nat} {m : Cm} {cn wn : Int}
def Cm.fl1 (m : Cm) (p c : Nat) : Cm := match m.held p c with
 | none => m
 | some b => (m.upd b.a (Blk.setW none)).drop (Blk.setW none b)
end Go.Proofs.YthillgheddpmhaaDoor.Pg
namespace Go.Proofs.YthillgheddpmhaaDoor.Pg
open Go Go.AM Go.Proofs.YthillgheddpmhaaDoor.AmGE
attribute [local irreducible] AM.wp AM.wpIs AM.wpTr AM.opI AM.gI AM.cI AM.trI AM.callI AM.fnI AM.yldI AM.rangeI AM.rangeC AM.YldP AM.asgQ AM.roundQ AM.rangeQ AM.trG AM.trOp AM.trCall AM.seqC AM.loopI
set_option maxRecDepth 100000
set_option linter.unusedVariables false
set_option linter.unusedSimpArgs false
theorem cells_map (i : Nat) : (AVal.map i).cells = [.map i] := rfl
theorem cell_map (i : Nat) : (AVal.map i).cell = true := rfl
theorem ms16 (h : AHeap) : msV h 1 8 [.nilp] (.int .i64 16) = some (.sl h.n 0 0 16 1,h.push (.cells 0 false (List.replicate 16 .nilp))) := rfl
def Cm.zero (n p : Nat) : Cm := ⟨n,p, []⟩
theorem zeroI_ {n p : Nat} : CInv (Cm.zero n p) :=
 ⟨SInv.nil fun q hq => by unfold Cm.f Cm.zero; simp; exact hq,fun b hb => by simp [Cm.zero] at hb,fun b b' p hb => by simp [Cm.zero] at hb,fun b p hb => by simp [Cm.zero] at hb⟩
def OffZ (v : AVal) : Prop := v = .nils ∨ ∃ id g n e,v = .sl id g 0 n e
theorem app_off {h h' : AHeap} {esz b : Nat} {x y v : AVal} (e : h.app esz b x y = some (v,h')) (hx : OffZ x) : OffZ v := by
 unfold AHeap.app at e
 cases he : h.elems esz y with
 | none => rw [he] at e; cases e
 | some p =>
  obtain ⟨m,ys⟩ := p
  rw [he] at e
  simp only [Option.bind_some] at e
  split at e
  ·split at e
   ·cases e; exact .inl rfl
   ·split at e
    ·cases e; exact .inr ⟨_,_,_,_,rfl⟩
    ·cases e
  ·split at e
   ·split at e
    ·cases e; exact hx
    ·cases e
   ·split at e
    ·split at e
     ·split at e
      ·cases e; exact .inr ⟨_,_,_,_,rfl⟩
      ·cases e
     ·cases e
    ·cases e
  ·cases e
theorem wpOp_off {h : AHeap} {esz b : Nat} {x y : AVal} {k : AVal → AHeap → Prop} (hx : OffZ x) (w : AM.wpOp (h.app esz b x y) fun v h' => OffZ v → k v h') : AM.wpOp (h.app esz b x y) k := by
 cases e : h.app esz b x y with
 | none => rw [e] at w; exact w
 | some p => rw [e] at w; exact w (app_off e hx)
theorem getD_mem {l : List Nat} {i : Nat} (h : i < l.length) : l.getD i 0 ∈ l := by
 rw [List.getD_eq_getElem?_getD,List.getElem?_eq_getElem h]; exact List.getElem_mem h
theorem getD_inj {l : List Nat} (hn : l.Nodup) {i j : Nat} (hi : i < l.length) (hj : j < l.length) (e : l.getD i 0 = l.getD j 0) : i = j := by
 rw [List.getD_eq_getElem?_getD,List.getElem?_eq_getElem hi,List.getD_eq_getElem?_getD,List.getElem?_eq_getElem hj] at e
 exact (List.getElem_inj hn).1 e
def encR' (j : Nat) : List AVal := [.sl j 0 0 16 1]
theorem range_getD : ∀ l : List Nat, (List.range l.length).map (fun i => AVal.sl (l.getD i 0) 0 0 16 1) = l.flatMap encR'
 | [] => rfl
 | a :: l => by
  rw [List.length_cons,List.range_succ_eq_map,List.map_cons,List.map_map,List.flatMap_cons]
  have := range_getD l
  rw [← this]; rfl
def encR (j : Nat) : List AVal := [.sl j 0 0 16 1]
set_option maxHeartbeats 8000000 in
theorem newC {h : AHeap} (T : TabR h) (n p : Int) : CallP AP 42 [.int .i64 n, .int .i64 p] h fun r h' => (¬ (1 ≤ p ∧ p ≤ 8 ∧ 1 ≤ n ∧ n ≤ 4096) ∧ HFrame h h' [] [] ∧ r = .tup [.nilp, .int .i64 1]) ∨
  (1 ≤ p ∧ p ≤ 8 ∧ 1 ≤ n ∧ n ≤ 4096 ∧ ∃ g,HFrame h h' [] [] ∧ (∀ j,g.K j ≠ 0 → h.n ≤ j) ∧ CellQ h' g (Cm.zero n.toNat p.toNat) ∧ r = .tup [.ptr g.c 0 0, .int .i64 0]) := by
 refine callP (rfl : Tr.get AP 42 = some A42) ?_
 generalize hQ : (fun (r : AVal) (h' : AHeap) => _) = Q
 rcases Int.lt_or_le p 1 with c1 | c1
 ·have d1 : decide (p < 1) = true := decide_eq_true c1
  simp -implicitDefEqProofs (disch := first|decide|assumption|omega|(simp -implicitDefEqProofs only [AM.RN];first|done|omega)|fail) only [↓AM.R0,AM.R1,AM.R2,Nat.reduceAdd,Nat.reduceLeDiff,Nat.reduceEqDiff,Int.reduceToNat,Nat.reduceLT,↓reduceIte,Int.reduceEq,Int.reduceLT,Int.reduceLE,d1]
  subst hQ; exact .inl ⟨by omega,HFrame.refl (by simp), rfl⟩
 have d1 : decide (p < 1) = false := decide_eq_false (by omega)
 rcases Int.lt_or_le 8 p with c2 | c2
 ·have d2 : decide ((8 : Int) < p) = true := decide_eq_true c2
  simp -implicitDefEqProofs (disch := first|decide|assumption|omega|(simp -implicitDefEqProofs only [AM.RN];first|done|omega)|fail) only [↓AM.R0,AM.R1,AM.R2,Nat.reduceAdd,Nat.reduceLeDiff,Nat.reduceEqDiff,Int.reduceToNat,Nat.reduceLT,↓reduceIte,Int.reduceEq,Int.reduceLT,Int.reduceLE,d1,d2]
  subst hQ; exact .inl ⟨by omega,HFrame.refl (by simp), rfl⟩
 have d2 : decide ((8 : Int) < p) = false := decide_eq_false (by omega)
 simp -implicitDefEqProofs (disch := first|decide|assumption|omega|(simp -implicitDefEqProofs only [AM.RN];first|done|omega)|fail) only [↓AM.R0,AM.R1,AM.R2,Nat.reduceAdd,Nat.reduceLeDiff,Nat.reduceEqDiff,Int.reduceToNat,Nat.reduceLT,↓reduceIte,Int.reduceEq,Int.reduceLT,Int.reduceLE,d1,d2]
 refine AM.callI_of (newS T n) ?_
 rintro r h1 (⟨c3,f1,rfl⟩ | ⟨n1,n2,t,so,oo,q,ws,lv,f1,R,hf,rfl⟩)
 ·simp -implicitDefEqProofs (disch := first|decide|assumption|omega|(simp -implicitDefEqProofs only [AM.RN];first|done|omega)|fail) only [↓AM.R0,AM.R1,AM.R2,Nat.reduceAdd,Nat.reduceLeDiff,Nat.reduceEqDiff,Int.reduceToNat,Nat.reduceLT,↓reduceIte,Int.reduceEq,Int.reduceLT,Int.reduceLE]
  subst hQ; exact .inl ⟨by omega,f1,rfl⟩
 obtain ⟨p,rfl⟩ : ∃ x : Nat,p = x := ⟨p.toNat,by omega⟩
 obtain ⟨n,rfl⟩ : ∃ x : Nat,n = x := ⟨n.toNat,by omega⟩
 rw [Int.toNat_natCast] at R hf hQ
 rw [Int.toNat_natCast] at hQ
 simp -implicitDefEqProofs (disch := first|decide|assumption|omega|(simp -implicitDefEqProofs only [AM.RN];first|done|omega)|fail) only [↓AM.R0,AM.R1,AM.R2,Nat.reduceAdd,Nat.reduceLeDiff,Nat.reduceEqDiff,Int.reduceToNat,Nat.reduceLT,↓reduceIte,Int.reduceEq,Int.reduceLT,Int.reduceLE,a_mkMap,cells_map,cell_map]
 have F2 : HFrame h ((h1.push (.map [])).push (.cells 0 false [.ptr t 0 0, .map h1.n, .nils, .int .i64 0, .int .i64 0])) [] [] := ((HFrame.non f1).pushTmp _).pushTmp _
 have fR : HFrame h1 ((h1.push (.map [])).push (.cells 0 false [.ptr t 0 0, .map h1.n, .nils, .int .i64 0, .int .i64 0])) [] [] := ((HFrame.refl (h := h1) (F := []) (by simp)).pushTmp _).pushTmp _
 have R2 := R.keep fR
 have gm : ((h1.push (.map [])).push (.cells 0 false [.ptr t 0 0, .map h1.n, .nils, .int .i64 0, .int .i64 0])).get h1.n = .map [] := by rw [AHeap.get_push_ne _ _ (by simp), AHeap.get_push_same]
 have gc : ((h1.push (.map [])).push (.cells 0 false [.ptr t 0 0, .map h1.n, .nils, .int .i64 0, .int .i64 0])).get (h1.n + 1) = .cells 0 false [.ptr t 0 0, .map h1.n, .nils, .int .i64 0, .int .i64 0] := AHeap.get_push_same _ _
 have n3 : ((h1.push (.map [])).push (.cells 0 false [.ptr t 0 0, .map h1.n, .nils, .int .i64 0, .int .i64 0])).n = h1.n + 2 := by simp
 have hnew : ∀ j,j ∈ q.F ++ [t,so,oo] → h.n ≤ j ∧ j < h1.n := fun j hj => by
  refine ⟨?_,R.flt j hj⟩
  rcases f1.new j hj with e | e
  ·simp at e
  ·exact e
 have hn1 := f1.n
 generalize (h1.push (.map [])).push (.cells 0 false [.ptr t 0 0, .map h1.n, .nils, .int .i64 0, .int .i64 0]) = h3 at *
 refine AM.loopI_of (fun k e h' => ∃ (i : Nat) (rs : List Nat) (sv : AVal) (G : List Nat), k + i = p ∧ rs.length = i ∧ e.val 8 = .ptr (h1.n + 1) 0 0 ∧ e.val 27 = .int .i64 (p : Int) ∧ e.val 28 = .int .i64 (i : Int) ∧ HFrame h h' [] [] ∧ HFrame h3 h' [h1.n + 1] [h1.n + 1] ∧
  h'.get (h1.n + 1) = .cells 0 false [.ptr t 0 0, .map h1.n,sv, .int .i64 0, .int .i64 0] ∧ SlOf h' 1 encR sv rs G ∧ OffZ sv ∧ (∀ j,j ∈ G → h3.n ≤ j) ∧ rs.Nodup ∧ (∀ j,j ∈ rs → h3.n ≤ j ∧ j < h'.n ∧ j ∉ G ∧ h'.get j = .cells 0 false (List.replicate 16 .nilp))) p ?_ ?_
 ·refine ⟨0, [], .nils, [],by omega,rfl, ?_, ?_, ?_,F2,HFrame.refl (by simp; omega), gc,SlOf.nil, .inl rfl,by simp,List.nodup_nil,by simp⟩ <;> first | (simp -implicitDefEqProofs (disch := first|decide|assumption|omega|(simp -implicitDefEqProofs only [AM.RN];first|done|omega)|fail) only [↓AM.R0,AM.R1,AM.R2,Nat.reduceAdd,Nat.reduceLeDiff,Nat.reduceEqDiff,Int.reduceToNat,Nat.reduceLT,↓reduceIte,Int.reduceEq,Int.reduceLT,Int.reduceLE]; done) | (simp -implicitDefEqProofs (disch := first|decide|assumption|omega|(simp -implicitDefEqProofs only [AM.RN];first|done|omega)|fail) only [↓AM.R0,AM.R1,AM.R2,Nat.reduceAdd,Nat.reduceLeDiff,Nat.reduceEqDiff,Int.reduceToNat,Nat.reduceLT,↓reduceIte,Int.reduceEq,Int.reduceLT,Int.reduceLE]; rfl)
 rintro k e h' ⟨i,rs,sv,G,hk,hrs,y8,y27,y28,F4,f4,gc4,so4,hoff,hG,hnd,hrow⟩
 have hn4 := f4.n
 simp -implicitDefEqProofs (disch := first|decide|assumption|omega|(simp -implicitDefEqProofs only [AM.RN];first|done|omega)|fail) only [↓AM.R0,AM.R1,AM.R2,Nat.reduceAdd,Nat.reduceLeDiff,Nat.reduceEqDiff,Int.reduceToNat,Nat.reduceLT,↓reduceIte,Int.reduceEq,Int.reduceLT,Int.reduceLE,y27,y28]
 refine AM.cI_bool (fun hb => ?_) (fun hb => ?_)
 ·have hi : i < p := by simp only [decide_eq_true_eq] at hb; omega
  have lc4 : h1.n + 1 < h'.n := by omega
  have w1 : IntKind.i64.wrap ((i : Int) + 1) = ((i + 1 : Nat) : Int) := (wrap64 (by omega) (by omega)).trans (by omega)
  simp -implicitDefEqProofs (disch := first|decide|assumption|omega|(simp -implicitDefEqProofs only [AM.RN];first|done|omega)|fail) only [↓AM.R0,AM.R1,AM.R2,Nat.reduceAdd,Nat.reduceLeDiff,Nat.reduceEqDiff,Int.reduceToNat,Nat.reduceLT,↓reduceIte,Int.reduceEq,Int.reduceLT,Int.reduceLE,y8,gc4]
  refine AM.trCall_of countC ?_
  rintro r h5 ⟨f5,rfl⟩
  have m16 := ms16 h5
  have gc5 := (f5.get _ lc4 (by simp)).trans gc4
  have so5 := so4.frame f5.n fun j hj => f5.get j (so4.lt j hj) (by simp)
  have hn5 := f5.n
  have f6 : HFrame h5 (h5.push (.cells 0 false (List.replicate 16 .nilp))) [] [] := (HFrame.refl (h := h5) (F := []) (by simp)).pushTmp _
  have g6 : (h5.push (.cells 0 false (List.replicate 16 .nilp))).get h5.n = .cells 0 false (List.replicate 16 .nilp) := AHeap.get_push_same _ _
  have n6 : (h5.push (.cells 0 false (List.replicate 16 .nilp))).n = h5.n + 1 := by simp
  have so6 := so5.frame f6.n fun j hj => f6.get j (so5.lt j hj) (by simp)
  have lc5 : h1.n + 1 < h5.n := by omega
  have gc6 := (f6.get _ lc5 (by simp)).trans gc5
  simp -implicitDefEqProofs (disch := first|decide|assumption|omega|(simp -implicitDefEqProofs only [AM.RN];first|done|omega)|fail) only [↓AM.R0,AM.R1,AM.R2,Nat.reduceAdd,Nat.reduceLeDiff,Nat.reduceEqDiff,Int.reduceToNat,Nat.reduceLT,↓reduceIte,Int.reduceEq,Int.reduceLT,Int.reduceLE,m16,gc5]
  generalize h5.push (.cells 0 false (List.replicate 16 .nilp)) = h6 at *
  rw [← n6]
  have hbeq : sv.beq sv = true := by rcases so4 with ⟨a,_⟩ | ⟨id,g', off,vs,a,_⟩ <;> rw [a] <;> simp [AVal.beq]
  refine AM.trOp_of (wpOp_off hoff (SlOf.app1 so6 (fun _ => rfl) (fun _ => rfl) (by omega) h5.n fun sw h7 H7 so7 f7 hoff7 => ?_))
  have cG : h1.n + 1 ∉ G := fun hm => by have := hG _ hm; omega
  have gc7 := (f7.get (h1.n + 1) (by omega) cG).trans gc6
  have lc7 : h1.n + 1 < h7.n := by have := f7.n; omega
  have hn7 := f7.n
  have hH : ∀ j,j ∈ H7 → h3.n ≤ j := fun j hj => by
   rcases f7.new j hj with q | q
   ·exact hG j q
   ·omega
  have q7 := so7.rd.cells
  have gp : (h6.push (.cells 0 false (encR h5.n))).get (h1.n + 1) = .cells 0 false [.ptr t 0 0, .map h1.n,sv, .int .i64 0, .int .i64 0] := by rw [AHeap.get_push_ne _ _ (by omega)]; exact gc6
  simp only [encR] at gp
  simp -implicitDefEqProofs (disch := first|decide|assumption|omega|(simp -implicitDefEqProofs only [AM.RN];first|done|omega)|fail) only [↓AM.R0,AM.R1,AM.R2,Nat.reduceAdd,Nat.reduceLeDiff,Nat.reduceEqDiff,Int.reduceToNat,Nat.reduceLT,↓reduceIte,Int.reduceEq,Int.reduceLT,Int.reduceLE,gc7,gc6,gc5,gp,q7.1,q7.2,w1,hbeq,y28]
  have fs := HFrame.set h7 (h1.n + 1) (.cells 0 false [.ptr t 0 0, .map h1.n,sw, .int .i64 0, .int .i64 0]) (F := [h1.n + 1]) (by simp) (by simpa using lc7)
  have so8 := so7.set (i := h1.n + 1) (fun hm => by have := hH _ hm; omega) (.cells 0 false [.ptr t 0 0, .map h1.n,sw, .int .i64 0, .int .i64 0])
  refine ⟨k - 1,by omega,i + 1,rs ++ [h5.n],sw,H7,by omega,by rw [List.length_append,hrs]; rfl,y8,y27,rfl, ?_, ?_,rfl,so8,hoff7,hH, ?_,fun j hj => ?_⟩
  ·have a1 := (F4.trans f5).trans f6
   have a2 : HFrame h6 h7 G H7 := f7
   refine HFrame.setTmp ⟨by omega,by rw [a2.g,a1.g],fun j hj _ => ?_,fun j hj => by simp at hj,fun j hj => by simp at hj⟩ (by omega) _
   rw [a2.get j (by omega) (fun hm => by have := hG _ hm; omega)]
   exact a1.get j hj (by simp)
  ·refine ⟨by simp; omega,by rw [show (h7.set (h1.n + 1) _).g = h7.g from rfl,f7.g,f6.g,f5.g,f4.g],fun j hj hm => ?_,fun j hj => .inl hj,fun j hj => by simp at hj; subst hj; simp; omega⟩
   simp only [List.mem_singleton] at hm
   rw [AHeap.get_set_ne _ _ hm,f7.get j (by omega) (fun hm => by have := hG _ hm; omega), f6.get j (by omega) (by simp), f5.get j (by omega) (by simp)]
   exact f4.get j hj (by simpa using hm)
  ·rw [List.nodup_append]
   refine ⟨hnd,by simp,fun x hx y hy => ?_⟩
   simp at hy; subst hy
   have := (hrow x hx).2.1
   omega
  ·have key : h3.n ≤ j ∧ j < h6.n ∧ j ∉ G ∧ h6.get j = .cells 0 false (List.replicate 16 .nilp) := by
    rcases List.mem_append.1 hj with q | q
    ·obtain ⟨r1,r2,r3,r4⟩ := hrow j q
     exact ⟨r1,by omega,r3, (f6.get j (by omega) (by simp)).trans ((f5.get j r2 (by simp)).trans r4)⟩
    ·simp at q; subst q
     exact ⟨by omega,by omega,fun hm => by have := so4.lt _ hm; omega,g6⟩
   obtain ⟨r1,r2,r3,r4⟩ := key
   refine ⟨r1,by omega,fun hm => ?_, ?_⟩
   ·rcases f7.new j hm with e | e
    ·exact r3 e
    ·omega
   ·rw [AHeap.get_set_ne _ _ (by omega), f7.get j r2 r3,r4]
 ·have hi : i = p := by simp only [decide_eq_false_iff_not] at hb; omega
  simp -implicitDefEqProofs (disch := first|decide|assumption|omega|(simp -implicitDefEqProofs only [AM.RN];first|done|omega)|fail) only [↓AM.R0,AM.R1,AM.R2,Nat.reduceAdd,Nat.reduceLeDiff,Nat.reduceEqDiff,Int.reduceToNat,Nat.reduceLT,↓reduceIte,Int.reduceEq,Int.reduceLT,Int.reduceLE,y8]
  subst hQ
  obtain ⟨id,gn,vs,hid,gid,lid,hvs,hGid⟩ : ∃ id gn vs,sv = .sl id gn 0 rs.length 1 ∧ h'.get id = .cells gn false vs ∧ id < h'.n ∧ vs = rs.flatMap encR ∧ G = [id] := by
   rcases so4 with ⟨_,e,_⟩ | ⟨id,gn,off,vs,e1,e2,e3,e4,e5,e6⟩
   ·subst e; simp at hrs; omega
   ·rcases hoff with e | ⟨a,b,c,d,e⟩
    ·rw [e] at e1; cases e1
    ·rw [e] at e1; cases e1
     exact ⟨id,gn,vs,e,e2,e3,by rw [← e5]; rfl,e6⟩
  have hidn : h3.n ≤ id := hG id (by rw [hGid]; simp)
  have K1 : ∀ j,j ∈ q.F ++ [t,so,oo] → j < h1.n := fun j hj => (hnew j hj).2
  have hKK : ∀ j, (if j = h1.n + 1 then 1 else if j = h1.n then 2 else if j = id then 3 else if j ∈ rs then 4 else if j ∈ q.F ++ [t,so,oo] then 6 else 0) ≠ 0 → h.n ≤ j ∧ j < h'.n := fun j hj => by
   split at hj
   ·omega
   ·split at hj
    ·omega
    ·split at hj
     ·omega
     ·split at hj
      ·rename_i hm; have := hrow j hm; omega
      ·split at hj
       ·rename_i hm; have := hnew j hm; omega
       ·exact absurd rfl hj
  refine .inr ⟨by omega,by omega,by omega,by omega, ⟨h1.n + 1,t,so,oo,h1.n,id,gn,q,fun x => rs.getD x 0,fun _ => 0,fun j => if j = h1.n + 1 then 1 else if j = h1.n then 2 else if j = id then 3 else if j ∈ rs then 4 else if j ∈ q.F ++ [t,so,oo] then 6 else 0⟩, F4,fun j hj => (hKK j hj).1, ⟨ws,lv, [], ?_⟩, rfl⟩
  subst hi
  have n0 := T.2
  refine ⟨zeroI_,R2.keepD f4 (fun j hj hm => by simp at hm; have := K1 j hj; omega), by show i ≤ 8; omega, ?_, (f4.get h1.n (by omega) (by simp)).trans gm,List.nodup_nil,fun a => by simp [Cm.zero], ?_,fun p hp => ?_,fun b hb => by simp [Cm.zero] at hb,fun j hj => ⟨by have := hKK j hj; omega, (hKK j hj).2⟩, ⟨if_pos rfl, ?_, ?_⟩, fun p hp => ?_,fun b hb => by simp [Cm.zero] at hb,fun j hj => ?_,fun a b ha hb e => getD_inj hnd (by rw [hrs]; exact ha) (by rw [hrs]; exact hb) e,fun b b' hb => by simp [Cm.zero] at hb⟩
  ·show h'.get (h1.n + 1) = _
   rw [gc4,hid,hrs]; rfl
  ·show h'.get id = .cells gn false (holdV _ _)
   rw [gid,hvs]
   have := range_getD rs
   rw [hrs] at this
   show _ = AObj.cells gn false ((List.range i).map fun p => .sl (rs.getD p 0) 0 0 16 1)
   rw [this]; rfl
  ·have hp : p < i := hp
   have hm := getD_mem (l := rs) (i := p) (by omega)
   show h'.get (rs.getD p 0) = _
   rw [(hrow _ hm).2.2.2]
   rfl
  ·show (if h1.n = h1.n + 1 then 1 else if h1.n = h1.n then 2 else _) = 2
   rw [if_neg (by omega), if_pos rfl]
  ·show (if id = h1.n + 1 then 1 else if id = h1.n then 2 else if id = id then 3 else _) = 3
   rw [if_neg (by omega), if_neg (by omega), if_pos rfl]
  ·have hp : p < i := hp
   have hm := getD_mem (l := rs) (i := p) (by omega)
   have := hrow _ hm
   show (if rs.getD p 0 = h1.n + 1 then 1 else if rs.getD p 0 = h1.n then 2 else if rs.getD p 0 = id then 3 else if rs.getD p 0 ∈ rs then 4 else _) = 4
   rw [if_neg (by omega), if_neg (by omega), if_neg (fun e => this.2.2.1 (by rw [hGid,e]; simp)), if_pos hm]
  ·have hj' : j ∈ q.F ++ [t,so,oo] := hj
   have := K1 j hj'
   show (if j = h1.n + 1 then 1 else if j = h1.n then 2 else if j = id then 3 else if j ∈ rs then 4 else if j ∈ q.F ++ [t,so,oo] then 6 else 0) = 6
   rw [if_neg (by omega), if_neg (by omega), if_neg (by omega), if_neg (fun hm => by have := hrow j hm; omega), if_pos hj']
end Go.Proofs.YthillgheddpmhaaDoor.Pg
namespace Go.Proofs.YthillgheddpmhaaDoor.Pg
open Go Go.AM Go.Proofs.YthillgheddpmhaaDoor.AmGE
attribute [local irreducible] AM.wp AM.wpIs AM.wpTr AM.opI AM.gI AM.cI AM.trI AM.callI AM.fnI AM.yldI AM.rangeI AM.rangeC AM.YldP AM.asgQ AM.roundQ AM.rangeQ AM.trG AM.trOp AM.trCall AM.seqC AM.loopI
set_option maxRecDepth 100000
set_option linter.unusedVariables false
set_option linter.unusedSimpArgs false
/-- What a room that was made here leaves alone. -/
theorem CFr.newH {h h1 h' : AHeap} {g g' : CG} (f : HFrame h h1 [] []) (k : ∀ j,g.K j ≠ 0 → h.n ≤ j) (F : CFr h1 h' g g') : HFrame h h' [] [] ∧ ∀ j,j < h.n → g'.K j = 0 := by
 have hk : ∀ j,j < h.n → g.K j = 0 := fun j hj => by
  cases e : g.K j with
  | zero => rfl
  | succ x => have := k j (by omega); omega
 refine ⟨⟨Nat.le_trans f.n F.n,F.G.trans f.g,fun j hj _ => (F.get j (Nat.lt_of_lt_of_le hj f.n) (hk j hj)).trans (f.get j hj (by simp)), fun j hj => by simp at hj,fun j hj => by simp at hj⟩, fun j hj => (F.K j (Nat.lt_of_lt_of_le hj f.n)).trans (hk j hj)⟩
theorem CellQ.K0 {h : AHeap} {g : CG} {m : Cm} (Q : CellQ h g m) : g.K 0 = 0 := by obtain ⟨ws,lv,bs,R⟩ := Q; exact R.K0
theorem CellQ.keep {h h' : AHeap} {g : CG} {m : Cm} (Q : CellQ h g m) {A : List Nat} (f : HFrame h h' [] A) : CellQ h' g m := by obtain ⟨ws,lv,bs,R⟩ := Q; exact ⟨ws,lv,bs,R.keep f⟩
theorem CellQ.keepD {h h' : AHeap} {g : CG} {m : Cm} (Q : CellQ h g m) {A A' : List Nat} (f : HFrame h h' A A') (d : ∀ j,g.K j ≠ 0 → j ∉ A) : CellQ h' g m := by obtain ⟨ws,lv,bs,R⟩ := Q; exact ⟨ws,lv,bs,R.keepD f d⟩
set_option maxHeartbeats 4000000 in
theorem awakeC {h : AHeap} (T : TabR h) : CallP AP 43 [] h fun r h' => HFrame h h' [] [] ∧ r = .bool true := by
 refine callP (rfl : Tr.get AP 43 = some A43) ?_
 generalize hQ : (fun (r : AVal) (h' : AHeap) => _) = Q
 simp -implicitDefEqProofs (disch := first|decide|assumption|omega|(simp -implicitDefEqProofs only [AM.RN];first|done|omega)|fail) only [↓AM.R0,AM.R1,AM.R2,Nat.reduceAdd,Nat.reduceLeDiff,Nat.reduceEqDiff,Int.reduceToNat,Nat.reduceLT,↓reduceIte,Int.reduceEq,Int.reduceLT,Int.reduceLE]
 refine AM.callI_of (newC T 8 2) ?_
 rintro r h1 (⟨c,_⟩ | ⟨_,_,_,_,g,f1,k1,Q1,rfl⟩)
 ·exact absurd ⟨by decide,by decide,by decide,by decide⟩ c
 have T1 := T.frame f1 (by simp)
 have e1 : (Cm.zero (8 : Int).toNat (2 : Int).toNat) = Cm.zero 8 2 := rfl
 rw [e1] at Q1
 simp -implicitDefEqProofs (disch := first|decide|assumption|omega|(simp -implicitDefEqProofs only [AM.RN];first|done|omega)|fail) only [↓AM.R0,AM.R1,AM.R2,Nat.reduceAdd,Nat.reduceLeDiff,Nat.reduceEqDiff,Int.reduceToNat,Nat.reduceLT,↓reduceIte,Int.reduceEq,Int.reduceLT,Int.reduceLE]
 refine AM.callI_of (allocC T1 Q1 0 3) ?_
 rintro r h2 ⟨g2,F2,Q2,rfl⟩
 have T2 := F2.tabR Q1.K0 T1
 have a2 : ((Cm.zero 8 2).alloc 0 3).1 = (0,0) := by decide +kernel
 rw [a2, ← F2.c]
 generalize hm2 : ((Cm.zero 8 2).alloc 0 3).2 = m2 at *
 simp -implicitDefEqProofs (disch := first|decide|assumption|omega|(simp -implicitDefEqProofs only [AM.RN];first|done|omega)|fail) only [↓AM.R0,AM.R1,AM.R2,Nat.reduceAdd,Nat.reduceLeDiff,Nat.reduceEqDiff,Int.reduceToNat,Nat.reduceLT,↓reduceIte,Int.reduceEq,Int.reduceLT,Int.reduceLE,res2]
 refine AM.callI_of (allocC T2 Q2 0 3) ?_
 rintro r h3 ⟨g3,F3,Q3,rfl⟩
 have T3 := F3.tabR Q2.K0 T2
 have a3 : (m2.alloc 0 3).1 = (3,0) := by rw [← hm2]; decide +kernel
 rw [a3, ← F3.c]
 generalize hm3 : (m2.alloc 0 3).2 = m3 at *
 simp -implicitDefEqProofs (disch := first|decide|assumption|omega|(simp -implicitDefEqProofs only [AM.RN];first|done|omega)|fail) only [↓AM.R0,AM.R1,AM.R2,Nat.reduceAdd,Nat.reduceLeDiff,Nat.reduceEqDiff,Int.reduceToNat,Nat.reduceLT,↓reduceIte,Int.reduceEq,Int.reduceLT,Int.reduceLE,res2]
 refine AM.callI_of (allocC T3 Q3 1 3) ?_
 rintro r h4 ⟨g4,F4,Q4,rfl⟩
 have T4 := F4.tabR Q3.K0 T3
 have a4 : (m3.alloc 1 3).1 = (64,0) := by rw [← hm3, ← hm2]; decide +kernel
 rw [a4, ← F4.c]
 generalize hm4 : (m3.alloc 1 3).2 = m4 at *
 simp -implicitDefEqProofs (disch := first|decide|assumption|omega|(simp -implicitDefEqProofs only [AM.RN];first|done|omega)|fail) only [↓AM.R0,AM.R1,AM.R2,Nat.reduceAdd,Nat.reduceLeDiff,Nat.reduceEqDiff,Int.reduceToNat,Nat.reduceLT,↓reduceIte,Int.reduceEq,Int.reduceLT,Int.reduceLE,res2]
 have Q4' := Q4
 obtain ⟨ws,lv,bs,R4⟩ := Q4'
 refine AM.callI_of (findC R4 5 (by decide)) ?_
 rintro r h5 ⟨f5,rfl⟩
 have Q5 := Q4.keep f5
 have a5 : encC (m4.cell 5) = .tup [.int .i64 3, .int .i64 3, .bool true] := by
  have e : (m4.cell 5).map (fun p => (p.1.a,p.2,p.1.ws)) = some (0,1,3) := by rw [← hm4, ← hm3, ← hm2]; decide +kernel
  cases hc : m4.cell 5 with
  | none => rw [hc] at e; cases e
  | some p =>
   obtain ⟨b,k⟩ := p
   rw [hc] at e
   simp only [Option.map_some,Option.some.injEq,Prod.mk.injEq] at e
   unfold encC
   simp only [e.1,e.2.1,e.2.2]; rfl
 rw [a5]
 simp -implicitDefEqProofs (disch := first|decide|assumption|omega|(simp -implicitDefEqProofs only [AM.RN];first|done|omega)|fail) only [↓AM.R0,AM.R1,AM.R2,Nat.reduceAdd,Nat.reduceLeDiff,Nat.reduceEqDiff,Int.reduceToNat,Nat.reduceLT,↓reduceIte,Int.reduceEq,Int.reduceLT,Int.reduceLE]
 refine AM.callI_of (usedC Q5 1) ?_
 rintro r h6 ⟨f6,rfl⟩
 have Q6 := Q5.keep f6
 have a6 : (findF m4.L 1).isSome = true := by rw [← hm4, ← hm3, ← hm2]; decide +kernel
 rw [a6]
 simp -implicitDefEqProofs (disch := first|decide|assumption|omega|(simp -implicitDefEqProofs only [AM.RN];first|done|omega)|fail) only [↓AM.R0,AM.R1,AM.R2,Nat.reduceAdd,Nat.reduceLeDiff,Nat.reduceEqDiff,Int.reduceToNat,Nat.reduceLT,↓reduceIte,Int.reduceEq,Int.reduceLT,Int.reduceLE]
 refine AM.callI_of (usedC Q6 2) ?_
 rintro r h7 ⟨f7,rfl⟩
 have a7 : (findF m4.L 2).isSome = false := by rw [← hm4, ← hm3, ← hm2]; decide +kernel
 rw [a7]
 simp -implicitDefEqProofs (disch := first|decide|assumption|omega|(simp -implicitDefEqProofs only [AM.RN];first|done|omega)|fail) only [↓AM.R0,AM.R1,AM.R2,Nat.reduceAdd,Nat.reduceLeDiff,Nat.reduceEqDiff,Int.reduceToNat,Nat.reduceLT,↓reduceIte,Int.reduceEq,Int.reduceLT,Int.reduceLE]
 subst hQ
 have FF := (F2.trans F3).trans F4
 exact ⟨((((CFr.newH f1 k1 FF).1).trans f5).trans f6).trans f7,rfl⟩
end Go.Proofs.YthillgheddpmhaaDoor.Pg
namespace Go.Proofs.YthillgheddpmhaaDoor.Pg
open Go Go.AM Go.Proofs.YthillgheddpmhaaDoor.AmGE
set_option maxRecDepth 100000
set_option linter.unusedVariables false
set_option linter.unusedSimpArgs false
variable {m : Cm}
def UseB (b : Blk) (x s : Nat) : Prop := ∃ k,b.u.testBit k = true ∧ x = b.a * 64 + k * b.ws ∧ s = b.ws
def InUse (m : Cm) (x s : Nat) : Prop := ∃ b,b ∈ m.bl ∧ UseB b x s
theorem CInv.bit (I : CInv m) {b : Blk} (hb : b ∈ m.bl) {k : Nat} (h : b.u.testBit k = true) : b.c ≠ -2 ∧ 1 ≤ b.ws ∧ k * b.ws + b.ws ≤ b.k * 64 := by
 rcases I.B b hb with ⟨_,e,_⟩ | ⟨e,e2,_⟩ | ⟨c,h1,e,e3,e4⟩
 ·rw [e] at h; simp at h
 ·have hk := (I.bd hb).1
  have hk0 : k = 0 := by
   rcases Nat.eq_zero_or_pos k with q | q
   ·exact q
   ·exfalso
    rw [Nat.testBit_lt_two_pow (Nat.lt_of_le_of_lt e2 (Nat.lt_of_lt_of_le (by decide : 1 < 2 ^ 1) (Nat.pow_le_pow_right (by decide) q)))] at h; cases h
  have hw : b.ws = b.k * 64 := by unfold Blk.ws; rw [if_pos (by omega)]
  rw [hk0,hw]; omega
 ·have ht := tabs c h1
  have hw : b.ws = sizeT.getD c 0 := by unfold Blk.ws; rw [if_neg (by omega), e,Int.toNat_natCast]
  have hlt : k < cellT.getD c 0 := by
   rcases Nat.lt_or_ge k (cellT.getD c 0) with q | q
   ·exact q
   ·rw [Nat.testBit_lt_two_pow (Nat.lt_of_lt_of_le e4 (Nat.pow_le_pow_right (by decide) q))] at h; cases h
  refine ⟨by omega,by omega, ?_⟩
  rw [hw,e3]
  have h5 : (k + 1) * sizeT.getD c 0 ≤ cellT.getD c 0 * sizeT.getD c 0 := Nat.mul_le_mul_right _ (by omega)
  rw [Nat.add_mul,Nat.one_mul] at h5
  omega
theorem use_find (I : CInv m) {b : Blk} (hb : b ∈ m.bl) {k : Nat} (h : b.u.testBit k = true) : m.find ((b.a * 64 + k * b.ws : Nat) : Int) = some (b,k) := by
 obtain ⟨h1,h2,h3⟩ := I.bit hb h
 have hq1 : b.a ≤ (b.a * 64 + k * b.ws) / 64 := by omega
 have hq2 : (b.a * 64 + k * b.ws) / 64 < b.a + b.k := by omega
 unfold Cm.find
 rw [if_neg (by omega), Int.toNat_natCast]
 have hf := I.S.find (s := b.sp) (List.mem_map.2 ⟨b,hb,rfl⟩) (q := (b.a * 64 + k * b.ws) / 64) hq1 hq2
 rw [findF_find] at hf
 cases e : m.bl.find? (fun b' => decide (b'.a ≤ (b.a * 64 + k * b.ws) / 64) && decide ((b.a * 64 + k * b.ws) / 64 < b'.a + b'.k)) with
 | none => rw [e] at hf; cases hf
 | some b' =>
  rw [e] at hf
  simp only [Option.map_some,Option.some.injEq] at hf
  have hb' := List.mem_of_find?_eq_some e
  have : b'.a = b.a := congrArg Sp.a hf
  obtain rfl := I.same hb' hb this
  simp only
  rw [if_neg h1,Nat.add_sub_cancel_left,Nat.mul_div_cancel _ (by omega)]
theorem use_cell (I : CInv m) {b : Blk} (hb : b ∈ m.bl) {k : Nat} (h : b.u.testBit k = true) : m.cell ((b.a * 64 + k * b.ws : Nat) : Int) = some (b,k) := by
 unfold Cm.cell; rw [use_find I hb h]; simp only [h,if_true]
theorem use_bd (I : CInv m) {x s : Nat} (h : InUse m x s) : 1 ≤ s ∧ x + s ≤ m.n * 64 := by
 obtain ⟨b,hb,k,h1,rfl,rfl⟩ := h
 have h2 := I.bit hb h1
 have h3 := I.bd hb
 omega
theorem bits_set {u k : Nat} (h : u.testBit k = false) (j : Nat) : (u ||| 2 ^ k).testBit j = if j = k then !u.testBit k else u.testBit j := by
 rw [Nat.testBit_or,Nat.testBit_two_pow]
 by_cases e : j = k
 ·subst e; simp [h]
 ·rw [if_neg e,decide_eq_false (fun q => e q.symm), Bool.or_false]
theorem bits_clr {u k : Nat} (hu : u < 18446744073709551616) (hk : k < 64) (h : u.testBit k = true) (j : Nat) : (clr u k).testBit j = if j = k then !u.testBit k else u.testBit j := by
 obtain ⟨h1,h2⟩ := clr_bit hu hk
 by_cases e : j = k
 ·subst e; rw [if_pos rfl,h]; exact h1
 ·rw [if_neg e]
  have h3 := h2 h
  have : u.testBit j = ((clr u k) ||| 2 ^ k).testBit j := by unfold clr; rw [h3]
  rw [this,Nat.testBit_or,Nat.testBit_two_pow,decide_eq_false (fun q => e q.symm), Bool.or_false]
theorem pick2_inv (I : CInv m) {p c : Nat} (hp : p < m.pr) (hc : c < 16) (hn : m.held p c = none) : CInv (m.pick2 p c).2 ∧ ∀ a, (m.pick2 p c).1 = some a → ∃ b,b ∈ (m.pick2 p c).2.bl ∧ b.a = a ∧ b.c = (c : Int) ∧ b.w = some p ∧ b.full = false := by
 unfold Cm.pick2
 cases hs : m.spare c with
 | some b =>
  obtain ⟨h1,h2,h3,h4⟩ := spare_mem hs
  refine ⟨I.setW h1 h2 fun q hq => (by cases hq; exact ⟨hp,hn⟩), fun a ha => ?_⟩
  simp only [Option.some.injEq] at ha
  exact ⟨Blk.setW (some p) b,mem_upd.2 (.inl ⟨b,h1,rfl,rfl⟩), ha,h2,rfl,h4⟩
 | none =>
  simp only
  cases hf : m.fit (pageT.getD c 0) with
  | none => exact ⟨I,fun a ha => by cases ha⟩
  | some a =>
   have ht := tabs c hc
   have hfa := (fit_some (by omega) (fun q => f_out m)).1 hf
   have I' : CInv (m.ins ⟨a,pageT.getD c 0,c,0,none⟩) := I.ins (b := ⟨a,pageT.getD c 0,c,0,none⟩) (by show 1 ≤ pageT.getD c 0; omega) hfa (.inr (.inr ⟨c,hc,rfl,rfl,Nat.two_pow_pos _⟩)) rfl
   have hm : (⟨a,pageT.getD c 0,c,0,none⟩ : Blk) ∈ (m.ins ⟨a,pageT.getD c 0,c,0,none⟩).bl := mem_insB.2 (.inl rfl)
   refine ⟨I'.setW hm rfl fun q hq => (by cases hq; exact ⟨hp,held_ins rfl hn⟩), fun a' ha => ?_⟩
   simp only [Option.some.injEq] at ha
   refine ⟨Blk.setW (some p) ⟨a,pageT.getD c 0,c,0,none⟩, mem_upd.2 (.inl ⟨_,hm,rfl,rfl⟩), ha,rfl,rfl, ?_⟩
   show decide (pc 64 0 = cellT.getD (c : Int).toNat 0) = false
   rw [pc_z,Int.toNat_natCast]; exact decide_eq_false (by omega)
theorem pick_inv (I : CInv m) {p c : Nat} (hp : p < m.pr) (hc : c < 16) : CInv (m.pick p c).2 ∧ ∀ a, (m.pick p c).1 = some a → ∃ b,b ∈ (m.pick p c).2.bl ∧ b.a = a ∧ b.c = (c : Int) ∧ b.w = some p ∧ b.full = false := by
 unfold Cm.pick
 cases hh : m.held p c with
 | none => exact pick2_inv I hp hc hh
 | some b =>
  simp only
  obtain ⟨h1,h2,h3⟩ := held_mem hh
  by_cases hf : b.full = true
  ·rw [if_pos hf]
   have I' : CInv (m.upd b.a (Blk.setW none)) := I.setW h1 h2 fun q hq => by cases hq
   exact pick2_inv I' hp hc (held_upd_none I hh)
  ·rw [if_neg hf]
   refine ⟨I,fun a ha => ?_⟩
   simp only [Option.some.injEq] at ha
   exact ⟨b,h1,ha,h2,h3,by simpa using hf⟩
end Go.Proofs.YthillgheddpmhaaDoor.Pg
namespace Go.Proofs.YthillgheddpmhaaDoor.Pg
open Go Go.AM Go.Proofs.YthillgheddpmhaaDoor.AmGE
attribute [local irreducible] AM.wp AM.wpIs AM.wpTr AM.opI AM.gI AM.cI AM.trI AM.callI AM.fnI AM.yldI AM.rangeI AM.rangeC AM.YldP AM.asgQ AM.roundQ AM.rangeQ AM.trG AM.trOp AM.trCall AM.seqC AM.loopI
set_option maxRecDepth 100000
set_option linter.unusedVariables false
set_option linter.unusedSimpArgs false
attribute [local irreducible] pc
variable {m : Cm}
theorem CellQ.inv {h : AHeap} {g : CG} {m : Cm} (Q : CellQ h g m) : CInv m := by obtain ⟨ws,lv,bs,R⟩ := Q; exact R.I
theorem CellQ.bds {h : AHeap} {g : CG} {m : Cm} (Q : CellQ h g m) : m.cells ≤ 262144 := by obtain ⟨ws,lv,bs,R⟩ := Q; exact R.bds.1
theorem CellQ.kn {h : AHeap} {g : CG} {m : Cm} (Q : CellQ h g m) {j : Nat} (hj : h.n ≤ j) : g.K j = 0 := by
 obtain ⟨ws,lv,bs,R⟩ := Q
 cases e : g.K j with
 | zero => rfl
 | succ x => have := R.lt (j := j) (by omega); omega
/-- A law's room beside the law's own lists. -/
structure LawQ (h h' : AHeap) (g : CG) (m : Cm) : Prop where
 f : HFrame h h' [] []
 q : CellQ h' g m
 k : ∀ j,j < h.n → g.K j = 0
theorem LawQ.cl {h h1 h' : AHeap} {g g' : CG} {m m' : Cm} (L : LawQ h h1 g m) (F : CFr h1 h' g g') (Q : CellQ h' g' m') : LawQ h h' g' m' :=
 ⟨⟨Nat.le_trans L.f.n F.n,F.G.trans L.f.g,fun j hj _ => (F.get j (Nat.lt_of_lt_of_le hj L.f.n) (L.k j hj)).trans (L.f.get j hj (by simp)), fun j hj => by simp at hj,fun j hj => by simp at hj⟩, Q,fun j hj => (F.K j (Nat.lt_of_lt_of_le hj L.f.n)).trans (L.k j hj)⟩
theorem LawQ.own {h h1 h' : AHeap} {g : CG} {m : Cm} (L : LawQ h h1 g m) {A A' : List Nat} (F : HFrame h1 h' A A') (d : ∀ j,j ∈ A → g.K j = 0 ∧ h.n ≤ j) : LawQ h h' g m :=
 ⟨⟨Nat.le_trans L.f.n F.n,F.g.trans L.f.g,fun j hj _ => (F.get j (Nat.lt_of_lt_of_le hj L.f.n) (fun hm => by have := (d j hm).2; omega)).trans (L.f.get j hj (by simp)), fun j hj => by simp at hj,fun j hj => by simp at hj⟩, L.q.keepD F fun j hk hm => hk (d j hm).1,L.k⟩
theorem LawQ.tabR {h h' : AHeap} {g : CG} {m : Cm} (L : LawQ h h' g m) (T : TabR h) : TabR h' := T.frame L.f (by simp)
end Go.Proofs.YthillgheddpmhaaDoor.Pg
namespace Go.Proofs.YthillgheddpmhaaDoor.Pg
open Go Go.AM Go.Proofs.YthillgheddpmhaaDoor.AmGE
attribute [local irreducible] AM.wp AM.wpIs AM.wpTr AM.opI AM.gI AM.cI AM.trI AM.callI AM.fnI AM.yldI AM.rangeI AM.rangeC AM.YldP AM.asgQ AM.roundQ AM.rangeQ AM.trG AM.trOp AM.trCall AM.seqC AM.loopI
attribute [local irreducible] pc
set_option maxRecDepth 100000
set_option linter.unusedVariables false
set_option linter.unusedSimpArgs false
end Go.Proofs.YthillgheddpmhaaDoor.Pg
namespace Go.Proofs.YthillgheddpmhaaDoor.Pg
open Go Go.AM Go.Proofs.YthillgheddpmhaaDoor.AmGE
attribute [local irreducible] AM.wp AM.wpIs AM.wpTr AM.opI AM.gI AM.cI AM.trI AM.callI AM.fnI AM.yldI AM.rangeI AM.rangeC AM.YldP AM.asgQ AM.roundQ AM.rangeQ AM.trG AM.trOp AM.trCall AM.seqC AM.loopI
attribute [local irreducible] pc
set_option maxRecDepth 100000
set_option linter.unusedVariables false
set_option linter.unusedSimpArgs false
variable {m : Cm}
/-- One word of the owners. -/
theorem ow_set {ow : List Nat} {q v : Nat} (h : q < ow.length) : (owV ow).take q ++ [.int .i64 (v : Int)] ++ (owV ow).drop (q + 1) = owV (ow.set q v) := by
 have : owV (ow.set q v) = (owV ow).set q (.int .i64 (v : Int)) := by unfold owV; rw [List.map_set]
 rw [this,List.set_eq_take_append_cons_drop,if_pos (by unfold owV; rw [List.length_map]; exact h), List.append_assoc]; rfl
theorem ow_len (ow : List Nat) : (owV ow).length = ow.length := by unfold owV; rw [List.length_map]
/-- What the law keeps of cells: their places (-1: freed), their words. -/
structure Kept (m : Cm) (l : List Int) (wl : List Nat) : Prop where
 len : l.length = wl.length
 use : ∀ (j : Nat) (x : Int), l[j]? = some x → x = -1 ∨ ∃ y s : Nat,x = (y : Int) ∧ wl[j]? = some s ∧ InUse m y s
 ne : ∀ (i j : Nat) (x : Int), l[i]? = some x → l[j]? = some x → x = -1 ∨ i = j
theorem Kept.mono {m m' : Cm} {l : List Int} {wl : List Nat} (K : Kept m l wl) (h : ∀ x s,InUse m x s → InUse m' x s) : Kept m' l wl := ⟨K.len,fun j x hx => by
 rcases K.use j x hx with e | ⟨y,s,e1,e2,e3⟩
 ·exact .inl e
 ·exact .inr ⟨y,s,e1,e2,h y s e3⟩, K.ne⟩
end Go.Proofs.YthillgheddpmhaaDoor.Pg
namespace Go.Proofs.YthillgheddpmhaaDoor.Pg
open Go Go.AM Go.Proofs.YthillgheddpmhaaDoor.AmGE
attribute [local irreducible] AM.wp AM.wpIs AM.wpTr AM.opI AM.gI AM.cI AM.trI AM.callI AM.fnI AM.yldI AM.rangeI AM.rangeC AM.YldP AM.asgQ AM.roundQ AM.rangeQ AM.trG AM.trOp AM.trCall AM.seqC AM.loopI
attribute [local irreducible] pc
set_option maxRecDepth 100000
set_option linter.unusedVariables false
set_option linter.unusedSimpArgs false
variable {m : Cm}
/-- Cells of one class: rows of pages one behind the other,and what the law knows of them. -/
structure OInv (m : Cm) (c nx : Nat) (ow : List Nat) : Prop where
 n : m.n = 512
 pr : m.pr = 4
 cls : ∀ b,b ∈ m.bl → b.c = (c : Int)
 f : ∀ q,m.f q = decide (nx ≤ q ∧ q < 512)
 fu : ∀ b,b ∈ m.bl → b.w = none → b.full = true
 own : ∀ q v,ow[q]? = some v → v ≠ 0 → q < nx ∧ ∀ b,b ∈ m.bl → b.a ≤ q → q < b.a + b.k → b.w = none ∨ b.w = some (v - 1)
 len : ow.length = 512
theorem bool_eq {a b : Bool} (h : a = false ↔ b = false) : a = b := by cases a <;> cases b <;> simp at h ⊢
theorem own_pick2 (I : CInv m) {c nx p : Nat} {ow : List Nat} (O : OInv m c nx ow) (hp : p < 4) (hc : c < 12) (hx : nx + 2 ≤ 512) (hn : m.held p c = none) :
  ∃ b nx', (m.pick2 p c).1 = some b.a ∧ b ∈ (m.pick2 p c).2.bl ∧ b.w = some p ∧ b.full = false ∧ nx' ≤ nx + 2 ∧ OInv (m.pick2 p c).2 c nx' ow ∧ ∀ q v,b.a ≤ q → q < b.a + b.k → ow[q]? = some v → v = 0 ∨ v = p + 1 := by
 have hsp : m.spare c = none := by
  unfold Cm.spare
  rw [List.find?_eq_none]
  intro b hb hh
  unfold Blk.can at hh
  simp only [Bool.and_eq_true,decide_eq_true_eq,Option.isNone_iff_eq_none,Bool.not_eq_true'] at hh
  rw [O.fu b hb hh.2.1] at hh
  cases hh.2.2
 have ht := tabs c (by omega)
 have hpg : pageT.getD c 0 ≤ 2 := by
  have : ∀ c : Fin 12,pageT.getD c.1 0 ≤ 2 := by decide
  exact this ⟨c,hc⟩
 have hfa : FirstAt m.f (pageT.getD c 0) nx := ⟨fun t ht' => by rw [O.f]; exact decide_eq_true (by omega), fun q hq hR => by
  have := hR 0 (by omega)
  rw [O.f] at this
  have := of_decide_eq_true this
  omega⟩
 have hft : m.fit (pageT.getD c 0) = some nx := (fit_some (by omega) (fun q => f_out m)).2 hfa
 have hpk : m.pick2 p c = (some nx, (m.ins ⟨nx,pageT.getD c 0,c,0,none⟩).upd nx (Blk.setW (some p))) := by unfold Cm.pick2; rw [hsp]; simp only [hft]
 rw [hpk]
 have I' : CInv (m.ins ⟨nx,pageT.getD c 0,c,0,none⟩) := I.ins (b := ⟨nx,pageT.getD c 0,c,0,none⟩) (by show 1 ≤ pageT.getD c 0; omega) hfa (.inr (.inr ⟨c,by omega,rfl,rfl,Nat.two_pow_pos _⟩)) rfl
 have hm : (⟨nx,pageT.getD c 0,c,0,none⟩ : Blk) ∈ (m.ins ⟨nx,pageT.getD c 0,c,0,none⟩).bl := mem_insB.2 (.inl rfl)
 have hmem : ∀ x,x ∈ ((m.ins ⟨nx,pageT.getD c 0,c,0,none⟩).upd nx (Blk.setW (some p))).bl → (x = ⟨nx,pageT.getD c 0,c,0,some p⟩) ∨ x ∈ m.bl := fun x hx => by
  rcases mem_upd.1 hx with ⟨y,hy,e,rfl⟩ | ⟨hy,e⟩
  ·obtain rfl := I'.same hy hm e
   exact .inl rfl
  ·rcases mem_insB.1 hy with rfl | q
   ·exact absurd rfl e
   ·exact .inr q
 have hnd : (⟨nx,pageT.getD c 0,c,0,some p⟩ : Blk).full = false := by
  show decide (pc 64 0 = cellT.getD (c : Int).toNat 0) = false
  rw [pc_z,Int.toNat_natCast]; exact decide_eq_false (by omega)
 refine ⟨⟨nx,pageT.getD c 0,c,0,some p⟩, nx + pageT.getD c 0,rfl,mem_upd.2 (.inl ⟨_,hm,rfl,rfl⟩), rfl,hnd,by omega, ⟨O.n,O.pr,fun b hb => ?_,fun q => ?_,fun b hb hw => ?_,fun q v hq hv => ?_,O.len⟩, fun q v h1 h2 hq => ?_⟩
 ·rcases hmem b hb with rfl | q
  ·rfl
  ·exact O.cls b q
 ·rw [upd_f (g := Blk.setW (some p)) (fun _ => ⟨rfl,rfl⟩)]
  have h1 : (m.ins ⟨nx,pageT.getD c 0,c,0,none⟩).f q = if nx ≤ q ∧ q < nx + pageT.getD c 0 then false else m.f q := by
   rcases Nat.lt_or_ge q m.n with hq | hq
   ·by_cases z : nx ≤ q ∧ q < nx + pageT.getD c 0
    ·rw [if_pos z]; exact (f_false (m.ins ⟨nx,pageT.getD c 0,c,0,none⟩) hq).2 ⟨_,hm,z⟩
    ·rw [if_neg z]
     have h1 := f_false (m.ins ⟨nx,pageT.getD c 0,c,0,none⟩) (q := q) hq
     have h2 := f_false m hq
     have : (m.ins ⟨nx,pageT.getD c 0,c,0,none⟩).f q = false ↔ m.f q = false := by
      rw [h1,h2]
      constructor
      ·rintro ⟨x,hx,h⟩
       rcases mem_insB.1 hx with rfl | e
       ·exact absurd h z
       ·exact ⟨x,e,h⟩
      ·rintro ⟨x,hx,h⟩; exact ⟨x,mem_insB.2 (.inr hx), h⟩
     exact bool_eq this
   ·rw [f_out _ (show (m.ins ⟨nx,pageT.getD c 0,c,0,none⟩).n ≤ q from hq), f_out m hq]; split <;> rfl
  rw [h1,O.f]
  by_cases z : nx ≤ q ∧ q < nx + pageT.getD c 0
  ·rw [if_pos z]; symm; exact decide_eq_false (by omega)
  ·rw [if_neg z]; exact decide_eq_decide.2 (by omega)
 ·rcases hmem b hb with rfl | q
  ·cases hw
  ·exact O.fu b q hw
 ·obtain ⟨z1,z2⟩ := O.own q v hq hv
  refine ⟨by omega,fun b hb h1 h2 => ?_⟩
  rcases hmem b hb with rfl | e
  ·have : nx ≤ q := h1; omega
  ·exact z2 b e h1 h2
 ·by_cases e : v = 0
  ·exact .inl e
  ·have := (O.own q v hq e).1
   have h3 : nx ≤ q := h1
   omega
theorem own_pick (I : CInv m) {c nx p : Nat} {ow : List Nat} (O : OInv m c nx ow) (hp : p < 4) (hc : c < 12) (hx : nx + 2 ≤ 512) :
  ∃ b nx', (m.pick p c).1 = some b.a ∧ b ∈ (m.pick p c).2.bl ∧ b.w = some p ∧ b.full = false ∧ nx' ≤ nx + 2 ∧ OInv (m.pick p c).2 c nx' ow ∧ ∀ q v,b.a ≤ q → q < b.a + b.k → ow[q]? = some v → v = 0 ∨ v = p + 1 := by
 unfold Cm.pick
 cases hh : m.held p c with
 | none => exact own_pick2 I O hp hc hx hh
 | some b =>
  obtain ⟨h1,h2,h3⟩ := held_mem hh
  simp only
  by_cases hf : b.full = true
  ·rw [if_pos hf]
   have I' : CInv (m.upd b.a (Blk.setW none)) := I.setW h1 h2 fun q hq => by cases hq
   have hmem : ∀ x,x ∈ (m.upd b.a (Blk.setW none)).bl → ∃ y,y ∈ m.bl ∧ y.a = x.a ∧ y.k = x.k ∧ y.c = x.c ∧ (x = y ∨ y = b ∧ x = Blk.setW none b) := fun x hx => by
    rcases mem_upd.1 hx with ⟨y,hy,e,rfl⟩ | ⟨hy,e⟩
    ·obtain rfl := I.same hy h1 e
     exact ⟨y,hy,rfl,rfl,rfl, .inr ⟨rfl,rfl⟩⟩
    ·exact ⟨x,hy,rfl,rfl,rfl, .inl rfl⟩
   refine own_pick2 I' ⟨O.n,O.pr,fun x hx => ?_,fun q => ?_,fun x hx hw => ?_,fun q v hq hv => ?_,O.len⟩ hp hc hx (held_upd_none I hh)
   ·obtain ⟨y,hy,_,_,e,_⟩ := hmem x hx
    rw [← e]; exact O.cls y hy
   ·rw [upd_f (g := Blk.setW none) (fun _ => ⟨rfl,rfl⟩)]; exact O.f q
   ·obtain ⟨y,hy,_,_,_,rfl | ⟨rfl,rfl⟩⟩ := hmem x hx
    ·exact O.fu x hy hw
    ·exact hf
   ·obtain ⟨z1,z2⟩ := O.own q v hq hv
    refine ⟨z1,fun x hx q1 q2 => ?_⟩
    obtain ⟨y,hy,e1,e2,_,rfl | ⟨rfl,rfl⟩⟩ := hmem x hx
    ·exact z2 x hy q1 q2
    ·exact .inl rfl
  ·rw [if_neg hf]
   refine ⟨b,nx,rfl,h1,h3,by simpa using hf,by omega,O,fun q v q1 q2 hq => ?_⟩
   by_cases e : v = 0
   ·exact .inl e
   ·rcases (O.own q v hq e).2 b h1 q1 q2 with z | z
    ·rw [h3] at z; cases z
    ·rw [h3] at z
     simp only [Option.some.injEq] at z
     exact .inr (by omega)
theorem clr_set {u k : Nat} (hu : u < 18446744073709551616) (hk : k < 64) (h : u.testBit k = false) : clr (u ||| 2 ^ k) k = u := by
 have hu' : u ||| 2 ^ k < 18446744073709551616 := Nat.or_lt_two_pow (n := 64) hu (pow64 hk)
 have ht : (u ||| 2 ^ k).testBit k = true := by rw [bits_set h,if_pos rfl,h]; rfl
 apply Nat.eq_of_testBit_eq
 intro j
 rw [bits_clr hu' hk ht]
 by_cases e : j = k
 ·subst e; rw [if_pos rfl,ht,h]; rfl
 ·rw [if_neg e,bits_set h,if_neg e]
theorem upd_upd (I : CInv m) {b : Blk} (hb : b ∈ m.bl) (u : Nat) : (m.upd b.a (Blk.setU u)).upd b.a (Blk.setU b.u) = m := by
 have : ((m.bl.map fun x => if x.a = b.a then Blk.setU u x else x).map fun x => if x.a = b.a then Blk.setU b.u x else x) = m.bl := by
  rw [List.map_map]
  conv => rhs; rw [← List.map_id m.bl]
  refine List.map_congr_left fun x hx => ?_
  simp only [Function.comp,id]
  by_cases e : x.a = b.a
  ·obtain rfl := I.same hx hb e
   rw [if_pos rfl,if_pos (show (Blk.setU u x).a = x.a from rfl)]; rfl
  ·rw [if_neg e,if_neg e]
 unfold Cm.upd
 rw [this]
/-- A turn: what is answered,what comes of freeing it,and of asking again. -/
theorem own_turn (I : CInv m) {c nx p w : Nat} {ow : List Nat} (O : OInv m c nx ow) (hp : p < 4) (hw : 1 ≤ w ∧ w ≤ 24) (hcw : c = clsOf w) (hx : nx + 2 ≤ 512) :
  ∃ (x s : Nat) (m2 mp : Cm) (nx' : Nat), m.alloc p w = (((x : Int), 0), m2) ∧ InUse m2 x s ∧ x < 32768 ∧ nx' ≤ nx + 2 ∧ m2.cells = m.cells + 1 ∧ (∀ v,ow[x / 64]? = some v → v = 0 ∨ v = p + 1) ∧ OInv m2 c nx' (ow.set (x / 64) (p + 1)) ∧ m2.free x = (0,mp) ∧ mp.alloc p w = (((x : Int), 0), m2) := by
 obtain ⟨hc16,hcls⟩ := cls_ok w (by omega) (by omega)
 have hc12 : c < 12 := by
  have : ∀ w : Fin 25,1 ≤ w.1 → clsOf w.1 < 12 := by decide
  rw [hcw]; exact this ⟨w,by omega⟩ hw.1
 have hpr : p < m.pr := by rw [O.pr]; exact hp
 obtain ⟨I3,hb3⟩ := pick_inv I hpr hc16
 obtain ⟨b,nx', e1,hb,hbw,hbf,hnx,O3,hv3⟩ := own_pick I O hp hc12 hx
 have c3 := (pick_cw I hpr hc16).1
 have al : m.alloc p w = match m.pick p (clsOf w) with
   | (none,m') => ((0,3), m')
   | (some a,m') => match m'.get a with
    | some b => (((a * 64 + lowZ b.u * b.ws : Nat), 0), m'.upd a (Blk.setU (b.u ||| 2 ^ lowZ b.u)))
    | none => ((0,0), m') := by
  have hpr4 := O.pr
  unfold Cm.alloc; rw [if_neg (by omega), if_neg (by omega), if_neg (by omega), Int.toNat_natCast,Int.toNat_natCast]
  try rfl
 rw [hcw] at *
 have e2 : m.pick p (clsOf w) = (some b.a, (m.pick p (clsOf w)).2) := by rw [← e1]
 rw [e2] at al
 generalize (m.pick p (clsOf w)).2 = mp at *
 have hg := I3.get hb
 simp only [hg] at al
 have hbc := O3.cls b hb
 obtain ⟨d,hd1,hd2,hd3,hd4⟩ := I3.cls hb (by omega)
 have hdw : d = clsOf w := by omega
 have ht := tabs d hd1
 have hnf : pc 64 b.u ≠ cellT.getD d 0 := fun e2 => by
  unfold Blk.full at hbf
  rw [hd2,Int.toNat_natCast,decide_eq_true e2] at hbf; cases hbf
 obtain ⟨z1,z2,z3⟩ := lowZ_ok (by omega) hd4 hnf
 have hk64 : lowZ b.u < 64 := by omega
 have hu2 : b.u ||| 2 ^ lowZ b.u < 2 ^ cellT.getD d 0 := Nat.or_lt_two_pow hd4 (Nat.pow_lt_pow_right (by decide) z1)
 have I5 : CInv (mp.upd b.a (Blk.setU (b.u ||| 2 ^ lowZ b.u))) := I3.setU hb (.inr ⟨d,hd1,hd2,hu2⟩)
 have hm2 : Blk.setU (b.u ||| 2 ^ lowZ b.u) b ∈ (mp.upd b.a (Blk.setU (b.u ||| 2 ^ lowZ b.u))).bl := mem_upd.2 (.inl ⟨b,hb,rfl,rfl⟩)
 have hbit : (Blk.setU (b.u ||| 2 ^ lowZ b.u) b).u.testBit (lowZ b.u) = true := by
  show (b.u ||| 2 ^ lowZ b.u).testBit (lowZ b.u) = true
  rw [bits_set z2,if_pos rfl,z2]; rfl
 have hfind : (mp.upd b.a (Blk.setU (b.u ||| 2 ^ lowZ b.u))).find ((b.a * 64 + lowZ b.u * b.ws : Nat) : Int) = some (Blk.setU (b.u ||| 2 ^ lowZ b.u) b,lowZ b.u) := use_find I5 hm2 hbit
 have hcell : (mp.upd b.a (Blk.setU (b.u ||| 2 ^ lowZ b.u))).cell ((b.a * 64 + lowZ b.u * b.ws : Nat) : Int) = some (Blk.setU (b.u ||| 2 ^ lowZ b.u) b,lowZ b.u) := use_cell I5 hm2 hbit
 have huse : InUse (mp.upd b.a (Blk.setU (b.u ||| 2 ^ lowZ b.u))) (b.a * 64 + lowZ b.u * b.ws) b.ws := ⟨_,hm2,lowZ b.u,hbit,rfl,rfl⟩
 have hubd := use_bd I5 huse
 obtain ⟨_,_,n,hn1,hn2,hn3,_⟩ := find_some hfind
 have hn4 : n = b.a * 64 + lowZ b.u * b.ws := by omega
 have hn2' : b.a ≤ (b.a * 64 + lowZ b.u * b.ws) / 64 := by rw [← hn4]; exact hn2
 have hn3' : (b.a * 64 + lowZ b.u * b.ws) / 64 < b.a + b.k := by rw [← hn4]; exact hn3
 have hbb := I3.bd hb
 have hmn := O3.n
 have hc5 := cells_upd I3 hb (b.u ||| 2 ^ lowZ b.u)
 rw [pc_set 64 _ _ hk64 z2] at hc5
 have hu64 := I3.u64 hb
 have hclr := clr_set hu64 hk64 z2
 have hfr : (mp.upd b.a (Blk.setU (b.u ||| 2 ^ lowZ b.u))).free ((b.a * 64 + lowZ b.u * b.ws : Nat) : Int) = (0,mp) := by
  unfold Cm.free
  rw [hcell]
  simp only
  have e3 : (Blk.setU (b.u ||| 2 ^ lowZ b.u) b).u = b.u ||| 2 ^ lowZ b.u := rfl
  have e4 : (Blk.setU (b.u ||| 2 ^ lowZ b.u) b).a = b.a := rfl
  have e5 : (Blk.setU (b.u ||| 2 ^ lowZ b.u) b).ws = b.ws := rfl
  rw [e3,e4,e5,hclr,if_pos rfl,upd_upd I3 hb]
  unfold Cm.drop
  rw [if_neg]
  rintro ⟨_,hh⟩
  have : b.w = none := hh
  rw [hbw] at this; cases this
 have hheld : mp.held p (clsOf w) = some b := I3.held hb hbc hbw
 have hpk : mp.pick p (clsOf w) = (some b.a,mp) := by unfold Cm.pick; rw [hheld]; simp only [hbf]; rfl
 have hal2 : mp.alloc p w = ((((b.a * 64 + lowZ b.u * b.ws : Nat) : Int), 0), mp.upd b.a (Blk.setU (b.u ||| 2 ^ lowZ b.u))) := by
  have hpr4 := O3.pr
  unfold Cm.alloc; rw [if_neg (by omega), if_neg (by omega), if_neg (by omega), Int.toNat_natCast,Int.toNat_natCast,hpk]
  simp only [hg]
 refine ⟨b.a * 64 + lowZ b.u * b.ws,b.ws,mp.upd b.a (Blk.setU (b.u ||| 2 ^ lowZ b.u)), mp,nx', al,huse, ?_,hnx,by omega,fun v hv => hv3 _ v hn2' hn3' hv, ⟨O3.n,O3.pr,fun x hx => ?_,fun q => ?_,fun x hx hw => ?_,fun q v hq hv => ?_,by rw [List.length_set]; exact O3.len⟩, hfr,hal2⟩
 ·have : (mp.upd b.a (Blk.setU (b.u ||| 2 ^ lowZ b.u))).n = 512 := O3.n
  omega
 ·rcases mem_upd.1 hx with ⟨y,hy,e,rfl⟩ | ⟨hy,e⟩
  ·exact O3.cls y hy
  ·exact O3.cls x hy
 ·rw [upd_f (g := Blk.setU _) (fun _ => ⟨rfl,rfl⟩)]; exact O3.f q
 ·rcases mem_upd.1 hx with ⟨y,hy,e,rfl⟩ | ⟨hy,e⟩
  ·obtain rfl := I3.same hy hb e
   have : y.w = none := hw
   rw [hbw] at this; cases this
  ·exact O3.fu x hy hw
 ·have hback : ∀ x,x ∈ (mp.upd b.a (Blk.setU (b.u ||| 2 ^ lowZ b.u))).bl → ∃ y,y ∈ mp.bl ∧ y.a = x.a ∧ y.k = x.k ∧ y.w = x.w := fun x hx => by
   rcases mem_upd.1 hx with ⟨y,hy,e,rfl⟩ | ⟨hy,e⟩
   ·exact ⟨y,hy,rfl,rfl,rfl⟩
   ·exact ⟨x,hy,rfl,rfl,rfl⟩
  by_cases e : (b.a * 64 + lowZ b.u * b.ws) / 64 = q
  ·subst e
   rw [List.getElem?_set_self (by rw [O3.len]; omega)] at hq
   cases hq
   constructor
   ·have h1 := (f_false mp (q := (b.a * 64 + lowZ b.u * b.ws) / 64) (by omega)).2 ⟨b,hb,hn2', hn3'⟩
    rw [O3.f] at h1
    have := of_decide_eq_false h1
    omega
   ·intro x hx q1 q2
    obtain ⟨y,hy,e1,e2,e3⟩ := hback x hx
    have : y.sp = b.sp := sp_uniq I3.S.srt (List.mem_map.2 ⟨y,hy,rfl⟩) (List.mem_map.2 ⟨b,hb,rfl⟩) (q := (b.a * 64 + lowZ b.u * b.ws) / 64) (by show y.a ≤ _; omega) (by show _ < y.a + y.k; omega) hn2' hn3'
    have hya : y.a = b.a := congrArg Sp.a this
    obtain rfl := I3.same hy hb hya
    rw [← e3,hbw]; exact .inr rfl
  ·rw [List.getElem?_set_ne e] at hq
   obtain ⟨w1,w2⟩ := O3.own q v hq hv
   refine ⟨w1,fun x hx q1 q2 => ?_⟩
   obtain ⟨y,hy,e1,e2,e3⟩ := hback x hx
   rw [← e3]; exact w2 y hy (by omega) (by omega)
end Go.Proofs.YthillgheddpmhaaDoor.Pg
namespace Go.Proofs.YthillgheddpmhaaDoor.Pg
open Go Go.AM Go.Proofs.YthillgheddpmhaaDoor.AmGE
attribute [local irreducible] AM.wp AM.wpIs AM.wpTr AM.opI AM.gI AM.cI AM.trI AM.callI AM.fnI AM.yldI AM.rangeI AM.rangeC AM.YldP AM.asgQ AM.roundQ AM.rangeQ AM.trG AM.trOp AM.trCall AM.seqC AM.loopI
attribute [local irreducible] pc
set_option maxRecDepth 100000
set_option linter.unusedVariables false
set_option linter.unusedSimpArgs false
theorem ow_ix {ow : List Nat} {q : Nat} (h : q < ow.length) : ∃ v,ow[q]? = some v := ⟨_,List.getElem?_eq_getElem h⟩
def lastV (a b c d : Int) : List AVal := [.int .i64 a, .int .i64 b, .int .i64 c, .int .i64 d]
def lastL (ls : List Int) : List AVal := ls.map (AVal.int .i64 ·)
theorem lastL_set {ls : List Int} {q : Nat} {v : Int} (h : q < ls.length) : (lastL ls).take q ++ [.int .i64 v] ++ (lastL ls).drop (q + 1) = lastL (ls.set q v) := by
 have : lastL (ls.set q v) = (lastL ls).set q (.int .i64 v) := by unfold lastL; rw [List.map_set]
 rw [this,List.set_eq_take_append_cons_drop,if_pos (by unfold lastL; rw [List.length_map]; exact h), List.append_assoc]; rfl
theorem bs4 (e : Env) (h : AHeap) : aop e h (.buildSlice 1 4 [.int .i64 0] [(0, .val (.int .i64 (-1))), (1, .val (.int .i64 (-1))), (2, .val (.int .i64 (-1))), (3, .val (.int .i64 (-1)))]) = some (.sl h.n 0 0 4 1,h.push (.cells 0 false [.int .i64 (-1), .int .i64 (-1), .int .i64 (-1), .int .i64 (-1)])) := rfl
set_option maxHeartbeats 16000000 in
theorem lawCellOwn {h : AHeap} (T : TabR h) {v1 : AVal} {w : Nat} (hw : w ≤ 255) {zs : List Int} (s1 : SlIn h 1 (fun x : Int => [.int .u8 x]) v1 zs) (hzs : ∀ x,x ∈ zs → 0 ≤ x ∧ x ≤ 255) (hl1 : zs.length ≤ 9223372036854775807) :
  CallP AP 11 [.int .u8 (w : Int), v1] h fun r h' => HFrame h h' [] [] ∧ r = .bool true := by
 refine callP (rfl : Tr.get AP 11 = some A11) ?_
 generalize hQ : (fun (r : AVal) (h' : AHeap) => _) = Q
 simp -implicitDefEqProofs (disch := first|decide|assumption|omega|(simp -implicitDefEqProofs only [AM.RN];first|done|omega)|fail) only [↓AM.R0,AM.R1,AM.R2,Nat.reduceAdd,Nat.reduceLeDiff,Nat.reduceEqDiff,Int.reduceToNat,Nat.reduceLT,↓reduceIte,Int.reduceEq,Int.reduceLT,Int.reduceLE]
 refine AM.callI_of (newC T 512 4) ?_
 rintro r h1 (⟨c,_⟩ | ⟨_,_,_,_,g,f1,k1,Q1,rfl⟩)
 ·exact absurd ⟨by decide,by decide,by decide,by decide⟩ c
 have e1 : (Cm.zero (512 : Int).toNat (4 : Int).toNat) = Cm.zero 512 4 := rfl
 rw [e1] at Q1
 have L1 : LawQ h h1 g (Cm.zero 512 4) := ⟨f1,Q1,fun j hj => by
  cases e : g.K j with
  | zero => rfl
  | succ x => have := k1 j (by omega); omega⟩
 have T1 := L1.tabR T
 simp -implicitDefEqProofs (disch := first|decide|assumption|omega|(simp -implicitDefEqProofs only [AM.RN];first|done|omega)|fail) only [↓AM.R0,AM.R1,AM.R2,Nat.reduceAdd,Nat.reduceLeDiff,Nat.reduceEqDiff,Int.reduceToNat,Nat.reduceLT,↓reduceIte,Int.reduceEq,Int.reduceLT,Int.reduceLE]
 refine AM.callI_of (awakeC T1) ?_
 rintro r h2 ⟨f2,rfl⟩
 have L2 := L1.own f2 (by simp)
 clear L1 Q1 T1 f1 k1 e1
 generalize hc : g.c = c
 have w1 : (w : Int).tmod 24 = ((w % 24 : Nat) : Int) := rfl
 have w2 : IntKind.i64.wrap ((w % 24 : Nat) : Int) = ((w % 24 : Nat) : Int) := wrap64 (by omega) (by omega)
 have w3 : IntKind.i64.wrap (((w % 24 : Nat) : Int) + 1) = ((w % 24 + 1 : Nat) : Int) := (wrap64 (by omega) (by omega)).trans (by omega)
 have hwd : 1 ≤ w % 24 + 1 ∧ w % 24 + 1 ≤ 24 := by omega
 generalize w % 24 + 1 = wd at *
 have ms := msI (h := h2) (k := 512) (by decide)
 have em : ((512 : Nat) : Int) = 512 := rfl
 rw [em] at ms
 have fo := ((HFrame.refl (h := h2) (F := []) (by simp)).pushTmp (.cells 0 false (owV (List.replicate 512 0)))).pushTmp (.cells 0 false (lastV (-1) (-1) (-1) (-1)))
 have go : ((h2.push (.cells 0 false (owV (List.replicate 512 0)))).push (.cells 0 false (lastV (-1) (-1) (-1) (-1)))).get h2.n = .cells 0 false (owV (List.replicate 512 0)) := by rw [AHeap.get_push_ne _ _ (by simp), AHeap.get_push_same]
 have gl : ((h2.push (.cells 0 false (owV (List.replicate 512 0)))).push (.cells 0 false (lastV (-1) (-1) (-1) (-1)))).get (h2.n + 1) = .cells 0 false (lastV (-1) (-1) (-1) (-1)) := AHeap.get_push_same _ _
 have no : ((h2.push (.cells 0 false (owV (List.replicate 512 0)))).push (.cells 0 false (lastV (-1) (-1) (-1) (-1)))).n = h2.n + 2 := by simp
 have L3 := L2.own fo (by simp)
 have ko := L2.q.kn (j := h2.n) (Nat.le_refl _)
 have kl := L2.q.kn (j := h2.n + 1) (by omega)
 have ho := L2.f.n
 have wm : min (zs.length : Int) 200 = ((min zs.length 200 : Nat) : Int) := by omega
 obtain ⟨v2,e2,s2⟩ := s1.uptoAt (fun _ => rfl) (m := min zs.length 200) (by omega) .i64 (h1 := (h2.push (.cells 0 false (owV (List.replicate 512 0)))).push (.cells 0 false (lastV (-1) (-1) (-1) (-1)))) (fun j hj => L3.f.get j hj (by simp))
 have hl2 : (zs.take (min zs.length 200)).length = min zs.length 200 := by rw [List.length_take]; omega
 simp only [lastV] at e2 go gl no L3
 simp -implicitDefEqProofs (disch := first|decide|assumption|omega|(simp -implicitDefEqProofs only [AM.RN];first|done|omega)|fail) only [↓AM.R0,AM.R1,AM.R2,Nat.reduceAdd,Nat.reduceLeDiff,Nat.reduceEqDiff,Int.reduceToNat,Nat.reduceLT,↓reduceIte,Int.reduceEq,Int.reduceLT,Int.reduceLE,s1.len,ms,bs4,w1,w2,w3,wm,e2,s2.len,hl2]
 generalize hoid : h2.n = oid at *
 generalize hhh : ((h2.push (.cells 0 false (owV (List.replicate 512 0)))).push (.cells 0 false [.int .i64 (-1), .int .i64 (-1), .int .i64 (-1), .int .i64 (-1)])) = h3 at *
 generalize hm : min zs.length 200 = mt at *
 have hmt : mt ≤ 200 := by omega
 refine AM.loopI_of (fun k e h' => ∃ (i nx : Nat) (m : Cm) (g : CG) (ow : List Nat) (ls : List Int), k + i = mt ∧ e.val 1 = v1 ∧ e.val 5 = .ptr c 0 0 ∧ e.val 7 = .int .i64 (wd : Int) ∧ e.val 8 = .sl oid 0 0 512 1 ∧ e.val 9 = .sl (oid + 1) 0 0 4 1 ∧ e.val 45 = v2 ∧ e.val 46 = .int .i64 (mt : Int) ∧ e.val 47 = .int .i64 (i : Int) ∧
  g.c = c ∧ LawQ h h' g m ∧ oid + 1 < h'.n ∧ g.K oid = 0 ∧ g.K (oid + 1) = 0 ∧ h'.get oid = .cells 0 false (owV ow) ∧ h'.get (oid + 1) = .cells 0 false (lastL ls) ∧ ls.length = 4 ∧ OInv m (clsOf wd) nx ow ∧ nx ≤ 2 * i ∧ m.cells = i) mt ?_ ?_
 ·refine ⟨0,0,Cm.zero 512 4,g,List.replicate 512 0, [-1, -1, -1, -1],by omega, ?_, ?_, ?_, ?_, ?_, ?_, ?_, ?_,hc,L3,by omega,ko,kl,go,gl,rfl, ⟨rfl,rfl,fun b hb => by simp [Cm.zero] at hb,fun q => by unfold Cm.f Cm.zero; simp,fun b hb => by simp [Cm.zero] at hb,fun q v hq hv => ?_,List.length_replicate ..⟩, by omega,rfl⟩
  ·simp -implicitDefEqProofs (disch := first|decide|assumption|omega|(simp -implicitDefEqProofs only [AM.RN];first|done|omega)|fail) only [↓AM.R0,AM.R1,AM.R2,Nat.reduceAdd,Nat.reduceLeDiff,Nat.reduceEqDiff,Int.reduceToNat,Nat.reduceLT,↓reduceIte,Int.reduceEq,Int.reduceLT,Int.reduceLE]
  ·simp -implicitDefEqProofs (disch := first|decide|assumption|omega|(simp -implicitDefEqProofs only [AM.RN];first|done|omega)|fail) only [↓AM.R0,AM.R1,AM.R2,Nat.reduceAdd,Nat.reduceLeDiff,Nat.reduceEqDiff,Int.reduceToNat,Nat.reduceLT,↓reduceIte,Int.reduceEq,Int.reduceLT,Int.reduceLE]
  ·simp -implicitDefEqProofs (disch := first|decide|assumption|omega|(simp -implicitDefEqProofs only [AM.RN];first|done|omega)|fail) only [↓AM.R0,AM.R1,AM.R2,Nat.reduceAdd,Nat.reduceLeDiff,Nat.reduceEqDiff,Int.reduceToNat,Nat.reduceLT,↓reduceIte,Int.reduceEq,Int.reduceLT,Int.reduceLE]
  ·simp -implicitDefEqProofs (disch := first|decide|assumption|omega|(simp -implicitDefEqProofs only [AM.RN];first|done|omega)|fail) only [↓AM.R0,AM.R1,AM.R2,Nat.reduceAdd,Nat.reduceLeDiff,Nat.reduceEqDiff,Int.reduceToNat,Nat.reduceLT,↓reduceIte,Int.reduceEq,Int.reduceLT,Int.reduceLE]
  ·simp -implicitDefEqProofs (disch := first|decide|assumption|omega|(simp -implicitDefEqProofs only [AM.RN];first|done|omega)|fail) only [↓AM.R0,AM.R1,AM.R2,Nat.reduceAdd,Nat.reduceLeDiff,Nat.reduceEqDiff,Int.reduceToNat,Nat.reduceLT,↓reduceIte,Int.reduceEq,Int.reduceLT,Int.reduceLE]
  ·simp -implicitDefEqProofs (disch := first|decide|assumption|omega|(simp -implicitDefEqProofs only [AM.RN];first|done|omega)|fail) only [↓AM.R0,AM.R1,AM.R2,Nat.reduceAdd,Nat.reduceLeDiff,Nat.reduceEqDiff,Int.reduceToNat,Nat.reduceLT,↓reduceIte,Int.reduceEq,Int.reduceLT,Int.reduceLE]
  ·simp -implicitDefEqProofs (disch := first|decide|assumption|omega|(simp -implicitDefEqProofs only [AM.RN];first|done|omega)|fail) only [↓AM.R0,AM.R1,AM.R2,Nat.reduceAdd,Nat.reduceLeDiff,Nat.reduceEqDiff,Int.reduceToNat,Nat.reduceLT,↓reduceIte,Int.reduceEq,Int.reduceLT,Int.reduceLE]
  ·simp -implicitDefEqProofs (disch := first|decide|assumption|omega|(simp -implicitDefEqProofs only [AM.RN];first|done|omega)|fail) only [↓AM.R0,AM.R1,AM.R2,Nat.reduceAdd,Nat.reduceLeDiff,Nat.reduceEqDiff,Int.reduceToNat,Nat.reduceLT,↓reduceIte,Int.reduceEq,Int.reduceLT,Int.reduceLE]; rfl
  ·rw [List.getElem?_replicate] at hq
   split at hq
   ·cases hq; exact absurd rfl hv
   ·cases hq
 clear L2 L3 f2 hc fo go gl no ko kl ms em e2 hhh hoid
 clear g
 rintro k e h3 ⟨i,nx,m,g,ow,ls,hk,y1,y5,y7,y8,y9,y45,y46,y47,hc,L3,lo,ko,kl,go,gl,hls,O,hnx,hcl⟩
 have T3 := L3.tabR T
 have I := (L3.q).inv
 simp -implicitDefEqProofs (disch := first|decide|assumption|omega|(simp -implicitDefEqProofs only [AM.RN];first|done|omega)|fail) only [↓AM.R0,AM.R1,AM.R2,Nat.reduceAdd,Nat.reduceLeDiff,Nat.reduceEqDiff,Int.reduceToNat,Nat.reduceLT,↓reduceIte,Int.reduceEq,Int.reduceLT,Int.reduceLE,y46,y47]
 refine AM.cI_bool (fun hb => ?_) (fun hb => ?_)
 rotate_left
 ·have hi : i = mt := by simp only [decide_eq_false_iff_not] at hb; omega
  rw [← hc] at y5
  simp -implicitDefEqProofs (disch := first|decide|assumption|omega|(simp -implicitDefEqProofs only [AM.RN];first|done|omega)|fail) only [↓AM.R0,AM.R1,AM.R2,Nat.reduceAdd,Nat.reduceLeDiff,Nat.reduceEqDiff,Int.reduceToNat,Nat.reduceLT,↓reduceIte,Int.reduceEq,Int.reduceLT,Int.reduceLE,y5]
  refine AM.callI_of (countsC L3.q) ?_
  rintro r h4 ⟨f4,rfl⟩
  have d1 : decide (((m.cells : Nat) : Int) = min (zs.length : Int) 200) = true := decide_eq_true (by omega)
  have d4 : decide (((4 : Nat) : Int) = 4) = true := rfl
  simp -implicitDefEqProofs (disch := first|decide|assumption|omega|(simp -implicitDefEqProofs only [AM.RN];first|done|omega)|fail) only [↓AM.R0,AM.R1,AM.R2,Nat.reduceAdd,Nat.reduceLeDiff,Nat.reduceEqDiff,Int.reduceToNat,Nat.reduceLT,↓reduceIte,Int.reduceEq,Int.reduceLT,Int.reduceLE,y1,y9,s1.len,d1,d4]
  subst hQ
  exact ⟨(L3.own f4 (by simp)).f,rfl⟩
 simp only [decide_eq_true_eq] at hb
 obtain ⟨x,hx⟩ : ∃ x, (zs.take mt)[i]? = some x := ⟨_,List.getElem?_eq_getElem (by omega)⟩
 obtain ⟨hx0,hx1⟩ := hzs x (List.mem_of_mem_take (List.mem_of_getElem? hx))
 obtain ⟨x,rfl⟩ : ∃ a : Nat,x = a := ⟨x.toNat,by omega⟩
 obtain ⟨id,g', off,vs,ro,x1,x2,x3,x4⟩ := ((s2.keep L3.f).rd hx).ix1 hx .i64
 have u1 : (x : Int).tmod 4 = ((x % 4 : Nat) : Int) := rfl
 have u2 : IntKind.i64.wrap ((x % 4 : Nat) : Int) = ((x % 4 : Nat) : Int) := wrap64 (by omega) (by omega)
 have u3 : (x : Int).tmod 3 = ((x % 3 : Nat) : Int) := rfl
 have u4 : IntKind.i64.wrap ((i : Int) + 1) = ((i + 1 : Nat) : Int) := (wrap64 (by omega) (by omega)).trans (by omega)
 have hp4 : x % 4 < 4 := Nat.mod_lt _ (by decide)
 obtain ⟨at', s,m2,mp,nx', al1,huse,hat,hnx', hcells,hov,O2,hfr,al2⟩ := own_turn I (c := clsOf wd) (p := x % 4) (w := wd) O hp4 hwd rfl (by omega)
 rw [← hc] at y5
 generalize x % 4 = p at *
 simp -implicitDefEqProofs (disch := first|decide|assumption|omega|(simp -implicitDefEqProofs only [AM.RN];first|done|omega)|fail) only [↓AM.R0,AM.R1,AM.R2,Nat.reduceAdd,Nat.reduceLeDiff,Nat.reduceEqDiff,Int.reduceToNat,Nat.reduceLT,↓reduceIte,Int.reduceEq,Int.reduceLT,Int.reduceLE,y1,y5,y7,y8,y9,y45,y46,y47,x1,x2,x4,u1,u2]
 refine AM.callI_of (allocC T3 L3.q _ _) ?_
 rintro r h4 ⟨g4,F4,Q4,rfl⟩
 rw [al1] at Q4
 rw [al1]
 simp only at Q4
 have L4 := L3.cl F4 Q4
 have lo4 := Nat.lt_of_lt_of_le lo F4.n
 have ko4 := (F4.K oid (by omega)).trans ko
 have kl4 := (F4.K (oid + 1) lo).trans kl
 have go4 := (F4.get oid (by omega) ko).trans go
 have gl4 := (F4.get (oid + 1) lo kl).trans gl
 have lo' : oid < h4.n := by omega
 obtain ⟨v,hv⟩ := ow_ix (ow := ow) (q := at' / 64) (by have := O.len; omega)
 have hvv := hov v hv
 have q1 : (at' : Int).tdiv 64 = ((at' / 64 : Nat) : Int) := rfl
 have q2 : IntKind.i64.wrap ((at' / 64 : Nat) : Int) = ((at' / 64 : Nat) : Int) := wrap64 (by omega) (by omega)
 have q3 : IntKind.i64.wrap ((p : Int) + 1) = ((p + 1 : Nat) : Int) := (wrap64 (by omega) (by omega)).trans (by omega)
 have xo := ix1 go4 (len := 512) (i := at' / 64) (by omega)
 have xv := ow_at hv
 have xl : at' / 64 + 1 ≤ (owV ow).length := by rw [ow_len,O.len]; omega
 have us := ow_set (ow := ow) (q := at' / 64) (v := p + 1) (by rw [O.len]; omega)
 have dv : (!decide ((v : Int) = 0)) = false ∨ ((!decide ((v : Int) = 0)) = true ∧ (!decide ((v : Int) = ((p + 1 : Nat) : Int))) = false) := by
  rcases hvv with e | e
  ·left; rw [e]; rfl
  ·right; subst e; exact ⟨by rw [decide_eq_false (by omega)]; rfl,by rw [decide_eq_true rfl]; rfl⟩
 simp -implicitDefEqProofs (disch := first|decide|assumption|omega|(simp -implicitDefEqProofs only [AM.RN];first|done|omega)|fail) only [↓AM.R0,AM.R1,AM.R2,Nat.reduceAdd,Nat.reduceLeDiff,Nat.reduceEqDiff,Int.reduceToNat,Nat.reduceLT,↓reduceIte,Int.reduceEq,Int.reduceLT,Int.reduceLE,res2]
 simp -implicitDefEqProofs (disch := first|decide|assumption|omega|(simp -implicitDefEqProofs only [AM.RN];first|done|omega)|fail) only [AM.RGB,↓AM.R0,AM.R1,AM.R2,Nat.reduceAdd,Nat.reduceLeDiff,Nat.reduceEqDiff,Int.reduceToNat,Nat.reduceLT,↓reduceIte,Int.reduceEq,Int.reduceLT,Int.reduceLE,y1,y5,y7,y8,y9,y45,y46,y47,q1,q2,q3,xo,go4,xv]
 have hfalse : (!decide ((v : Int) = 0) && !decide ((v : Int) = ((p + 1 : Nat) : Int))) = false := by
  rcases hvv with e | e
  ·rw [e]; rfl
  ·subst e; rw [decide_eq_true rfl]; simp
 rw [hfalse]
 have L5 := L4.own (HFrame.set h4 oid (.cells 0 false (owV (ow.set (at' / 64) (p + 1)))) (F := [oid]) (by simp) (by simpa using lo')) fun j hj => by simp at hj; subst hj; exact ⟨ko4,ho⟩
 have go5 := AHeap.get_set_same h4 oid (.cells 0 false (owV (ow.set (at' / 64) (p + 1))))
 have gl5 := (AHeap.get_set_ne h4 (.cells 0 false (owV (ow.set (at' / 64) (p + 1)))) (show oid + 1 ≠ oid by omega)).trans gl4
 have n5 : (h4.set oid (.cells 0 false (owV (ow.set (at' / 64) (p + 1))))).n = h4.n := rfl
 simp -implicitDefEqProofs (disch := first|decide|assumption|omega|(simp -implicitDefEqProofs only [AM.RN];first|done|omega)|fail) only [↓AM.R0,AM.R1,AM.R2,Nat.reduceAdd,Nat.reduceLeDiff,Nat.reduceEqDiff,Int.reduceToNat,Nat.reduceLT,↓reduceIte,Int.reduceEq,Int.reduceLT,Int.reduceLE,y1,y5,y7,y8,y9,y45,y46,y47,q1,q2,q3,xo,go4,xl,us,u3]
 generalize h4.set oid (.cells 0 false (owV (ow.set (at' / 64) (p + 1)))) = h5 at *
 refine AM.cI_cut (fun e' h' => ∃ g5 : CG,e'.val 1 = v1 ∧ e'.val 5 = .ptr g.c 0 0 ∧ e'.val 7 = .int .i64 (wd : Int) ∧ e'.val 8 = .sl oid 0 0 512 1 ∧ e'.val 9 = .sl (oid + 1) 0 0 4 1 ∧ e'.val 12 = .int .i64 (p : Int) ∧ e'.val 13 = .int .i64 (at' : Int) ∧ e'.val 45 = v2 ∧ e'.val 46 = .int .i64 (mt : Int) ∧ e'.val 47 = .int .i64 (i : Int) ∧
  g5.c = g.c ∧ LawQ h h' g5 m2 ∧ oid + 1 < h'.n ∧ g5.K oid = 0 ∧ g5.K (oid + 1) = 0 ∧ h'.get oid = .cells 0 false (owV (ow.set (at' / 64) (p + 1))) ∧ h'.get (oid + 1) = .cells 0 false (lastL ls)) ?_ ?_
 ·clear y1 y5 y7 y8 y9 y45 y46 y47 L5 go5 gl5
  rintro e h6 ⟨g5,y1,y5,y7,y8,y9,y12,y13,y45,y46,y47,hc5,L6,lo6,ko6,kl6,go6,gl6⟩
  have xs := ix1 gl6 (len := 4) (i := p) hp4
  have ul := lastL_set (ls := ls) (q := p) (v := (at' : Int)) (by omega)
  have ll : p + 1 ≤ (lastL ls).length := by unfold lastL; rw [List.length_map]; omega
  simp -implicitDefEqProofs (disch := first|decide|assumption|omega|(simp -implicitDefEqProofs only [AM.RN];first|done|omega)|fail) only [↓AM.R0,AM.R1,AM.R2,Nat.reduceAdd,Nat.reduceLeDiff,Nat.reduceEqDiff,Int.reduceToNat,Nat.reduceLT,↓reduceIte,Int.reduceEq,Int.reduceLT,Int.reduceLE,y1,y5,y7,y8,y9,y12,y13,y45,y46,y47,xs,gl6,ul,ll,u4]
  have L7 := L6.own (HFrame.set h6 (oid + 1) (.cells 0 false (lastL (ls.set p (at' : Int)))) (F := [oid + 1]) (by simp) (by simpa using lo6)) fun j hj => by simp at hj; subst hj; exact ⟨kl6,by omega⟩
  exact ⟨k - 1,by omega,i + 1,nx', m2,g5,ow.set (at' / 64) (p + 1), ls.set p (at' : Int), by omega,by rw [hc],rfl,hc5.trans hc,L7,lo6,ko6,kl6,go6,rfl,by rw [List.length_set]; exact hls,O2,by omega,by omega⟩
 ·refine AM.cI_bool (fun hd => ?_) (fun hd => ?_)
  ·simp -implicitDefEqProofs (disch := first|decide|assumption|omega|(simp -implicitDefEqProofs only [AM.RN];first|done|omega)|fail) only [↓AM.R0,AM.R1,AM.R2,Nat.reduceAdd,Nat.reduceLeDiff,Nat.reduceEqDiff,Int.reduceToNat,Nat.reduceLT,↓reduceIte,Int.reduceEq,Int.reduceLT,Int.reduceLE,y1,y5,y7,y8,y9,y45,y46,y47]
   have T5 := L5.tabR T
   rw [← F4.c]
   refine AM.callI_of (freeC T5 L5.q (at' : Int) ⟨by omega,by omega⟩) ?_
   rintro r h6 ⟨F6,Q6,rfl⟩
   rw [hfr] at Q6
   rw [hfr]
   simp only at Q6
   have L6 := L5.cl F6 Q6
   have lo5 : oid + 1 < h5.n := by omega
   have lo6 := Nat.lt_of_lt_of_le lo5 F6.n
   have go6 := (F6.get oid (by omega) ko4).trans go5
   have gl6 := (F6.get (oid + 1) lo5 kl4).trans gl5
   simp -implicitDefEqProofs (disch := first|decide|assumption|omega|(simp -implicitDefEqProofs only [AM.RN];first|done|omega)|fail) only [↓AM.R0,AM.R1,AM.R2,Nat.reduceAdd,Nat.reduceLeDiff,Nat.reduceEqDiff,Int.reduceToNat,Nat.reduceLT,↓reduceIte,Int.reduceEq,Int.reduceLT,Int.reduceLE,y1,y5,y7,y8,y9,y45,y46,y47]
   rw [← F4.c]
   refine AM.callI_of (allocC (L6.tabR T) L6.q _ _) ?_
   rintro r h7 ⟨g7,F7,Q7,rfl⟩
   rw [al2] at Q7
   rw [al2]
   simp only at Q7
   have L7 := L6.cl F7 Q7
   have go7 := (F7.get oid (by omega) ko4).trans go6
   have gl7 := (F7.get (oid + 1) lo6 kl4).trans gl6
   have lo7 := Nat.lt_of_lt_of_le lo6 F7.n
   have ko7 := (F7.K oid (by omega)).trans ko4
   have kl7 := (F7.K (oid + 1) lo6).trans kl4
   have dat : decide ((at' : Int) = (at' : Int)) = true := decide_eq_true rfl
   simp -implicitDefEqProofs (disch := first|decide|assumption|omega|(simp -implicitDefEqProofs only [AM.RN];first|done|omega)|fail) only [↓AM.R0,AM.R1,AM.R2,Nat.reduceAdd,Nat.reduceLeDiff,Nat.reduceEqDiff,Int.reduceToNat,Nat.reduceLT,↓reduceIte,Int.reduceEq,Int.reduceLT,Int.reduceLE,res2,y1,y5,y7,y8,y9,y45,y46,y47,dat]
   exact ⟨g7,by rw [F4.c],F7.c,L7,lo7,ko7,kl7,go7,gl7⟩
  ·simp -implicitDefEqProofs (disch := first|decide|assumption|omega|(simp -implicitDefEqProofs only [AM.RN];first|done|omega)|fail) only [↓AM.R0,AM.R1,AM.R2,Nat.reduceAdd,Nat.reduceLeDiff,Nat.reduceEqDiff,Int.reduceToNat,Nat.reduceLT,↓reduceIte,Int.reduceEq,Int.reduceLT,Int.reduceLE,y1,y5,y7,y8,y9,y45,y46,y47]
   exact ⟨g4,F4.c,L5,by omega,ko4,kl4,go5,gl5⟩
end Go.Proofs.YthillgheddpmhaaDoor.Pg
