/-
 What the functions of this seat do,on the machine: lemmas for the laws.
-/
import Derived.Test.YthillgheddpmhaaDoorJX5
import Derived.Test.YthillgheddpmhaaDoorJX6
namespace Go.Proofs.YthillgheddpmhaaDoor.Pg
open Go Go.AM Go.Proofs.YthillgheddpmhaaDoor.AmGE
attribute [local irreducible] AM.wp AM.wpIs AM.wpTr AM.opI AM.gI AM.cI AM.trI AM.callI AM.fnI AM.yldI AM.rangeI AM.rangeC AM.YldP AM.asgQ AM.roundQ AM.rangeQ AM.trG AM.trOp AM.trCall AM.seqC AM.loopI
set_option maxRecDepth 100000
set_option linter.unusedVariables false
set_option linter.unusedSimpArgs false
end Go.Proofs.YthillgheddpmhaaDoor.Pg
namespace Go.Proofs.YthillgheddpmhaaDoor.Pg
open Go Go.AM Go.Proofs.YthillgheddpmhaaDoor.AmGE
attribute [local irreducible] AM.wp AM.wpIs AM.wpTr AM.opI AM.gI AM.cI AM.trI AM.callI AM.fnI AM.yldI AM.rangeI AM.rangeC AM.YldP AM.asgQ AM.roundQ AM.rangeQ AM.trG AM.trOp AM.trCall AM.seqC AM.loopI
set_option maxRecDepth 100000
set_option linter.unusedVariables false
set_option linter.unusedSimpArgs false
/-- The reference's marks. -/
def ub (f : Nat → Bool) (n : Nat) : List AVal := (List.range n).map fun q => .bool (!f q)
structure RefR (h : AHeap) (r b n : Nat) (f : Nat → Bool) : Prop where
 obj : h.get r = .cells 0 false [.sl b 0 0 n 1]
 bits : h.get b = .cells 0 false (ub f n)
 ne : r ≠ b
 lr : r < h.n
 lb : b < h.n
 n2 : n ≤ 4096
 out : ∀ q,n ≤ q → f q = false
theorem RefR.keepD {h h' : AHeap} {A A' : List Nat} {r b n : Nat} {f : Nat → Bool} (R : RefR h r b n f) (F : HFrame h h' A A') (hr : r ∉ A) (hb : b ∉ A) : RefR h' r b n f :=
 ⟨(F.get r R.lr hr).trans R.obj, (F.get b R.lb hb).trans R.bits,R.ne,Nat.lt_of_lt_of_le R.lr F.n,Nat.lt_of_lt_of_le R.lb F.n,R.n2,R.out⟩
theorem RefR.set {h : AHeap} {r b n : Nat} {f g : Nat → Bool} (R : RefR h r b n f) (ho : ∀ q,n ≤ q → g q = false) : RefR (h.set b (.cells 0 false (ub g n))) r b n g :=
 ⟨(AHeap.get_set_ne _ _ R.ne).trans R.obj,AHeap.get_set_same _ _ _,R.ne,by simpa using R.lr,by simpa using R.lb,R.n2,ho⟩
def TurnF (n : Nat) (f g : Nat → Bool) (b m : Int) (u : Bool) (r : AVal) : Prop :=
 (inB n b m = true ∧ (∀ q : Nat,b ≤ q → (q : Int) < b + m → f q = u) ∧ (∀ q : Nat,g q = if b ≤ q ∧ (q : Int) < b + m then !u else f q) ∧ r = .int .i64 0) ∨
 (inB n b m = true ∧ (∃ q : Nat,b ≤ q ∧ (q : Int) < b + m ∧ f q = !u) ∧ g = f ∧ r = .int .i64 5) ∨ (inB n b m = false ∧ g = f ∧ r = .int .i64 1)
theorem TurnR.toF {n : Nat} {ws ws' : List Nat} {b m : Int} {u : Bool} {r : AVal} (h : TurnR n ws ws' b m u r) : TurnF n (fw ws) (fw ws') b m u r := by
 rcases h with ⟨a,c,d,e⟩ | ⟨a,c,d,e⟩ | ⟨a,d,e⟩
 ·exact .inl ⟨a,c,d,e⟩
 ·exact .inr (.inl ⟨a,c,by rw [d],e⟩)
 ·exact .inr (.inr ⟨a,by rw [d],e⟩)
def AllocF (f g : Nat → Bool) (k : Int) (r : AVal) : Prop :=
 (k < 1 ∧ g = f ∧ r = .tup [.int .i64 0, .int .i64 1]) ∨ (1 ≤ k ∧ (∀ q, ¬ Row f q k.toNat) ∧ g = f ∧ r = .tup [.int .i64 0, .int .i64 3]) ∨
 (1 ≤ k ∧ ∃ a : Nat,FirstAt f k.toNat a ∧ (∀ q : Nat,g q = if a ≤ q ∧ q < a + k.toNat then false else f q) ∧ r = .tup [.int .i64 (a : Int), .int .i64 0])
theorem AllocR.toF {ws ws' : List Nat} {k : Int} {r : AVal} (h : AllocR ws ws' k r) : AllocF (fw ws) (fw ws') k r := by
 rcases h with ⟨a,d,e⟩ | ⟨a,c,d,e⟩ | h
 ·exact .inl ⟨a,by rw [d],e⟩
 ·exact .inr (.inl ⟨a,c,by rw [d],e⟩)
 ·exact .inr (.inr h)
end Go.Proofs.YthillgheddpmhaaDoor.Pg
namespace Go.Proofs.YthillgheddpmhaaDoor.Pg
open Go Go.AM Go.Proofs.YthillgheddpmhaaDoor.AmGE
attribute [local irreducible] AM.wp AM.wpIs AM.wpTr AM.opI AM.gI AM.cI AM.trI AM.callI AM.fnI AM.yldI AM.rangeI AM.rangeC AM.YldP AM.asgQ AM.roundQ AM.rangeQ AM.trG AM.trOp AM.trCall AM.seqC AM.loopI
set_option maxRecDepth 100000
set_option linter.unusedVariables false
set_option linter.unusedSimpArgs false
end Go.Proofs.YthillgheddpmhaaDoor.Pg
namespace Go.Proofs.YthillgheddpmhaaDoor.Pg
open Go Go.AM Go.Proofs.YthillgheddpmhaaDoor.AmGE
set_option linter.unusedVariables false
set_option linter.unusedSimpArgs false
structure Sp where
 a : Nat
 k : Nat
 t : Int
def encT (s : Sp) : List AVal := [.int .i64 (s.a : Int), .int .i64 (s.k : Int), .int .i64 s.t]
def zSp : Sp := ⟨0,0,0⟩
/-- The span that begins here. -/
def atL : List Sp → Nat → Sp
 | [],_ => zSp
 | s :: l,q => if s.a = q then s else atL l q
structure SInv (n : Nat) (f : Nat → Bool) (L : List Sp) : Prop where
 c1 : ∀ s,s ∈ L → 1 ≤ s.k ∧ s.a + s.k ≤ n
 cov : ∀ q,q < n → (f q = false ↔ ∃ s,s ∈ L ∧ s.a ≤ q ∧ q < s.a + s.k)
 srt : L.Pairwise fun s t => s.a + s.k ≤ t.a
theorem sp_uniq : ∀ {L : List Sp}, L.Pairwise (fun s t => s.a + s.k ≤ t.a) → ∀ {s t : Sp} {q : Nat}, s ∈ L → t ∈ L → s.a ≤ q → q < s.a + s.k → t.a ≤ q → q < t.a + t.k → s = t
 | [],_,s,t,q,h,_,_,_,_,_ => by simp at h
 | x :: l,hp,s,t,q,hs,ht,h1,h2,h3,h4 => by
  rw [List.pairwise_cons] at hp
  rcases List.mem_cons.1 hs with e1 | e1 <;> rcases List.mem_cons.1 ht with e2 | e2
  ·rw [e1,e2]
  ·have := hp.1 t e2; rw [← e1] at this; omega
  ·have := hp.1 s e1; rw [← e2] at this; omega
  ·exact sp_uniq hp.2 e1 e2 h1 h2 h3 h4
theorem SInv.same {n : Nat} {f : Nat → Bool} {L : List Sp} (I : SInv n f L) {s t : Sp} (hs : s ∈ L) (ht : t ∈ L) (h : s.a = t.a) : s = t := by
 have := I.c1 s hs
 have := I.c1 t ht
 exact sp_uniq I.srt (q := s.a) hs ht (by omega) (by omega) (by omega) (by omega)
theorem atL_none : ∀ {L : List Sp} {q : Nat}, (∀ s,s ∈ L → s.a ≠ q) → atL L q = zSp
 | [],_,_ => rfl
 | s :: l,q,h => by rw [atL,if_neg (h s List.mem_cons_self), atL_none fun t ht => h t (List.mem_cons_of_mem _ ht)]
theorem atL_some : ∀ {L : List Sp} {q : Nat}, (∃ s,s ∈ L ∧ s.a = q) → atL L q ∈ L ∧ (atL L q).a = q
 | [],_,h => by obtain ⟨s,h,_⟩ := h; simp at h
 | s :: l,q,h => by
  rw [atL]
  by_cases e : s.a = q
  ·rw [if_pos e]; exact ⟨List.mem_cons_self,e⟩
  ·rw [if_neg e]
   obtain ⟨t,ht,hq⟩ := h
   rcases List.mem_cons.1 ht with e2 | e2
   ·rw [e2] at hq; exact absurd hq e
   ·obtain ⟨h1,h2⟩ := atL_some ⟨t,e2,hq⟩
    exact ⟨List.mem_cons_of_mem _ h1,h2⟩
theorem SInv.at {n : Nat} {f : Nat → Bool} {L : List Sp} (I : SInv n f L) {s : Sp} (hs : s ∈ L) : atL L s.a = s := by
 obtain ⟨h1,h2⟩ := atL_some ⟨s,hs,rfl⟩
 exact I.same h1 hs h2
/-- One comes in. -/
def insF : List Sp → Sp → List Sp
 | [],s => [s]
 | t :: l,s => if s.a < t.a then s :: t :: l else t :: insF l s
theorem mem_insF : ∀ {L : List Sp} {s x : Sp}, x ∈ insF L s ↔ x = s ∨ x ∈ L
 | [],s,x => by simp [insF]
 | t :: l,s,x => by
  rw [insF]
  split
  ·simp
  ·rw [List.mem_cons,mem_insF,List.mem_cons]
   constructor
   ·rintro (h | h | h)
    ·exact .inr (.inl h)
    ·exact .inl h
    ·exact .inr (.inr h)
   ·rintro (h | h | h)
    ·exact .inr (.inl h)
    ·exact .inl h
    ·exact .inr (.inr h)
theorem insF_srt : ∀ {L : List Sp} {s : Sp}, L.Pairwise (fun s t => s.a + s.k ≤ t.a) → (∀ t,t ∈ L → t.a + t.k ≤ s.a ∨ s.a + s.k ≤ t.a) → 1 ≤ s.k → (insF L s).Pairwise fun s t => s.a + s.k ≤ t.a
 | [],s,_,_,_ => by simp [insF]
 | t :: l,s,hp,hd,hk => by
  rw [insF]
  rw [List.pairwise_cons] at hp
  split
  ·rename_i hlt
   have h0 := hd t List.mem_cons_self
   rw [List.pairwise_cons,List.pairwise_cons]
   refine ⟨fun x hx => ?_,hp⟩
   rcases List.mem_cons.1 hx with e | e
   ·rw [e]; omega
   ·have := hp.1 x e; omega
  ·rename_i hlt
   have h0 := hd t List.mem_cons_self
   rw [List.pairwise_cons]
   refine ⟨fun x hx => ?_,insF_srt hp.2 (fun x hx => hd x (List.mem_cons_of_mem _ hx)) hk⟩
   rcases mem_insF.1 hx with e | e
   ·rw [e]; omega
   ·exact hp.1 x e
theorem SInv.apart {n : Nat} {f : Nat → Bool} {L : List Sp} (I : SInv n f L) {s : Sp} (hk : 1 ≤ s.k) (hr : ∀ q,s.a ≤ q → q < s.a + s.k → f q = true) : ∀ t,t ∈ L → t.a + t.k ≤ s.a ∨ s.a + s.k ≤ t.a := fun t ht => by
 obtain ⟨h1,h2⟩ := I.c1 t ht
 rcases Nat.lt_or_ge s.a (t.a + t.k) with c1 | c1
 ·rcases Nat.lt_or_ge t.a (s.a + s.k) with c2 | c2
  ·exfalso
   have hq : ∃ q,t.a ≤ q ∧ q < t.a + t.k ∧ s.a ≤ q ∧ q < s.a + s.k := by
    rcases Nat.lt_or_ge s.a t.a with c | c
    ·exact ⟨t.a,by omega,by omega,by omega,by omega⟩
    ·exact ⟨s.a,by omega,by omega,by omega,by omega⟩
   obtain ⟨q,q1,q2,q3,q4⟩ := hq
   have := (I.cov q (by omega)).2 ⟨t,ht,q1,q2⟩
   rw [hr q q3 q4] at this
   cases this
  ·exact .inr c2
 ·exact .inl c1
theorem SInv.ins {n : Nat} {f g : Nat → Bool} {L : List Sp} (I : SInv n f L) {s : Sp} (hk : 1 ≤ s.k) (hn : s.a + s.k ≤ n) (hr : ∀ q,s.a ≤ q → q < s.a + s.k → f q = true) (hg : ∀ q,g q = if s.a ≤ q ∧ q < s.a + s.k then false else f q) : SInv n g (insF L s) := by
 refine ⟨fun t ht => ?_,fun q hq => ?_,insF_srt I.srt (I.apart hk hr) hk⟩
 ·rcases mem_insF.1 ht with rfl | e
  ·exact ⟨hk,hn⟩
  ·exact I.c1 t e
 ·rw [hg]
  by_cases c : s.a ≤ q ∧ q < s.a + s.k
  ·rw [if_pos c]
   exact ⟨fun _ => ⟨s,mem_insF.2 (.inl rfl), c⟩, fun _ => rfl⟩
  ·rw [if_neg c,I.cov q hq]
   constructor
   ·rintro ⟨t,h1,h2⟩; exact ⟨t,mem_insF.2 (.inr h1), h2⟩
   ·rintro ⟨t,h1,h2⟩
    rcases mem_insF.1 h1 with rfl | e
    ·exact absurd h2 c
    ·exact ⟨t,e,h2⟩
theorem SInv.at_ins {n : Nat} {f g : Nat → Bool} {L : List Sp} {s : Sp} (J : SInv n g (insF L s)) (q : Nat) : atL (insF L s) q = if q = s.a then s else atL L q := by
 by_cases e : q = s.a
 ·rw [if_pos e,e]; exact J.at (mem_insF.2 (.inl rfl))
 ·rw [if_neg e]
  by_cases h : ∃ t,t ∈ L ∧ t.a = q
  ·obtain ⟨h1,h2⟩ := atL_some h
   have := J.at (mem_insF.2 (.inr h1) : atL L q ∈ insF L s)
   rwa [h2] at this
  ·rw [atL_none fun t ht e2 => h ⟨t,ht,e2⟩, atL_none]
   intro t ht e2
   rcases mem_insF.1 ht with rfl | e3
   ·exact e e2.symm
   ·exact h ⟨t,e3,e2⟩
/-- One goes. -/
def remF (L : List Sp) (b : Nat) : List Sp := L.filter fun s => s.a != b
theorem mem_remF {L : List Sp} {b : Nat} {x : Sp} : x ∈ remF L b ↔ x ∈ L ∧ x.a ≠ b := by simp [remF]
theorem SInv.rem {n : Nat} {f g : Nat → Bool} {L : List Sp} (I : SInv n f L) {s : Sp} (hs : s ∈ L) (hg : ∀ q,g q = if s.a ≤ q ∧ q < s.a + s.k then true else f q) : SInv n g (remF L s.a) := by
 refine ⟨fun t ht => I.c1 t (mem_remF.1 ht).1,fun q hq => ?_,I.srt.filter _⟩
 rw [hg]
 by_cases c : s.a ≤ q ∧ q < s.a + s.k
 ·rw [if_pos c]
  refine ⟨fun h => (by cases h), fun ⟨t,h1,h2,h3⟩ => ?_⟩
  obtain ⟨h1,h4⟩ := mem_remF.1 h1
  exact absurd (by rw [sp_uniq I.srt h1 hs h2 h3 c.1 c.2]) h4
 ·rw [if_neg c,I.cov q hq]
  constructor
  ·rintro ⟨t,h1,h2⟩
   refine ⟨t,mem_remF.2 ⟨h1,fun e => ?_⟩, h2⟩
   rw [I.same h1 hs e] at h2
   exact c h2
  ·rintro ⟨t,h1,h2⟩; exact ⟨t, (mem_remF.1 h1).1,h2⟩
theorem at_rem {L : List Sp} {b : Nat} (q : Nat) : atL (remF L b) q = if q = b then zSp else atL L q := by
 induction L with
 | nil => simp [remF,atL]
 | cons s l ih =>
  unfold remF at ih ⊢
  rw [List.filter_cons]
  by_cases e : s.a = b
  ·have : (s.a != b) = false := by simp [e]
   rw [this,if_neg (by simp), ih,atL]
   by_cases e2 : q = b
   ·rw [if_pos e2,if_pos e2]
   ·rw [if_neg e2,if_neg e2,if_neg (by omega)]
  ·have : (s.a != b) = true := by simp [e]
   rw [this,if_pos rfl,atL,ih,atL]
   by_cases e2 : s.a = q
   ·rw [if_pos e2,if_pos e2,if_neg (by omega)]
   ·rw [if_neg e2,if_neg e2]
/-- The span in which a place lies. -/
def findF (L : List Sp) (x : Int) : Option Sp := L.find? fun s => decide ((s.a : Int) ≤ x) && decide (x - s.a < s.k)
theorem SInv.find {n : Nat} {f : Nat → Bool} {L : List Sp} (I : SInv n f L) {s : Sp} (hs : s ∈ L) {q : Nat} (h1 : s.a ≤ q) (h2 : q < s.a + s.k) : findF L q = some s := by
 have hsome : (findF L q).isSome := by
  unfold findF
  rw [List.find?_isSome]
  exact ⟨s,hs,by simp; omega⟩
 obtain ⟨t,ht⟩ := Option.isSome_iff_exists.1 hsome
 rw [ht]
 have h3 := List.find?_some ht
 have h4 := List.mem_of_find?_eq_some ht
 simp only [Bool.and_eq_true,decide_eq_true_eq] at h3
 rw [sp_uniq I.srt h4 hs (q := q) (by omega) (by omega) h1 h2]
theorem find_mem {L : List Sp} {x : Int} {s : Sp} (h : findF L x = some s) : s ∈ L ∧ (s.a : Int) ≤ x ∧ x - s.a < s.k := by
 have h3 := List.find?_some h
 simp only [Bool.and_eq_true,decide_eq_true_eq] at h3
 exact ⟨List.mem_of_find?_eq_some h,h3⟩
/-! Rows,one for each place. -/
theorem fl_split (g : Nat → List AVal) (q r : Nat) : (List.range (q + (r + 1))).flatMap g = (List.range q).flatMap g ++ (g q ++ (List.range r).flatMap fun x => g (q + (x + 1))) := by
 rw [List.range_add,List.flatMap_append,List.range_succ_eq_map,List.flatMap_map,List.flatMap_cons,List.flatMap_map]
 rfl
theorem fl_len {g : Nat → List AVal} {m : Nat} (hg : ∀ q, (g q).length = m) : ∀ n, ((List.range n).flatMap g).length = n * m
 | 0 => by simp
 | n + 1 => by rw [List.range_succ,List.flatMap_append,List.length_append,fl_len hg n]; simp [hg,Nat.add_mul]
theorem fl_at {g : Nat → List AVal} {m n q : Nat} (hg : ∀ q, (g q).length = m) (h : q < n) : (((List.range n).flatMap g).drop (q * m)).take m = g q := by
 obtain ⟨r,rfl⟩ : ∃ r,n = q + (r + 1) := ⟨n - q - 1,by omega⟩
 rw [fl_split,List.drop_append,fl_len hg,List.drop_of_length_le (by rw [fl_len hg]; exact Nat.le_refl _), List.nil_append,Nat.sub_self,List.drop_zero,List.take_append,hg,Nat.sub_self,List.take_zero,List.append_nil,List.take_of_length_le (by rw [hg]; exact Nat.le_refl _)]
theorem fl_set {g g' : Nat → List AVal} {m n q : Nat} {v : List AVal} (hg : ∀ q, (g q).length = m) (h : q < n) (e : ∀ x,g' x = if x = q then v else g x) : ((List.range n).flatMap g).take (q * m) ++ v ++ ((List.range n).flatMap g).drop (q * m + m) = (List.range n).flatMap g' := by
 obtain ⟨r,rfl⟩ : ∃ r,n = q + (r + 1) := ⟨n - q - 1,by omega⟩
 have h1 : (List.range q).flatMap g' = (List.range q).flatMap g := by
  rw [List.flatMap_def,List.flatMap_def]
  congr 1
  exact List.map_congr_left fun x hx => by rw [List.mem_range] at hx; rw [e,if_neg (by omega)]
 have h2 : ((List.range r).flatMap fun x => g' (q + (x + 1))) = (List.range r).flatMap fun x => g (q + (x + 1)) := by
  rw [List.flatMap_def,List.flatMap_def]
  congr 1
  exact List.map_congr_left fun x hx => by rw [e,if_neg (by omega)]
 rw [fl_split g', h1,h2,e,if_pos rfl,fl_split g]
 rw [List.take_append,List.take_of_length_le (by rw [fl_len hg]; exact Nat.le_refl _), fl_len hg,Nat.sub_self,List.take_zero,List.append_nil]
 rw [List.drop_append,List.drop_of_length_le (by rw [fl_len hg]; omega), fl_len hg,List.nil_append,show q * m + m - q * m = m by omega,List.drop_append,hg,Nat.sub_self,List.drop_zero,List.drop_of_length_le (by rw [hg]; exact Nat.le_refl _), List.nil_append,List.append_assoc]
end Go.Proofs.YthillgheddpmhaaDoor.Pg
namespace Go.Proofs.YthillgheddpmhaaDoor.Pg
open Go Go.AM Go.Proofs.YthillgheddpmhaaDoor.AmGE
attribute [local irreducible] AM.wp AM.wpIs AM.wpTr AM.opI AM.gI AM.cI AM.trI AM.callI AM.fnI AM.yldI AM.rangeI AM.rangeC AM.YldP AM.asgQ AM.roundQ AM.rangeQ AM.trG AM.trOp AM.trCall AM.seqC AM.loopI
set_option maxRecDepth 100000
set_option linter.unusedVariables false
set_option linter.unusedSimpArgs false
def spV (L : List Sp) (n : Nat) : List AVal := (List.range n).flatMap fun q => encT (atL L q)
def owV (ow : List Nat) : List AVal := ow.map fun x : Nat => AVal.int .i64 (x : Int)
/-- A table of spans. -/
structure TabP (h : AHeap) (t so oo : Nat) (p : PI) (n : Nat) (ws : List Nat) (lv : List (List Sm)) (L : List Sp) : Prop where
 K : PgV h p n ws lv
 I : SInv n (fw ws) L
 obj : h.get t = .cells 0 false [.ptr p.id 0 0, .sl so 0 0 n 3, .sl oo 0 0 n 1]
 sp : h.get so = .cells 0 false (spV L n)
 ow : ∃ ow : List Nat,ow.length = n ∧ h.get oo = .cells 0 false (owV ow) ∧ ∀ s,s ∈ L → ∀ q,s.a ≤ q → q < s.a + s.k → ow[q]? = some s.a
 lt : t < h.n ∧ so < h.n ∧ oo < h.n
 ne : t ≠ so ∧ t ≠ oo ∧ so ≠ oo
 nF : t ∉ p.F ∧ so ∉ p.F ∧ oo ∉ p.F
theorem TabP.keepD {h h' : AHeap} {A A' : List Nat} {t so oo : Nat} {p : PI} {n : Nat} {ws : List Nat} {lv : List (List Sm)} {L : List Sp} (R : TabP h t so oo p n ws lv L) (f : HFrame h h' A A') (d : ∀ j,j ∈ p.F ++ [t,so,oo] → j ∉ A) : TabP h' t so oo p n ws lv L := by
 obtain ⟨ow,o1,o2,o3⟩ := R.ow
 obtain ⟨l1,l2,l3⟩ := R.lt
 have hn := f.n
 refine ⟨R.K.keepD f fun j hj => d j (List.mem_append_left _ hj), R.I, (f.get t l1 (d t (by simp))).trans R.obj, (f.get so l2 (d so (by simp))).trans R.sp, ⟨ow,o1, (f.get oo l3 (d oo (by simp))).trans o2,o3⟩, ⟨by omega,by omega,by omega⟩, R.ne,R.nF⟩
theorem TabP.keep {h h' : AHeap} {A : List Nat} {t so oo : Nat} {p : PI} {n : Nat} {ws : List Nat} {lv : List (List Sm)} {L : List Sp} (R : TabP h t so oo p n ws lv L) (f : HFrame h h' [] A) : TabP h' t so oo p n ws lv L := R.keepD f (by simp)
theorem TabP.flt {h : AHeap} {t so oo : Nat} {p : PI} {n : Nat} {ws : List Nat} {lv : List (List Sm)} {L : List Sp} (R : TabP h t so oo p n ws lv L) : ∀ j,j ∈ p.F ++ [t,so,oo] → j < h.n := fun j hj => by
 obtain ⟨l1,l2,l3⟩ := R.lt
 simp only [List.mem_append,List.mem_cons,List.not_mem_nil,or_false] at hj
 rcases hj with h | rfl | rfl | rfl
 ·exact R.K.R.lt j h
 ·exact l1
 ·exact l2
 ·exact l3
theorem sp_len (L : List Sp) (n : Nat) : (spV L n).length = n * 3 := fl_len (g := fun q => encT (atL L q)) (m := 3) (fun _ => rfl) n
theorem sp_at {L : List Sp} {n q : Nat} (h : q < n) : ((spV L n).drop (q * 3)).take 3 = encT (atL L q) := fl_at (g := fun q => encT (atL L q)) (fun _ => rfl) h
theorem ow_at {ow : List Nat} {q x : Nat} (h : ow[q]? = some x) : (owV ow)[q]? = some (.int .i64 (x : Int)) := by unfold owV; rw [List.getElem?_map,h]; rfl
theorem ix3 {H : AHeap} {j g len : Nat} {ro : Bool} {vs : List AVal} (e : H.get j = .cells g ro vs) {i : Nat} (h : i < len) : ixV H 3 (.sl j g 0 len 3) (.int .i64 (i : Int)) = some (.ptr j g (i * 3), H) := by
 have := AM.ix_sl (k := .i64) (n := (i : Int)) (len := len) (esz := 3) (off := 0) H e (by omega) (by omega)
 simpa using this
def retT (o : Option (AVal × AHeap)) (w : AVal) (h : AHeap) : Option (AVal × AHeap) := o.map fun p => (.tup [p.1,w],h)
theorem res_ct (e : Env) (h : AHeap) (t u : Nat) (n : Option Nat) : ((resOf ⟨e,h⟩ [.cell t n, .tmp u]).map fun v => (v,h)) = retT (aop e h (.load n (.tmp t))) (e.val u) h := by
 simp only [resOf,resVals,resVal,retT]
 cases aop e h (.load n (.tmp t)) <;> rfl
theorem retT_some (v w : AVal) (h' h : AHeap) : retT (some (v,h')) w h = some (.tup [v,w],h) := rfl
def encF : Option Sp → AVal
 | some s => .tup [.agg (encT s), .bool true]
 | none => .tup [.agg (encT zSp), .bool false]
theorem findIn {h : AHeap} {t so oo : Nat} {p : PI} {n : Nat} {ws : List Nat} {lv : List (List Sm)} {L : List Sp} (R : TabP h t so oo p n ws lv L) {x : Int} {s : Sp} (e : findF L x = some s) : ∃ q : Nat,x = q ∧ q < n ∧ s ∈ L ∧ s.a ≤ q ∧ q < s.a + s.k ∧ fw ws q = false := by
 obtain ⟨h1,h2,h3⟩ := find_mem e
 obtain ⟨h4,h5⟩ := R.I.c1 s h1
 obtain ⟨q,rfl⟩ : ∃ a : Nat,x = a := ⟨x.toNat,by omega⟩
 exact ⟨q,rfl,by omega,h1,by omega,by omega, (R.I.cov q (by omega)).2 ⟨s,h1,by omega,by omega⟩⟩
set_option maxHeartbeats 4000000 in
theorem findW {h : AHeap} {t so oo : Nat} {p : PI} {n : Nat} {ws : List Nat} {lv : List (List Sm)} {L : List Sp} (R : TabP h t so oo p n ws lv L) (x : Int) : CallP AP 32 [.ptr t 0 0, .int .i64 x] h fun r h' => HFrame h h' [] [] ∧ r = encF (findF L x) := by
 refine callP (rfl : Tr.get AP 32 = some A32) ?_
 generalize hQ : (fun (r : AVal) (h' : AHeap) => _) = Q
 have g1 := R.obj
 have g2 := R.sp
 obtain ⟨ow,o1,g3,o3⟩ := R.ow
 obtain ⟨l1,l2,l3⟩ := R.lt
 have f0 := (HFrame.refl (h := h) (F := []) (by simp)).pushTmp (.cells 0 false [.int .i64 0, .int .i64 0, .int .i64 0])
 have nfind : (∀ q : Nat,x = q → q < n → fw ws q = true) → findF L x = none := fun hq => by
  cases e : findF L x with
  | none => rfl
  | some s =>
   obtain ⟨q,q1,q2,_,_,_,q6⟩ := findIn R e
   rw [hq q q1 q2] at q6; cases q6
 rcases Int.lt_or_le x 0 with c | c
 ·have d1 : decide (x < 0) = true := decide_eq_true c
  simp -implicitDefEqProofs (disch := first|decide|assumption|omega|(simp -implicitDefEqProofs only [AM.RN];first|done|omega)|fail) only [↓AM.R0,AM.R1,AM.R2,Nat.reduceAdd,Nat.reduceLeDiff,Nat.reduceEqDiff,Int.reduceToNat,Nat.reduceLT,↓reduceIte,Int.reduceEq,Int.reduceLT,Int.reduceLE,res_ct,retT_some,d1]
  subst hQ
  rw [nfind fun q h1 _ => by omega]
  exact ⟨f0.setTmp (Nat.le_refl _) _,rfl⟩
 have d1 : decide (x < 0) = false := decide_eq_false (by omega)
 obtain ⟨q,rfl⟩ : ∃ a : Nat,x = a := ⟨x.toNat,by omega⟩
 rcases Nat.lt_or_ge q n with e | e
 rotate_left
 ·have d2 : decide ((n : Int) ≤ (q : Int)) = true := decide_eq_true (by omega)
  simp -implicitDefEqProofs (disch := first|decide|assumption|omega|(simp -implicitDefEqProofs only [AM.RN];first|done|omega)|fail) only [↓AM.R0,AM.R1,AM.R2,Nat.reduceAdd,Nat.reduceLeDiff,Nat.reduceEqDiff,Int.reduceToNat,Nat.reduceLT,↓reduceIte,Int.reduceEq,Int.reduceLT,Int.reduceLE,res_ct,retT_some,d1,d2,g1]
  subst hQ
  rw [nfind fun q' h1 h2 => by omega]
  exact ⟨f0.setTmp (Nat.le_refl _) _,rfl⟩
 have d2 : decide ((n : Int) ≤ (q : Int)) = false := decide_eq_false (by omega)
 have R0 := R.keep f0
 simp -implicitDefEqProofs (disch := first|decide|assumption|omega|(simp -implicitDefEqProofs only [AM.RN];first|done|omega)|fail) only [↓AM.R0,AM.R1,AM.R2,Nat.reduceAdd,Nat.reduceLeDiff,Nat.reduceEqDiff,Int.reduceToNat,Nat.reduceLT,↓reduceIte,Int.reduceEq,Int.reduceLT,Int.reduceLE,res_ct,retT_some,d1,d2,g1]
 refine AM.callI_of (usedW R0.K (q : Int)) ?_
 rintro r h2 ⟨rfl,rfl⟩
 rw [fi_nat]
 cases hq : fw ws q with
 | true =>
  simp -implicitDefEqProofs (disch := first|decide|assumption|omega|(simp -implicitDefEqProofs only [AM.RN];first|done|omega)|fail) only [↓AM.R0,AM.R1,AM.R2,Nat.reduceAdd,Nat.reduceLeDiff,Nat.reduceEqDiff,Int.reduceToNat,Nat.reduceLT,↓reduceIte,Int.reduceEq,Int.reduceLT,Int.reduceLE,res_ct,retT_some]
  subst hQ
  rw [nfind fun q' h1 h2 => by rw [show q' = q by omega]; exact hq]
  exact ⟨f0.setTmp (Nat.le_refl _) _,rfl⟩
 | false =>
  obtain ⟨s,hs,s1,s2⟩ := (R.I.cov q e).1 hq
  have h3 := R.I.c1 s hs
  have oq := ow_at (o3 s hs q s1 s2)
  have x1 := ix1 (H := h.push (.cells 0 false [.int .i64 0, .int .i64 0, .int .i64 0])) (j := oo) (g := 0) (len := n) (i := q) (vs := owV ow) (ro := false) (by rw [AHeap.get_push_ne _ _ (by omega)]; exact g3) e
  have x3 := ix3 (H := h.push (.cells 0 false [.int .i64 0, .int .i64 0, .int .i64 0])) (j := so) (g := 0) (len := n) (i := s.a) (vs := spV L n) (ro := false) (by rw [AHeap.get_push_ne _ _ (by omega)]; exact g2) (by omega)
  have xs := sp_at (L := L) (n := n) (q := s.a) (by omega)
  rw [R.I.at hs] at xs
  have xl : s.a * 3 + 3 ≤ (spV L n).length := by rw [sp_len]; omega
  simp only [encT] at xs
  simp -implicitDefEqProofs (disch := first|decide|assumption|omega|(simp -implicitDefEqProofs only [AM.RN];first|done|omega)|fail) only [↓AM.R0,AM.R1,AM.R2,Nat.reduceAdd,Nat.reduceLeDiff,Nat.reduceEqDiff,Int.reduceToNat,Nat.reduceLT,↓reduceIte,Int.reduceEq,Int.reduceLT,Int.reduceLE,res_ct,retT_some,g1,g2,g3,x1,x3,oq,xs,xl]
  subst hQ
  rw [R.I.find hs s1 s2]
  exact ⟨f0.setTmp (Nat.le_refl _) _,rfl⟩
end Go.Proofs.YthillgheddpmhaaDoor.Pg
namespace Go.Proofs.YthillgheddpmhaaDoor.Pg
open Go Go.AM Go.Proofs.YthillgheddpmhaaDoor.AmGE
attribute [local irreducible] AM.wp AM.wpIs AM.wpTr AM.opI AM.gI AM.cI AM.trI AM.callI AM.fnI AM.yldI AM.rangeI AM.rangeC AM.YldP AM.asgQ AM.roundQ AM.rangeQ AM.trG AM.trOp AM.trCall AM.seqC AM.loopI
set_option maxRecDepth 100000
set_option linter.unusedVariables false
set_option linter.unusedSimpArgs false
def AllocS (f g : Nat → Bool) (L L' : List Sp) (k tag : Int) (r : AVal) : Prop := ∃ v,AllocF f g k v ∧
 ((∃ e : Int,e ≠ 0 ∧ v = .tup [.int .i64 0, .int .i64 e] ∧ L' = L ∧ r = .tup [.agg (encT zSp), .int .i64 e]) ∨
  (∃ a : Nat,v = .tup [.int .i64 (a : Int), .int .i64 0] ∧ 1 ≤ k ∧ L' = insF L ⟨a,k.toNat,tag⟩ ∧ r = .tup [.agg (encT ⟨a,k.toNat,tag⟩), .int .i64 0]))
theorem fl_spV {L L' : List Sp} {n a : Nat} {s : Sp} (h : a < n) (e : ∀ q,atL L' q = if q = a then s else atL L q) : (spV L n).take (a * 3) ++ encT s ++ (spV L n).drop (a * 3 + 3) = spV L' n :=
 fl_set (g := fun q => encT (atL L q)) (g' := fun q => encT (atL L' q)) (fun _ => rfl) h fun x => by rw [e]; split <;> rfl
set_option maxHeartbeats 8000000 in
theorem allocS {h : AHeap} (T : TabR h) {t so oo : Nat} {p : PI} {n : Nat} {ws : List Nat} {lv : List (List Sm)} {L : List Sp} (R : TabP h t so oo p n ws lv L) (h0 : 0 ∉ p.F ++ [t,so,oo]) (k tag : Int) :
  CallP AP 31 [.ptr t 0 0, .int .i64 k, .int .i64 tag] h fun r h' => ∃ ws' lv' L', HFrame h h' (p.F ++ [t,so,oo]) (p.F ++ [t,so,oo]) ∧ TabP h' t so oo p n ws' lv' L' ∧ AllocS (fw ws) (fw ws') L L' k tag r := by
 refine callP (rfl : Tr.get AP 31 = some A31) ?_
 generalize hQ : (fun (r : AVal) (h' : AHeap) => _) = Q
 have g1 := R.obj
 obtain ⟨l1,l2,l3⟩ := R.lt
 obtain ⟨e1,e2,e3⟩ := R.ne
 obtain ⟨n1,n2,n3⟩ := R.nF
 have hn2 := R.K.n2
 have flt := R.flt
 have fa := (HFrame.refl (h := h) (F := []) (by simp)).pushTmp (.cells 0 false [.int .i64 0, .int .i64 0, .int .i64 0])
 have fA := (HFrame.refl flt).pushTmp (.cells 0 false [.int .i64 0, .int .i64 0, .int .i64 0])
 have R0 := R.keep fa
 have T0 := T.frame fa (by simp)
 simp -implicitDefEqProofs (disch := first|decide|assumption|omega|(simp -implicitDefEqProofs only [AM.RN];first|done|omega)|fail) only [↓AM.R0,AM.R1,AM.R2,Nat.reduceAdd,Nat.reduceLeDiff,Nat.reduceEqDiff,Int.reduceToNat,Nat.reduceLT,↓reduceIte,Int.reduceEq,Int.reduceLT,Int.reduceLE,g1]
 have ga : (h.push (.cells 0 false [.int .i64 0, .int .i64 0, .int .i64 0])).get h.n = .cells 0 false [.int .i64 0, .int .i64 0, .int .i64 0] := AHeap.get_push_same _ _
 have na : (h.push (.cells 0 false [.int .i64 0, .int .i64 0, .int .i64 0])).n = h.n + 1 := by simp
 generalize h.push (.cells 0 false [.int .i64 0, .int .i64 0, .int .i64 0]) = ha at *
 refine AM.callI_of (allocW T0 R0.K k) ?_
 rintro v h2 ⟨ws2,lv2,f2,K2,A2⟩
 have A2' := A2.toF
 have f2' := f2.wide (G := p.F ++ [t,so,oo]) (G' := p.F ++ [t,so,oo]) (fun j hj => List.mem_append_left _ hj) (fun j hj => .inr hj) (fun j hj => by have := flt j hj; omega)
 have F2 := fA.trans f2'
 have hn := f2.n
 have gc : h2.get h.n = .cells 0 false [.int .i64 0, .int .i64 0, .int .i64 0] := (f2.get _ (by omega) (fun hm => by have := R.K.R.lt _ hm; omega)).trans ga
 have lc : h.n < h2.n := by omega
 have bad : ∀ e : Int,e ≠ 0 → v = .tup [.int .i64 0, .int .i64 e] → ws2 = ws → Q (.tup [.agg (encT zSp), .int .i64 e]) (h2.set h.n (.cells 0 false (encT zSp))) := fun e he hv hw => by
  subst hQ
  refine ⟨ws2,lv2,L,F2.setTmp (Nat.le_refl _) _, ?_,v,A2', .inl ⟨e,he,hv,rfl,rfl⟩⟩
  have dd : ∀ j,j ∈ [t,so,oo] → j ∉ p.F := fun j hj => by simp at hj; rcases hj with rfl | rfl | rfl <;> assumption
  obtain ⟨ow,o1,o2,o3⟩ := R0.ow
  have R2 : TabP h2 t so oo p n ws2 lv2 L := ⟨K2,by rw [hw]; exact R.I, (f2.get t (by omega) n1).trans R0.obj, (f2.get so (by omega) n2).trans R0.sp, ⟨ow,o1, (f2.get oo (by omega) n3).trans o2,o3⟩, ⟨by omega,by omega,by omega⟩, R.ne,R.nF⟩
  have f3 := (HFrame.refl (h := h2) (F := [h.n]) (by simpa using lc))
  exact R2.keepD (HFrame.set h2 h.n (.cells 0 false (encT zSp)) (F := [h.n]) (by simp) (by simpa using lc)) (fun j hj hm => by simp at hm; have := flt j hj; omega)
 rcases A2 with ⟨c1,c2,rfl⟩ | ⟨c1,c3,c2,rfl⟩ | ⟨c1,a,c2,c3,rfl⟩
 ·simp -implicitDefEqProofs (disch := first|decide|assumption|omega|(simp -implicitDefEqProofs only [AM.RN];first|done|omega)|fail) only [↓AM.R0,AM.R1,AM.R2,Nat.reduceAdd,Nat.reduceLeDiff,Nat.reduceEqDiff,Int.reduceToNat,Nat.reduceLT,↓reduceIte,Int.reduceEq,Int.reduceLT,Int.reduceLE,gc,res_ct,retT_some]
  exact bad 1 (by decide) rfl c2
 ·simp -implicitDefEqProofs (disch := first|decide|assumption|omega|(simp -implicitDefEqProofs only [AM.RN];first|done|omega)|fail) only [↓AM.R0,AM.R1,AM.R2,Nat.reduceAdd,Nat.reduceLeDiff,Nat.reduceEqDiff,Int.reduceToNat,Nat.reduceLT,↓reduceIte,Int.reduceEq,Int.reduceLT,Int.reduceLE,gc,res_ct,retT_some]
  exact bad 3 (by decide) rfl c2
 ·clear bad
  obtain ⟨k,rfl⟩ : ∃ x : Nat,k = x := ⟨k.toNat,by omega⟩
  rw [Int.toNat_natCast] at c2 c3
  have hk1 : 1 ≤ k := by omega
  have hlt : a + k ≤ n := by
   rcases Nat.lt_or_ge n (a + k) with q | q
   ·have h1 := c2.1 (k - 1) (by omega)
    rw [R.K.out _ (by omega)] at h1; cases h1
   ·exact q
  have hfree : ∀ q,a ≤ q → q < a + k → fw ws q = true := fun q q1 q2 => by have := c2.1 (q - a) (by omega); rwa [show a + (q - a) = q by omega] at this
  have J : SInv n (fw ws2) (insF L ⟨a,k,tag⟩) := R.I.ins (s := ⟨a,k,tag⟩) hk1 hlt hfree c3
  have hat := J.at_ins (f := fw ws)
  have q1 := (f2.get t (by omega) n1).trans R0.obj
  have q2 := (f2.get so (by omega) n2).trans R0.sp
  obtain ⟨ow,o1,o2,o3⟩ := R0.ow
  have q3 := (f2.get oo (by omega) n3).trans o2
  have fB := (F2.pushTmp (.cells 0 false [.int .i64 0, .int .i64 0, .int .i64 0])).setTmp (i := h2.n) (by omega) (.cells 0 false (encT ⟨a,k,tag⟩))
  have fb := ((HFrame.refl (h := h2) (F := []) (by simp)).pushTmp (.cells 0 false [.int .i64 0, .int .i64 0, .int .i64 0])).setTmp (i := h2.n) (Nat.le_refl _) (.cells 0 false (encT ⟨a,k,tag⟩))
  have gB : ((h2.push (.cells 0 false [.int .i64 0, .int .i64 0, .int .i64 0])).set h2.n (.cells 0 false (encT ⟨a,k,tag⟩))).get h2.n = .cells 0 false (encT ⟨a,k,tag⟩) := AHeap.get_set_same _ _ _
  have nB : ((h2.push (.cells 0 false [.int .i64 0, .int .i64 0, .int .i64 0])).set h2.n (.cells 0 false (encT ⟨a,k,tag⟩))).n = h2.n + 1 := by simp
  simp only [encT] at fB fb gB nB
  have K3 := K2.keep fb
  have r1 := (fb.get t (by omega) (by simp)).trans q1
  have r2 := (fb.get so (by omega) (by simp)).trans q2
  have r3 := (fb.get oo (by omega) (by simp)).trans q3
  have rc := (fb.get h.n lc (by simp)).trans gc
  have lt3 : t < ((h2.push (.cells 0 false [.int .i64 0, .int .i64 0, .int .i64 0])).set h2.n (.cells 0 false [.int .i64 (a : Int), .int .i64 (k : Int), .int .i64 tag])).n := by omega
  have ls3 : so < ((h2.push (.cells 0 false [.int .i64 0, .int .i64 0, .int .i64 0])).set h2.n (.cells 0 false [.int .i64 (a : Int), .int .i64 (k : Int), .int .i64 tag])).n := by omega
  have lb3 : h2.n < ((h2.push (.cells 0 false [.int .i64 0, .int .i64 0, .int .i64 0])).set h2.n (.cells 0 false [.int .i64 (a : Int), .int .i64 (k : Int), .int .i64 tag])).n := by omega
  have x3 := ix3 (len := n) r2 (i := a) (by omega)
  have hfs := fl_spV (L := L) (L' := insF L ⟨a,k,tag⟩) (s := ⟨a,k,tag⟩) (n := n) (a := a) (by omega) hat
  simp only [encT] at hfs
  have xl : a * 3 + 3 ≤ (spV L n).length := by rw [sp_len]; omega
  simp -implicitDefEqProofs (disch := first|decide|assumption|omega|(simp -implicitDefEqProofs only [AM.RN];first|done|omega)|fail) only [↓AM.R0,AM.R1,AM.R2,Nat.reduceAdd,Nat.reduceLeDiff,Nat.reduceEqDiff,Int.reduceToNat,Nat.reduceLT,↓reduceIte,Int.reduceEq,Int.reduceLT,Int.reduceLE,q1,q2,x3,hfs,xl]
  generalize (h2.push (.cells 0 false [.int .i64 0, .int .i64 0, .int .i64 0])).set h2.n (.cells 0 false [.int .i64 (a : Int), .int .i64 (k : Int), .int .i64 tag]) = h3 at *
  have fC := (fB.trans (HFrame.set h3 so (.cells 0 false (spV (insF L ⟨a,k,tag⟩) n)) (F := p.F ++ [t,so,oo]) (by simp) fB.lt))
  have fc := HFrame.set h3 so (.cells 0 false (spV (insF L ⟨a,k,tag⟩) n)) (F := [so]) (by simp) (by simpa using ls3)
  have K4 := K3.keepD fc (fun j hj hm => by simp at hm; subst hm; exact n2 hj)
  have t1 := (fc.get t (by omega) (by simpa using e1)).trans r1
  have t2 := AHeap.get_set_same h3 so (.cells 0 false (spV (insF L ⟨a,k,tag⟩) n))
  have t3 := (fc.get oo (by omega) (by simpa using Ne.symm e3)).trans r3
  have tc := (fc.get h.n (by omega) (by simp; omega)).trans rc
  have tb := (fc.get h2.n (by omega) (by simp; omega)).trans gB
  have n4 : (h3.set so (.cells 0 false (spV (insF L ⟨a,k,tag⟩) n))).n = h3.n := by simp
  generalize h3.set so (.cells 0 false (spV (insF L ⟨a,k,tag⟩) n)) = h4 at *
  refine AM.loopI_of (fun m e h' => ∃ (i : Nat) (ow' : List Nat), m + i = k ∧ e.val 0 = .ptr t 0 0 ∧ e.val 6 = .ptr h.n 0 0 ∧ e.val 8 = .int .i64 (a : Int) ∧ e.val 10 = .ptr h2.n 0 0 ∧ e.val 39 = .int .i64 (k : Int) ∧ e.val 40 = .int .i64 (i : Int) ∧ HFrame h h' (p.F ++ [t,so,oo]) (p.F ++ [t,so,oo]) ∧ HFrame h4 h' [oo] [oo] ∧
   ow'.length = n ∧ h'.get oo = .cells 0 false (owV ow') ∧ (∀ q,a ≤ q → q < a + i → ow'[q]? = some a) ∧ (∀ q, ¬ (a ≤ q ∧ q < a + i) → ow'[q]? = ow[q]?)) k ?_ ?_
  ·refine ⟨0,ow,by omega, ?_, ?_, ?_, ?_, ?_, ?_,fC,HFrame.refl (by simp; omega), o1,t3,fun q z1 z2 => by omega,fun q _ => rfl⟩ <;> first | (simp -implicitDefEqProofs (disch := first|decide|assumption|omega|(simp -implicitDefEqProofs only [AM.RN];first|done|omega)|fail) only [↓AM.R0,AM.R1,AM.R2,Nat.reduceAdd,Nat.reduceLeDiff,Nat.reduceEqDiff,Int.reduceToNat,Nat.reduceLT,↓reduceIte,Int.reduceEq,Int.reduceLT,Int.reduceLE]; done) | (simp -implicitDefEqProofs (disch := first|decide|assumption|omega|(simp -implicitDefEqProofs only [AM.RN];first|done|omega)|fail) only [↓AM.R0,AM.R1,AM.R2,Nat.reduceAdd,Nat.reduceLeDiff,Nat.reduceEqDiff,Int.reduceToNat,Nat.reduceLT,↓reduceIte,Int.reduceEq,Int.reduceLT,Int.reduceLE]; rfl)
  ·rintro m e h' ⟨i,ow', hm,y0,y6,y8,y10,y39,y40,F5,f5,ol,og,oa,ob⟩
   have z1 := (f5.get t (by omega) (by simpa using e2)).trans t1
   have z2 := (f5.get so (by omega) (by simpa using e3)).trans t2
   have zc := (f5.get h.n (by omega) (by simp; omega)).trans tc
   have zb := (f5.get h2.n (by omega) (by simp; omega)).trans tb
   have hn5 := f5.n
   simp -implicitDefEqProofs (disch := first|decide|assumption|omega|(simp -implicitDefEqProofs only [AM.RN];first|done|omega)|fail) only [↓AM.R0,AM.R1,AM.R2,Nat.reduceAdd,Nat.reduceLeDiff,Nat.reduceEqDiff,Int.reduceToNat,Nat.reduceLT,↓reduceIte,Int.reduceEq,Int.reduceLT,Int.reduceLE,y39,y40]
   refine AM.cI_bool (fun hb => ?_) (fun hb => ?_)
   ·simp only [decide_eq_true_eq] at hb
    have w1 : IntKind.i64.wrap ((a : Int) + (i : Int)) = ((a + i : Nat) : Int) := (wrap64 (by omega) (by omega)).trans (by omega)
    have w2 : IntKind.i64.wrap ((i : Int) + 1) = ((i + 1 : Nat) : Int) := (wrap64 (by omega) (by omega)).trans (by omega)
    have x5 := ix1 (len := n) og (i := a + i) (by omega)
    have ul : (owV ow').length = n := by unfold owV; rw [List.length_map,ol]
    have ul2 : a + i + 1 ≤ (owV ow').length := by omega
    have us : (owV ow').take (a + i) ++ [.int .i64 (a : Int)] ++ (owV ow').drop (a + i + 1) = owV (ow'.set (a + i) a) := by
     have : owV (ow'.set (a + i) a) = (owV ow').set (a + i) (.int .i64 (a : Int)) := by unfold owV; rw [List.map_set]
     rw [this,List.set_eq_take_append_cons_drop,if_pos (by omega), List.append_assoc]; rfl
    simp -implicitDefEqProofs (disch := first|decide|assumption|omega|(simp -implicitDefEqProofs only [AM.RN];first|done|omega)|fail) only [↓AM.R0,AM.R1,AM.R2,Nat.reduceAdd,Nat.reduceLeDiff,Nat.reduceEqDiff,Int.reduceToNat,Nat.reduceLT,↓reduceIte,Int.reduceEq,Int.reduceLT,Int.reduceLE,y0,y8,y40,z1,og,w1,w2,x5,ul2,us]
    refine ⟨m - 1,by omega,i + 1,ow'.set (a + i) a,by omega,y6,y10,y39,rfl,F5.trans (HFrame.set h' oo _ (by simp) F5.lt), f5.trans (HFrame.set h' oo _ (by simp) f5.lt), by rw [List.length_set,ol],rfl,fun q z1 z2 => ?_,fun q z1 => ?_⟩
    ·by_cases c : a + i = q
     ·subst c; rw [List.getElem?_set_self (by omega)]
     ·rw [List.getElem?_set_ne c]; exact oa q z1 (by omega)
    ·rw [List.getElem?_set_ne (by omega)]; exact ob q (by omega)
   ·simp only [decide_eq_false_iff_not] at hb
    obtain rfl : i = k := by omega
    have lh5 : h.n < h'.n := by omega
    have lb5 : h2.n < h'.n := by omega
    simp -implicitDefEqProofs (disch := first|decide|assumption|omega|(simp -implicitDefEqProofs only [AM.RN];first|done|omega)|fail) only [↓AM.R0,AM.R1,AM.R2,Nat.reduceAdd,Nat.reduceLeDiff,Nat.reduceEqDiff,Int.reduceToNat,Nat.reduceLT,↓reduceIte,Int.reduceEq,Int.reduceLT,Int.reduceLE,y6,y10,zb,zc,res_ct,retT_some]
    subst hQ
    refine ⟨ws2,lv2,insF L ⟨a,i,tag⟩, F5.setTmp (Nat.le_refl _) _, ?_,_,A2', .inr ⟨a,rfl,by omega,by rw [Int.toNat_natCast],by rw [Int.toNat_natCast]; rfl⟩⟩
    have R5 : TabP h' t so oo p n ws2 lv2 (insF L ⟨a,i,tag⟩) := ⟨K4.keepD f5 (fun j hj hm => by simp at hm; subst hm; exact n3 hj), J,z1,z2, ⟨ow', ol,og,fun s hs q s1 s2 => ?_⟩, ⟨by omega,by omega,by omega⟩, R.ne,R.nF⟩
    ·exact R5.keepD (HFrame.set h' h.n _ (F := [h.n]) (by simp) (by simpa using lh5)) (fun j hj hm => by simp at hm; have := flt j hj; omega)
    ·rcases mem_insF.1 hs with rfl | hs'
     ·exact oa q s1 s2
     ·rw [ob q ?_]
      ·exact o3 s hs' q s1 s2
      ·rintro ⟨q1,q2⟩
       have := (R.I.cov q (by have := R.I.c1 s hs'; omega)).2 ⟨s,hs', s1,s2⟩
       rw [hfree q q1 q2] at this; cases this
end Go.Proofs.YthillgheddpmhaaDoor.Pg
namespace Go.Proofs.YthillgheddpmhaaDoor.Pg
open Go Go.AM Go.Proofs.YthillgheddpmhaaDoor.AmGE
attribute [local irreducible] AM.wp AM.wpIs AM.wpTr AM.opI AM.gI AM.cI AM.trI AM.callI AM.fnI AM.yldI AM.rangeI AM.rangeC AM.YldP AM.asgQ AM.roundQ AM.rangeQ AM.trG AM.trOp AM.trCall AM.seqC AM.loopI
set_option maxRecDepth 100000
set_option linter.unusedVariables false
set_option linter.unusedSimpArgs false
def FreeS (f g : Nat → Bool) (L L' : List Sp) (b : Int) (r : AVal) : Prop :=
 (∃ s,s ∈ L ∧ (s.a : Int) = b ∧ (∀ q,g q = if s.a ≤ q ∧ q < s.a + s.k then true else f q) ∧ L' = remF L s.a ∧ r = .int .i64 0) ∨ ((∀ s,s ∈ L → (s.a : Int) ≠ b) ∧ g = f ∧ L' = L ∧ r = .int .i64 4)
set_option maxHeartbeats 8000000 in
theorem freeS {h : AHeap} (T : TabR h) {t so oo : Nat} {p : PI} {n : Nat} {ws : List Nat} {lv : List (List Sm)} {L : List Sp} (R : TabP h t so oo p n ws lv L) (h0 : 0 ∉ p.F ++ [t,so,oo]) (b : Int) :
  CallP AP 33 [.ptr t 0 0, .int .i64 b] h fun r h' => ∃ ws' lv' L', HFrame h h' (p.F ++ [t,so,oo]) (p.F ++ [t,so,oo]) ∧ TabP h' t so oo p n ws' lv' L' ∧ FreeS (fw ws) (fw ws') L L' b r := by
 refine callP (rfl : Tr.get AP 33 = some A33) ?_
 generalize hQ : (fun (r : AVal) (h' : AHeap) => _) = Q
 obtain ⟨l1,l2,l3⟩ := R.lt
 obtain ⟨e1,e2,e3⟩ := R.ne
 obtain ⟨n1,n2,n3⟩ := R.nF
 have hn2 := R.K.n2
 have flt := R.flt
 simp -implicitDefEqProofs (disch := first|decide|assumption|omega|(simp -implicitDefEqProofs only [AM.RN];first|done|omega)|fail) only [↓AM.R0,AM.R1,AM.R2,Nat.reduceAdd,Nat.reduceLeDiff,Nat.reduceEqDiff,Int.reduceToNat,Nat.reduceLT,↓reduceIte,Int.reduceEq,Int.reduceLT,Int.reduceLE]
 refine AM.callI_of (findW R b) ?_
 rintro v h1 ⟨f1,rfl⟩
 have R1 := R.keep f1
 have T1 := T.frame f1 (by simp)
 have hn1 := f1.n
 have none : (∀ s,s ∈ L → (s.a : Int) ≠ b) → ∀ h', HFrame h1 h' [] [] → Q (.int .i64 4) h' := fun hno h' f => by
  subst hQ
  exact ⟨ws,lv,L, (f1.trans f).wide (by simp) (fun j hj => .inr hj) flt,R1.keep f, .inr ⟨hno,rfl,rfl,rfl⟩⟩
 have fP : ∀ o : AObj,HFrame h1 ((h1.push (.cells 0 false [.int .i64 0, .int .i64 0, .int .i64 0])).set h1.n o) [] [] := fun o => ((HFrame.refl (h := h1) (F := []) (by simp)).pushTmp _).setTmp (Nat.le_refl _) _
 cases hf : findF L b with
 | none =>
  simp -implicitDefEqProofs (disch := first|decide|assumption|omega|(simp -implicitDefEqProofs only [AM.RN];first|done|omega)|fail) only [↓AM.R0,AM.R1,AM.R2,Nat.reduceAdd,Nat.reduceLeDiff,Nat.reduceEqDiff,Int.reduceToNat,Nat.reduceLT,↓reduceIte,Int.reduceEq,Int.reduceLT,Int.reduceLE,encF,encT]
  refine none (fun s hs e => ?_) _ (fP _)
  rw [← e,R.I.find hs (Nat.le_refl _) (by have := R.I.c1 s hs; omega)] at hf
  cases hf
 | some s =>
  obtain ⟨q,rfl,q1,q2,q3,q4,q5⟩ := findIn R hf
  by_cases hb : s.a = q
  rotate_left
  ·have db : decide ((s.a : Int) = (q : Int)) = false := decide_eq_false (by omega)
   simp -implicitDefEqProofs (disch := first|decide|assumption|omega|(simp -implicitDefEqProofs only [AM.RN];first|done|omega)|fail) only [↓AM.R0,AM.R1,AM.R2,Nat.reduceAdd,Nat.reduceLeDiff,Nat.reduceEqDiff,Int.reduceToNat,Nat.reduceLT,↓reduceIte,Int.reduceEq,Int.reduceLT,Int.reduceLE,encF,encT,db]
   refine none (fun s' hs e => ?_) _ (fP _)
   have := R.I.find hs (q := q) (by omega) (by have := R.I.c1 s' hs; omega)
   rw [hf] at this
   simp only [Option.some.injEq] at this
   rw [this] at hb
   omega
  ·subst hb
   clear none
   have db : decide ((s.a : Int) = (s.a : Int)) = true := decide_eq_true rfl
   have hs1 := R.I.c1 s q2
   have g1 := R1.obj
   have g2 := R1.sp
   have fb := fP (.cells 0 false (encT s))
   have nB : ((h1.push (.cells 0 false [.int .i64 0, .int .i64 0, .int .i64 0])).set h1.n (.cells 0 false (encT s))).n = h1.n + 1 := by simp
   have gB : ((h1.push (.cells 0 false [.int .i64 0, .int .i64 0, .int .i64 0])).set h1.n (.cells 0 false (encT s))).get h1.n = .cells 0 false (encT s) := AHeap.get_set_same _ _ _
   simp only [encT] at fb nB gB
   have x3 := ix3 (H := (h1.push (.cells 0 false [.int .i64 0, .int .i64 0, .int .i64 0])).set h1.n (.cells 0 false [.int .i64 (s.a : Int), .int .i64 (s.k : Int), .int .i64 s.t])) (j := so) (g := 0) (len := n) (i := s.a) (vs := spV L n) (ro := false) (by rw [AHeap.get_set_ne _ _ (by omega), AHeap.get_push_ne _ _ (by omega)]; exact g2) (by omega)
   have hat : ∀ q,atL (remF L s.a) q = if q = s.a then zSp else atL L q := fun q => at_rem q
   have hfs := fl_spV (L := L) (L' := remF L s.a) (s := zSp) (n := n) (a := s.a) (by omega) hat
   have z3 : encT zSp = [.int .i64 0, .int .i64 0, .int .i64 0] := rfl
   rw [z3] at hfs
   have xl : s.a * 3 + 3 ≤ (spV L n).length := by rw [sp_len]; omega
   have lt3 : t < ((h1.push (.cells 0 false [.int .i64 0, .int .i64 0, .int .i64 0])).set h1.n (.cells 0 false [.int .i64 (s.a : Int), .int .i64 (s.k : Int), .int .i64 s.t])).n := by omega
   have ls3 : so < ((h1.push (.cells 0 false [.int .i64 0, .int .i64 0, .int .i64 0])).set h1.n (.cells 0 false [.int .i64 (s.a : Int), .int .i64 (s.k : Int), .int .i64 s.t])).n := by omega
   simp -implicitDefEqProofs (disch := first|decide|assumption|omega|(simp -implicitDefEqProofs only [AM.RN];first|done|omega)|fail) only [↓AM.R0,AM.R1,AM.R2,Nat.reduceAdd,Nat.reduceLeDiff,Nat.reduceEqDiff,Int.reduceToNat,Nat.reduceLT,↓reduceIte,Int.reduceEq,Int.reduceLT,Int.reduceLE,encF,encT,g1,g2,x3,hfs,xl]
   have F1 := f1.wide (G := p.F ++ [t,so,oo]) (G' := p.F ++ [t,so,oo]) (by simp) (fun j hj => .inr hj) flt
   have fb' := fb.wide (G := p.F ++ [t,so,oo]) (G' := p.F ++ [t,so,oo]) (by simp) (fun j hj => .inr hj) F1.lt
   generalize (h1.push (.cells 0 false [.int .i64 0, .int .i64 0, .int .i64 0])).set h1.n (.cells 0 false [.int .i64 (s.a : Int), .int .i64 (s.k : Int), .int .i64 s.t]) = h3 at *
   have R3 := R1.keep fb
   have fC := (F1.trans fb').trans (HFrame.set h3 so (.cells 0 false (spV (remF L s.a) n)) (F := p.F ++ [t,so,oo]) (by simp) fb'.lt)
   have fc := HFrame.set h3 so (.cells 0 false (spV (remF L s.a) n)) (F := [so]) (by simp) (by simpa using ls3)
   have K4 := R3.K.keepD fc (fun j hj hm => by simp at hm; subst hm; exact n2 hj)
   have t1 := (fc.get t (by omega) (by simpa using e1)).trans R3.obj
   have t2 := AHeap.get_set_same h3 so (.cells 0 false (spV (remF L s.a) n))
   obtain ⟨ow,o1,o2,o3⟩ := R3.ow
   have t3 := (fc.get oo (by omega) (by simpa using Ne.symm e3)).trans o2
   have n4 : (h3.set so (.cells 0 false (spV (remF L s.a) n))).n = h3.n := by simp
   have T4 := T.frame fC h0
   generalize h3.set so (.cells 0 false (spV (remF L s.a) n)) = h4 at *
   have hused : ∀ q,s.a ≤ q → q < s.a + s.k → fw ws q = false := fun q z1 z2 => (R.I.cov q (by omega)).2 ⟨s,q2,z1,z2⟩
   refine AM.trCall_of (freeW T4 K4 (s.a : Int) (s.k : Int)) ?_
   rintro v h5 ⟨ws5,lv5,f5,K5,A5⟩
   obtain ⟨d5,rfl⟩ := A5.yes hs1.1 hs1.2 hused
   have hn5 := f5.n
   simp -implicitDefEqProofs (disch := first|decide|assumption|omega|(simp -implicitDefEqProofs only [AM.RN];first|done|omega)|fail) only [↓AM.R0,AM.R1,AM.R2,Nat.reduceAdd,Nat.reduceLeDiff,Nat.reduceEqDiff,Int.reduceToNat,Nat.reduceLT,↓reduceIte,Int.reduceEq,Int.reduceLT,Int.reduceLE]
   subst hQ
   refine ⟨ws5,lv5,remF L s.a,fC.trans (f5.wide (fun j hj => List.mem_append_left _ hj) (fun j hj => .inr hj) fC.lt), ?_, .inl ⟨s,q2,rfl,d5,rfl,rfl⟩⟩
   exact ⟨K5,R.I.rem q2 d5, (f5.get t (by omega) n1).trans t1, (f5.get so (by omega) n2).trans t2, ⟨ow,o1, (f5.get oo (by omega) n3).trans t3,fun s' hs' => o3 s' (mem_remF.1 hs').1⟩, ⟨by omega,by omega,by omega⟩, R.ne,R.nF⟩
end Go.Proofs.YthillgheddpmhaaDoor.Pg
namespace Go.Proofs.YthillgheddpmhaaDoor.Pg
open Go Go.AM Go.Proofs.YthillgheddpmhaaDoor.AmGE
attribute [local irreducible] AM.wp AM.wpIs AM.wpTr AM.opI AM.gI AM.cI AM.trI AM.callI AM.fnI AM.yldI AM.rangeI AM.rangeC AM.YldP AM.asgQ AM.roundQ AM.rangeQ AM.trG AM.trOp AM.trCall AM.seqC AM.loopI
set_option maxRecDepth 100000
set_option linter.unusedVariables false
set_option linter.unusedSimpArgs false
theorem zero3 : ∀ k : Nat, (List.range (k * 3)).map (fun i => [AVal.int .i64 0,AVal.int .i64 0,AVal.int .i64 0].getD (i % 3) .undef) = spV [] k
 | 0 => rfl
 | k + 1 => by
  rw [spV,List.range_succ,List.flatMap_append, ← spV, ← zero3 k,Nat.succ_mul,List.range_add,List.map_append]
  congr 1
  rw [List.map_map]
  have : ∀ i : Nat, (k * 3 + i) % 3 = i % 3 := fun i => by omega
  simp [this,List.range_succ,encT,atL,zSp]
theorem ms3 {h : AHeap} {k : Nat} (hk : k ≤ 1000000) : msV h 3 24 [.int .i64 0, .int .i64 0, .int .i64 0] (.int .i64 (k : Int)) = some (.sl h.n 0 0 k 3,h.push (.cells 0 false (spV [] k))) := by
 unfold msV
 simp only [Int.toNat_natCast]
 rw [if_pos ⟨by omega,by omega,by omega⟩, zero3]
theorem zeroI : ∀ k : Nat, (List.range (k * 1)).map (fun i => [AVal.int .i64 0].getD (i % 1) .undef) = owV (List.replicate k 0)
 | 0 => rfl
 | k + 1 => by
  unfold owV at *
  rw [List.replicate_succ', List.map_append, ← owV, ← zeroI k,Nat.succ_mul,List.range_add,List.map_append]
  congr 1
  simp [Nat.mod_one]
theorem msI {h : AHeap} {k : Nat} (hk : k ≤ 1000000) : msV h 1 8 [.int .i64 0] (.int .i64 (k : Int)) = some (.sl h.n 0 0 k 1,h.push (.cells 0 false (owV (List.replicate k 0)))) := by
 unfold msV
 simp only [Int.toNat_natCast]
 rw [if_pos ⟨by omega,by omega,by omega⟩, zeroI]
theorem SInv.nil {n : Nat} {f : Nat → Bool} (hf : ∀ q,q < n → f q = true) : SInv n f [] :=
 ⟨fun s h => by simp at h,fun q hq => by rw [hf q hq]; simp,List.Pairwise.nil⟩
set_option maxHeartbeats 4000000 in
theorem newS {h : AHeap} (T : TabR h) (n : Int) : CallP AP 30 [.int .i64 n] h fun r h' => (¬ (1 ≤ n ∧ n ≤ 4096) ∧ HFrame h h' [] [] ∧ r = .tup [.nilp, .int .i64 1]) ∨
  (1 ≤ n ∧ n ≤ 4096 ∧ ∃ t so oo p ws lv,HFrame h h' [] (p.F ++ [t,so,oo]) ∧ TabP h' t so oo p n.toNat ws lv [] ∧ (∀ q,fw ws q = decide (q < n.toNat)) ∧ r = .tup [.ptr t 0 0, .int .i64 0]) := by
 refine callP (rfl : Tr.get AP 30 = some A30) ?_
 generalize hQ : (fun (r : AVal) (h' : AHeap) => _) = Q
 simp -implicitDefEqProofs (disch := first|decide|assumption|omega|(simp -implicitDefEqProofs only [AM.RN];first|done|omega)|fail) only [↓AM.R0,AM.R1,AM.R2,Nat.reduceAdd,Nat.reduceLeDiff,Nat.reduceEqDiff,Int.reduceToNat,Nat.reduceLT,↓reduceIte,Int.reduceEq,Int.reduceLT,Int.reduceLE]
 refine AM.callI_of (newW T n) ?_
 rintro v h1 (⟨c,f1,rfl⟩ | ⟨n1,n2,p,ws,lv,f1,K,hf,rfl⟩)
 ·simp -implicitDefEqProofs (disch := first|decide|assumption|omega|(simp -implicitDefEqProofs only [AM.RN];first|done|omega)|fail) only [↓AM.R0,AM.R1,AM.R2,Nat.reduceAdd,Nat.reduceLeDiff,Nat.reduceEqDiff,Int.reduceToNat,Nat.reduceLT,↓reduceIte,Int.reduceEq,Int.reduceLT,Int.reduceLE]
  subst hQ
  exact .inl ⟨c,f1,rfl⟩
 ·obtain ⟨n,rfl⟩ : ∃ a : Nat,n = a := ⟨n.toNat,by omega⟩
  rw [Int.toNat_natCast] at K hf
  have m3 := ms3 (h := h1) (k := n) (by omega)
  have mI := msI (h := h1.push (.cells 0 false (spV [] n))) (k := n) (by omega)
  have fA := HFrame.push h1 (.cells 0 false (spV [] n)) K.R.lt
  have fB := fA.trans (HFrame.push (h1.push (.cells 0 false (spV [] n))) (.cells 0 false (owV (List.replicate n 0))) fA.lt)
  simp -implicitDefEqProofs (disch := first|decide|assumption|omega|(simp -implicitDefEqProofs only [AM.RN];first|done|omega)|fail) only [↓AM.R0,AM.R1,AM.R2,Nat.reduceAdd,Nat.reduceLeDiff,Nat.reduceEqDiff,Int.reduceToNat,Nat.reduceLT,↓reduceIte,Int.reduceEq,Int.reduceLT,Int.reduceLE,m3,mI]
  subst hQ
  refine .inr ⟨by omega,by omega,h1.n + 2,h1.n,h1.n + 1,p,ws,lv, ?_, ?_,by rw [Int.toNat_natCast]; exact hf,rfl⟩
  ·refine ⟨?_, ?_,fun j hj _ => ?_,fun j hj => .inr ?_,fun j hj => ?_⟩
   ·have := f1.n; simp; omega
   ·exact f1.g
   ·have := f1.n
    rw [AHeap.get_push_ne _ _ (by simp; omega), AHeap.get_push_ne _ _ (by simp; omega), AHeap.get_push_ne _ _ (by omega)]; exact f1.get j hj (by simp)
   ·have := f1.n
    simp only [List.mem_append,List.mem_cons,List.not_mem_nil,or_false] at hj
    rcases hj with hj | rfl | rfl | rfl
    ·rcases f1.new j hj with e | e
     ·simp at e
     ·exact e
    ·omega
    ·omega
    ·omega
   ·simp only [List.mem_append,List.mem_cons,List.not_mem_nil,or_false] at hj
    rcases hj with hj | rfl | rfl | rfl
    ·have := K.R.lt j hj; simp; omega
    ·simp
    ·simp; omega
    ·simp
  ·rw [Int.toNat_natCast]
   have nF : ∀ j,h1.n ≤ j → j ∉ p.F := fun j hj hm => by have := K.R.lt j hm; omega
   have fq := (((HFrame.refl (h := h1) (F := []) (by simp)).pushTmp (.cells 0 false (spV [] n))).pushTmp (.cells 0 false (owV (List.replicate n 0)))).pushTmp (.cells 0 false [.ptr p.id 0 0, .sl h1.n 0 0 n 3, .sl (h1.n + 1) 0 0 n 1])
   refine ⟨K.keep fq,SInv.nil fun q hq => by rw [hf]; exact decide_eq_true hq, ?_, ?_, ⟨List.replicate n 0,by simp, ?_,fun s hs => by simp at hs⟩, ⟨by simp,by simp; omega,by simp⟩, ⟨by omega,by omega,by omega⟩, ⟨nF _ (by omega), nF _ (by omega), nF _ (by omega)⟩⟩
   ·have : ((h1.push (.cells 0 false (spV [] n))).push (.cells 0 false (owV (List.replicate n 0)))).n = h1.n + 2 := by simp
    rw [← this,AHeap.get_push_same]
   ·rw [AHeap.get_push_ne _ _ (by simp; omega), AHeap.get_push_ne _ _ (by simp), AHeap.get_push_same]
   ·have : (h1.push (.cells 0 false (spV [] n))).n = h1.n + 1 := by simp
    rw [AHeap.get_push_ne _ _ (by simp), ← this,AHeap.get_push_same]
end Go.Proofs.YthillgheddpmhaaDoor.Pg
namespace Go.Proofs.YthillgheddpmhaaDoor.Pg
open Go Go.AM Go.Proofs.YthillgheddpmhaaDoor.AmGE
attribute [local irreducible] AM.wp AM.wpIs AM.wpTr AM.opI AM.gI AM.cI AM.trI AM.callI AM.fnI AM.yldI AM.rangeI AM.rangeC AM.YldP AM.asgQ AM.roundQ AM.rangeQ AM.trG AM.trOp AM.trCall AM.seqC AM.loopI
set_option maxRecDepth 100000
set_option linter.unusedVariables false
set_option linter.unusedSimpArgs false
theorem allS {h : AHeap} {t : Nat} : CallP AP 64 [.ptr t 0 0] h fun r h' => h' = h.push (.cells 0 false [.ptr t 0 0]) ∧ r = .fn (.func 85) [] [.ptr h.n 0 0] := by
 refine callP (rfl : Tr.get AP 64 = some A64) ?_
 generalize hQ : (fun (r : AVal) (h' : AHeap) => _) = Q
 simp -implicitDefEqProofs (disch := first|decide|assumption|omega|(simp -implicitDefEqProofs only [AM.RN];first|done|omega)|fail) only [↓AM.R0,AM.R1,AM.R2,Nat.reduceAdd,Nat.reduceLeDiff,Nat.reduceEqDiff,Int.reduceToNat,Nat.reduceLT,↓reduceIte,Int.reduceEq,Int.reduceLT,Int.reduceLE]
 subst hQ
 exact ⟨rfl,rfl⟩
theorem srt_len {n : Nat} : ∀ (L : List Sp) (x : Nat), L.Pairwise (fun s t => s.a + s.k ≤ t.a) → (∀ s,s ∈ L → 1 ≤ s.k ∧ s.a + s.k ≤ n ∧ x ≤ s.a) → L = [] ∨ L.length + x ≤ n
 | [],_,_,_ => .inl rfl
 | s :: l,x,hp,hs => by
  right
  rw [List.pairwise_cons] at hp
  obtain ⟨h1,h2,h3⟩ := hs s List.mem_cons_self
  rcases srt_len l (s.a + s.k) hp.2 (fun t ht => ⟨(hs t (List.mem_cons_of_mem _ ht)).1, (hs t (List.mem_cons_of_mem _ ht)).2.1,hp.1 t ht⟩) with rfl | q
  ·simp; omega
  ·simp; omega
theorem SInv.len {n : Nat} {f : Nat → Bool} {L : List Sp} (I : SInv n f L) : L.length ≤ n := by
 rcases srt_len (n := n) L 0 I.srt (fun s hs => ⟨(I.c1 s hs).1, (I.c1 s hs).2,by omega⟩) with rfl | q
 ·simp
 ·omega
end Go.Proofs.YthillgheddpmhaaDoor.Pg
namespace Go.Proofs.YthillgheddpmhaaDoor.Pg
open Go Go.AM Go.Proofs.YthillgheddpmhaaDoor.AmGE
attribute [local irreducible] AM.wp AM.wpIs AM.wpTr AM.opI AM.gI AM.cI AM.trI AM.callI AM.fnI AM.yldI AM.rangeI AM.rangeC AM.YldP AM.asgQ AM.roundQ AM.rangeQ AM.trG AM.trOp AM.trCall AM.seqC AM.loopI
set_option maxRecDepth 100000
set_option linter.unusedVariables false
set_option linter.unusedSimpArgs false
theorem AllocS.here {f g : Nat → Bool} {L L' : List Sp} {k : Nat} {tag : Int} {r : AVal} (R : AllocS f g L L' (k : Int) tag r) (k1 : 1 ≤ k) {p : Nat} (rp : Row f p k) : ∃ a : Nat,FirstAt f k a ∧ (∀ q : Nat,g q = if a ≤ q ∧ q < a + k then false else f q) ∧ L' = insF L ⟨a,k,tag⟩ ∧ r = .tup [.agg (encT ⟨a,k,tag⟩), .int .i64 0] := by
 obtain ⟨v,A,B⟩ := R
 rcases A with ⟨h1,_⟩ | ⟨_,h2,_⟩ | ⟨_,a,h3,h4,h5⟩
 ·omega
 ·rw [Int.toNat_natCast] at h2
  exact absurd rp (h2 p)
 ·rw [Int.toNat_natCast] at h3 h4
  rcases B with ⟨e,b1,b2,b3,b4⟩ | ⟨x,b1,b2,b3,b4⟩
  ·rw [h5] at b2; simp at b2; omega
  ·rw [h5] at b1; simp at b1
   rw [Int.toNat_natCast] at b3 b4
   have hx : x = a := by omega
   subst hx
   exact ⟨x,h3,h4,b3,b4⟩
theorem FreeS.yes {n : Nat} {f g : Nat → Bool} {L L' : List Sp} {r : AVal} (I : SInv n f L) {s : Sp} (hs : s ∈ L) (R : FreeS f g L L' (s.a : Int) r) : (∀ q,g q = if s.a ≤ q ∧ q < s.a + s.k then true else f q) ∧ L' = remF L s.a ∧ r = .int .i64 0 := by
 rcases R with ⟨s', a1,a2,a3,a4,a5⟩ | ⟨b1,_⟩
 ·have := I.same a1 hs (by omega)
  subst this
  exact ⟨a3,a4,a5⟩
 ·exact absurd rfl (b1 s hs)
theorem FreeS.no {f g : Nat → Bool} {L L' : List Sp} {b : Int} {r : AVal} (h : ∀ s,s ∈ L → (s.a : Int) ≠ b) (R : FreeS f g L L' b r) : g = f ∧ L' = L ∧ r = .int .i64 4 := by
 rcases R with ⟨s', a1,a2,a3,a4,a5⟩ | ⟨b1,b2⟩
 ·exact absurd a2 (h s' a1)
 ·exact b2
end Go.Proofs.YthillgheddpmhaaDoor.Pg
namespace Go.Proofs.YthillgheddpmhaaDoor.Pg
set_option maxRecDepth 100000
/-- Set bits among the first n. -/
def pc : Nat → Nat → Nat
 | 0,_ => 0
 | n + 1,x => x % 2 + pc n (x / 2)
theorem pc_add (a : Nat) : ∀ (m x : Nat), pc (m + a) x = pc m x + pc a (x / 2 ^ m)
 | 0,x => by simp [pc]
 | m + 1,x => by
  rw [show m + 1 + a = (m + a) + 1 by omega,pc,pc_add a m,pc,Nat.div_div_eq_div_mul,Nat.pow_succ,Nat.mul_comm (2 ^ m) 2]; omega
theorem pc_mod : ∀ (m x y : Nat), x % 2 ^ m = y % 2 ^ m → pc m x = pc m y
 | 0,_,_,_ => rfl
 | m + 1,x,y,h => by
  rw [Nat.pow_succ,Nat.mul_comm,Nat.mod_mul,Nat.mod_mul] at h
  rw [pc,pc,pc_mod m (x / 2) (y / 2) (by omega)]
  omega
/-- A byte,and what stands ahead of it. -/
theorem and_byte (b r m M : Nat) (hb : b < 256) (hm : m < 256) : (b + 256 * r) &&& (m + 256 * M) = (b &&& m) + 256 * (r &&& M) := by
 apply Nat.eq_of_testBit_eq
 intro i
 have e : ∀ {x y : Nat}, x < 256 → (x + 256 * y).testBit i = if i < 8 then x.testBit i else y.testBit (i - 8) := fun {x y} hx => by
  have h1 : x + 256 * y = 2 ^ 8 * y + x := by omega
  rw [h1,Nat.testBit_two_pow_mul_add _ (by simpa using hx)]
 have hbm : b &&& m < 256 := Nat.lt_of_le_of_lt Nat.and_le_left hb
 rw [Nat.testBit_and,e hb,e hm,e hbm]
 split
 ·rw [Nat.testBit_and]
 ·rw [Nat.testBit_and]
def rep (m : Nat) : Nat → Nat
 | 0 => 0
 | n + 1 => m + 256 * rep m n
def s1 (n x : Nat) : Nat := (x / 2 &&& rep 85 n) + (x &&& rep 85 n)
def s2 (n x : Nat) : Nat := (x / 4 &&& rep 51 n) + (x &&& rep 51 n)
def s3 (n x : Nat) : Nat := (x / 16 + x) &&& rep 15 n
/-- A byte's own sums. -/
def g1 (b : Nat) : Nat := (b / 2 &&& 85) + (b &&& 85)
def g2 (b : Nat) : Nat := (b / 4 &&& 51) + (b &&& 51)
def g3 (b : Nat) : Nat := (b / 16 + b) &&& 15
theorem dec1 : ∀ b : Fin 256, ∀ t : Fin 2, (b.1 / 2 + t.1 * 128) &&& 85 = (b.1 / 2 &&& 85) := by decide
theorem dec2 : ∀ b : Fin 256, ∀ t : Fin 4, (b.1 / 4 + t.1 * 64) &&& 51 = (b.1 / 4 &&& 51) := by decide
theorem dec4 : ∀ b : Fin 256,g1 b.1 < 256 ∧ g2 (g1 b.1) < 256 ∧ g2 (g1 b.1) % 16 ≤ 4 ∧ g2 (g1 b.1) / 16 ≤ 4 ∧ g3 (g2 (g1 b.1)) = pc 8 b.1 ∧ pc 8 b.1 ≤ 8 := by decide
theorem dec5 : ∀ a : Fin 5, ∀ b : Fin 5, ∀ t : Fin 5, ((16 * a.1 + b.1) / 16 + t.1 * 16 + (16 * a.1 + b.1)) < 256 ∧ ((16 * a.1 + b.1) / 16 + t.1 * 16 + (16 * a.1 + b.1)) &&& 15 = g3 (16 * a.1 + b.1) := by decide
theorem s1_byte {b r n : Nat} (hb : b < 256) : s1 (n + 1) (b + 256 * r) = g1 b + 256 * s1 n r := by
 have h1 : (b + 256 * r) / 2 = (b / 2 + (r % 2) * 128) + 256 * (r / 2) := by omega
 have hr : rep 85 (n + 1) = 85 + 256 * rep 85 n := rfl
 unfold s1
 rw [hr,h1,and_byte _ _ _ _ (by omega) (by decide), and_byte _ _ _ _ hb (by decide)]
 have := dec1 ⟨b,hb⟩ ⟨r % 2,Nat.mod_lt _ (by decide)⟩
 simp only at this
 rw [this,g1]; omega
theorem s2_byte {b r n : Nat} (hb : b < 256) : s2 (n + 1) (b + 256 * r) = g2 b + 256 * s2 n r := by
 have h1 : (b + 256 * r) / 4 = (b / 4 + (r % 4) * 64) + 256 * (r / 4) := by omega
 have hr : rep 51 (n + 1) = 51 + 256 * rep 51 n := rfl
 unfold s2
 rw [hr,h1,and_byte _ _ _ _ (by omega) (by decide), and_byte _ _ _ _ hb (by decide)]
 have := dec2 ⟨b,hb⟩ ⟨r % 4,Nat.mod_lt _ (by decide)⟩
 simp only at this
 rw [this,g2]; omega
/-- The bytes' sums. -/
def bs : Nat → Nat → Nat
 | 0,_ => 0
 | n + 1,x => pc 8 (x % 256) + 256 * bs n (x / 256)
theorem s21 : ∀ (n x : Nat), x < 256 ^ n → s2 n (s1 n x) % 16 ≤ 4 ∧ s3 n (s2 n (s1 n x)) = bs n x
 | 0,x,h => by
  have : x = 0 := by simpa using h
  subst this
  decide
 | n + 1,x,h => by
  have hx : x = x % 256 + 256 * (x / 256) := by omega
  have hb : x % 256 < 256 := Nat.mod_lt _ (by decide)
  obtain ⟨i1,i2⟩ := s21 n (x / 256) (by rw [Nat.pow_succ] at h; omega)
  obtain ⟨d1,d2,d3,d4,d5,d6⟩ := dec4 ⟨x % 256,hb⟩
  simp only at d1 d2 d3 d4 d5 d6
  have e1 : s1 (n + 1) x = g1 (x % 256) + 256 * s1 n (x / 256) := by
   have := s1_byte (b := x % 256) (r := x / 256) (n := n) hb
   rwa [← hx] at this
  have e2 : s2 (n + 1) (s1 (n + 1) x) = g2 (g1 (x % 256)) + 256 * s2 n (s1 n (x / 256)) := by rw [e1,s2_byte d1]
  rw [e2]
  generalize hG : g2 (g1 (x % 256)) = G at *
  generalize hS : s2 n (s1 n (x / 256)) = S at *
  refine ⟨by omega, ?_⟩
  have h3 : (G + 256 * S) / 16 + (G + 256 * S) = (G / 16 + (S % 16) * 16 + G) + 256 * (S / 16 + S) := by omega
  obtain ⟨q1,q2⟩ := dec5 ⟨G / 16,by omega⟩ ⟨G % 16,by omega⟩ ⟨S % 16,by omega⟩
  simp only [show 16 * (G / 16) + G % 16 = G by omega] at q1 q2
  have hr : rep 15 (n + 1) = 15 + 256 * rep 15 n := rfl
  unfold s3
  rw [hr,h3,and_byte _ _ _ _ q1 (by decide), q2,d5,bs]
  have := i2
  unfold s3 at this
  rw [this]
theorem bs_lt : ∀ n x,bs n x * 255 + 8 ≤ 8 * 256 ^ n
 | 0,_ => by simp [bs]
 | n + 1,x => by
  have h1 := bs_lt n (x / 256)
  have h2 := (dec4 ⟨x % 256,Nat.mod_lt _ (by decide)⟩).2.2.2.2.2
  simp only at h2
  rw [bs,Nat.pow_succ]; omega
theorem pc_bytes (x : Nat) : pc 64 x = pc 8 (x % 256) + (pc 8 (x / 256 % 256) + (pc 8 (x / 65536 % 256) + (pc 8 (x / 16777216 % 256) + (pc 8 (x / 4294967296 % 256) + (pc 8 (x / 1099511627776 % 256) + (pc 8 (x / 281474976710656 % 256) + pc 8 (x / 72057594037927936 % 256))))))) := by
 have m : ∀ y,pc 8 y = pc 8 (y % 256) := fun y => pc_mod 8 _ _ (by simp)
 rw [show (64 : Nat) = 8 + 56 from rfl,pc_add,show (56 : Nat) = 8 + 48 from rfl,pc_add,show (48 : Nat) = 8 + 40 from rfl,pc_add,show (40 : Nat) = 8 + 32 from rfl,pc_add,show (32 : Nat) = 8 + 24 from rfl,pc_add,show (24 : Nat) = 8 + 16 from rfl,pc_add,show (16 : Nat) = 8 + 8 from rfl,pc_add]
 simp only [Nat.div_div_eq_div_mul,Nat.reducePow,Nat.reduceMul]
 rw [m x,m (x / 256), m (x / 65536), m (x / 16777216), m (x / 4294967296), m (x / 1099511627776), m (x / 281474976710656), m (x / 72057594037927936)]
end Go.Proofs.YthillgheddpmhaaDoor.Pg
namespace Go.Proofs.YthillgheddpmhaaDoor.Pg
open Go Go.AM Go.Proofs.YthillgheddpmhaaDoor.AmGE
set_option maxRecDepth 100000
set_option linter.unusedVariables false
set_option linter.unusedSimpArgs false
/-- A block: where it begins,its pages,its class (-1: one great cell, -2: pages alone), which cells are used,who holds it. -/
structure Blk where
 a : Nat
 k : Nat
 c : Int
 u : Nat
 w : Option Nat
def Blk.sp (b : Blk) : Sp := ⟨b.a,b.k,if b.c = -2 then 0 else b.c + 1⟩
def sizeT : List Nat := [1,2,3,4,5,6,8,10,12,16,20,24,32,40,48,64]
def pageT : List Nat := [1,1,1,1,1,1,1,1,1,1,1,2,1,2,3,1]
def cellT : List Nat := [64,32,21,16,12,10,8,6,5,4,3,5,2,3,4,1]
def clsOf (w : Nat) : Nat := (sizeT.filter fun s => decide (s < w)).length
def Blk.ws (b : Blk) : Nat := if b.c < 0 then b.k * 64 else sizeT.getD b.c.toNat 0
def Blk.nc (b : Blk) : Nat := if b.c < 0 then (if b.c = -1 then 1 else 0) else cellT.getD b.c.toNat 0
def Blk.full (b : Blk) : Bool := decide (pc 64 b.u = cellT.getD b.c.toNat 0)
structure Cm where
 n : Nat
 pr : Nat
 bl : List Blk
def Cm.L (m : Cm) : List Sp := m.bl.map Blk.sp
def Cm.f (m : Cm) (q : Nat) : Bool := decide (q < m.n) && m.bl.all fun b => !(decide (b.a ≤ q) && decide (q < b.a + b.k))
def fit (f : Nat → Bool) (n k : Nat) : Option Nat := (List.range n).find? fun a => (List.range k).all fun t => f (a + t)
def insB : List Blk → Blk → List Blk
 | [],s => [s]
 | t :: l,s => if s.a < t.a then s :: t :: l else t :: insB l s
def Cm.get (m : Cm) (a : Nat) : Option Blk := m.bl.find? fun b => b.a == a
def Cm.upd (m : Cm) (a : Nat) (g : Blk → Blk) : Cm := { m with bl := m.bl.map fun b => if b.a = a then g b else b }
def Cm.rem (m : Cm) (a : Nat) : Cm := { m with bl := m.bl.filter fun b => b.a != a }
def Cm.ins (m : Cm) (b : Blk) : Cm := { m with bl := insB m.bl b }
def Blk.setU (u : Nat) (b : Blk) : Blk := { b with u := u }
def Blk.setW (w : Option Nat) (b : Blk) : Blk := { b with w := w }
def Cm.cells (m : Cm) : Nat := (m.bl.map fun b => pc 64 b.u).sum
def Cm.words (m : Cm) : Nat := (m.bl.map fun b => pc 64 b.u * b.ws).sum
theorem mem_insB : ∀ {L : List Blk} {s x : Blk}, x ∈ insB L s ↔ x = s ∨ x ∈ L
 | [],s,x => by simp [insB]
 | t :: l,s,x => by
  rw [insB]
  split
  ·simp
  ·rw [List.mem_cons,mem_insB,List.mem_cons]
   constructor
   ·rintro (h | h | h)
    ·exact .inr (.inl h)
    ·exact .inl h
    ·exact .inr (.inr h)
   ·rintro (h | h | h)
    ·exact .inr (.inl h)
    ·exact .inl h
    ·exact .inr (.inr h)
theorem insB_sp : ∀ (L : List Blk) (s : Blk), (insB L s).map Blk.sp = insF (L.map Blk.sp) s.sp
 | [],s => rfl
 | t :: l,s => by
  rw [insB,List.map_cons,insF]
  show _ = if s.a < t.a then _ else _
  split
  ·rfl
  ·rw [List.map_cons,insB_sp l s]
theorem insB_sum (g : Blk → Nat) : ∀ (L : List Blk) (s : Blk), ((insB L s).map g).sum = g s + (L.map g).sum
 | [],s => rfl
 | t :: l,s => by
  rw [insB]
  split
  ·simp
  ·simp only [List.map_cons,List.sum_cons,insB_sum g l s]; omega
theorem upd_sp {m : Cm} {a : Nat} {g : Blk → Blk} (h : ∀ b, (g b).sp = b.sp) : (m.upd a g).L = m.L := by
 simp only [Cm.L,Cm.upd,List.map_map]
 apply List.map_congr_left
 intro b hb
 simp only [Function.comp]
 split
 ·exact h b
 ·rfl
theorem sp_setU (u : Nat) (b : Blk) : (Blk.setU u b).sp = b.sp := rfl
theorem sp_setW (u : Option Nat) (b : Blk) : (Blk.setW u b).sp = b.sp := rfl
theorem rem_sp (m : Cm) (a : Nat) : (m.rem a).L = remF m.L a := by
 simp only [Cm.L,Cm.rem,remF,List.filter_map]
 rfl
theorem ins_sp (m : Cm) (b : Blk) : (m.ins b).L = insF m.L b.sp := insB_sp _ _
theorem f_out (m : Cm) {q : Nat} (h : m.n ≤ q) : m.f q = false := by
 unfold Cm.f
 rw [decide_eq_false (by omega : ¬ q < m.n), Bool.false_and]
theorem f_false (m : Cm) {q : Nat} (h : q < m.n) : m.f q = false ↔ ∃ b,b ∈ m.bl ∧ b.a ≤ q ∧ q < b.a + b.k := by
 unfold Cm.f
 rw [decide_eq_true h,Bool.true_and,List.all_eq_false]
 constructor
 ·rintro ⟨b,hb,h2⟩
  refine ⟨b,hb, ?_⟩
  simpa using h2
 ·rintro ⟨b,hb,h2⟩
  refine ⟨b,hb, ?_⟩
  simpa using h2
/-- What a table of spans says of free pages. -/
theorem SInv.f_eq {m : Cm} {f : Nat → Bool} (I : SInv m.n f m.L) (ho : ∀ q,m.n ≤ q → f q = false) : f = m.f := by
 funext q
 rcases Nat.lt_or_ge q m.n with h | h
 ·have h1 := I.cov q h
  have h2 := f_false m h
  have h3 : (∃ s,s ∈ m.L ∧ s.a ≤ q ∧ q < s.a + s.k) ↔ ∃ b,b ∈ m.bl ∧ b.a ≤ q ∧ q < b.a + b.k := by
   constructor
   ·rintro ⟨s,hs,h⟩
    obtain ⟨b,hb,rfl⟩ := List.mem_map.1 hs
    exact ⟨b,hb,h⟩
   ·rintro ⟨b,hb,h⟩
    exact ⟨b.sp,List.mem_map.2 ⟨b,hb,rfl⟩, h⟩
  have : f q = false ↔ m.f q = false := h1.trans (h3.trans h2.symm)
  cases e1 : f q <;> cases e2 : m.f q <;> simp [e1,e2] at this <;> rfl
 ·rw [ho q h,f_out m h]
theorem fit_some {f : Nat → Bool} {n k a : Nat} (hk : 1 ≤ k) (ho : ∀ q,n ≤ q → f q = false) : fit f n k = some a ↔ FirstAt f k a := by
 have hr : ∀ q, ((List.range k).all fun t => f (q + t)) = true ↔ Row f q k := fun q => by
  rw [List.all_eq_true]
  exact ⟨fun h t ht => h t (List.mem_range.2 ht), fun h t ht => h t (List.mem_range.1 ht)⟩
 constructor
 ·intro h
  unfold fit at h
  rw [List.find?_range_eq_some] at h
  obtain ⟨h1,h2,h3⟩ := h
  refine ⟨(hr a).1 h1,fun q hq hR => ?_⟩
  have := h3 q hq
  rw [(hr q).2 hR] at this
  simp at this
 ·intro h
  unfold fit
  rw [List.find?_range_eq_some]
  have ha : a < n := by
   rcases Nat.lt_or_ge a n with c | c
   ·exact c
   ·have := h.1 0 (by omega)
    rw [ho _ (by omega)] at this; cases this
  refine ⟨(hr a).2 h.1,List.mem_range.2 ha,fun q hq => ?_⟩
  have := h.2 q hq
  rw [← hr q] at this
  simpa using this
theorem fit_none {f : Nat → Bool} {n k : Nat} (hk : 1 ≤ k) (ho : ∀ q,n ≤ q → f q = false) : fit f n k = none ↔ ∀ q, ¬ Row f q k := by
 unfold fit
 rw [List.find?_range_eq_none]
 have hr : ∀ q, ((List.range k).all fun t => f (q + t)) = true ↔ Row f q k := fun q => by
  rw [List.all_eq_true]
  exact ⟨fun h t ht => h t (List.mem_range.2 ht), fun h t ht => h t (List.mem_range.1 ht)⟩
 constructor
 ·intro h q hR
  rcases Nat.lt_or_ge q n with c | c
  ·have := h q c
   rw [(hr q).2 hR] at this; simp at this
  ·have := hR 0 (by omega)
   rw [ho _ (by omega)] at this; cases this
 ·intro h q hq
  have := h q
  rw [← hr q] at this
  simpa using this
structure CInv (m : Cm) : Prop where
 S : SInv m.n m.f m.L
 B : ∀ b,b ∈ m.bl → (b.c = -2 ∧ b.u = 0 ∧ b.w = none) ∨ (b.c = -1 ∧ b.u ≤ 1 ∧ b.w = none) ∨ (∃ c : Nat,c < 16 ∧ b.c = (c : Int) ∧ b.k = pageT.getD c 0 ∧ b.u < 2 ^ cellT.getD c 0)
 H : ∀ b b' p,b ∈ m.bl → b' ∈ m.bl → b.w = some p → b'.w = some p → b.c = b'.c → b.a = b'.a
 P : ∀ b p,b ∈ m.bl → b.w = some p → p < m.pr
theorem CInv.same {m : Cm} (I : CInv m) {b b' : Blk} (hb : b ∈ m.bl) (hb' : b' ∈ m.bl) (h : b.a = b'.a) : b = b' := by
 have h1 := I.S.srt
 have h2 : m.bl.Pairwise fun s t => s.a + s.k ≤ t.a := by
  unfold Cm.L at h1
  rw [List.pairwise_map] at h1
  exact h1
 have hk : 1 ≤ b.k := (I.S.c1 b.sp (List.mem_map.2 ⟨b,hb,rfl⟩)).1
 have hk' : 1 ≤ b'.k := (I.S.c1 b'.sp (List.mem_map.2 ⟨b', hb', rfl⟩)).1
 clear h1
 generalize m.bl = l at *
 clear I
 induction l with
 | nil => simp at hb
 | cons x l ih =>
  rw [List.pairwise_cons] at h2
  rcases List.mem_cons.1 hb with e1 | e1 <;> rcases List.mem_cons.1 hb' with e2 | e2
  ·rw [e1,e2]
  ·have := h2.1 b' e2; rw [← e1] at this; omega
  ·have := h2.1 b e1; rw [← e2] at this; omega
  ·exact ih e1 e2 h2.2
theorem CInv.get {m : Cm} (I : CInv m) {b : Blk} (hb : b ∈ m.bl) : m.get b.a = some b := by
 have hs : (m.get b.a).isSome := by
  unfold Cm.get; rw [List.find?_isSome]; exact ⟨b,hb,by simp⟩
 obtain ⟨t,ht⟩ := Option.isSome_iff_exists.1 hs
 rw [ht]
 have h3 := List.find?_some ht
 have h4 := List.mem_of_find?_eq_some ht
 rw [I.same h4 hb (by simpa using h3)]
theorem CInv.bd {m : Cm} (I : CInv m) {b : Blk} (hb : b ∈ m.bl) : 1 ≤ b.k ∧ b.a + b.k ≤ m.n := I.S.c1 b.sp (List.mem_map.2 ⟨b,hb,rfl⟩)
theorem mem_upd {m : Cm} {a : Nat} {g : Blk → Blk} {x : Blk} : x ∈ (m.upd a g).bl ↔ (∃ b,b ∈ m.bl ∧ b.a = a ∧ x = g b) ∨ (x ∈ m.bl ∧ x.a ≠ a) := by
 simp only [Cm.upd,List.mem_map]
 constructor
 ·rintro ⟨b,hb,rfl⟩
  by_cases e : b.a = a
  ·rw [if_pos e]; exact .inl ⟨b,hb,e,rfl⟩
  ·rw [if_neg e]; exact .inr ⟨hb,e⟩
 ·rintro (⟨b,hb,e,rfl⟩ | ⟨hb,e⟩)
  ·exact ⟨b,hb,by rw [if_pos e]⟩
  ·exact ⟨x,hb,by rw [if_neg e]⟩
theorem upd_f {m : Cm} {a : Nat} {g : Blk → Blk} (h : ∀ b, (g b).a = b.a ∧ (g b).k = b.k) : (m.upd a g).f = m.f := by
 funext q
 unfold Cm.f Cm.upd
 simp only [List.all_map]
 congr 1
 congr 1
 funext b
 simp only [Function.comp]
 split
 ·rw [(h b).1, (h b).2]
 ·rfl
end Go.Proofs.YthillgheddpmhaaDoor.Pg
namespace Go.Proofs.YthillgheddpmhaaDoor.Pg
open Go Go.AM Go.Proofs.YthillgheddpmhaaDoor.AmGE
attribute [local irreducible] AM.wp AM.wpIs AM.wpTr AM.opI AM.gI AM.cI AM.trI AM.callI AM.fnI AM.yldI AM.rangeI AM.rangeC AM.YldP AM.asgQ AM.roundQ AM.rangeQ AM.trG AM.trOp AM.trCall AM.seqC AM.loopI
set_option maxRecDepth 100000
set_option linter.unusedVariables false
set_option linter.unusedSimpArgs false
theorem pc8_le (x : Nat) : pc 8 (x % 256) ≤ 8 := by
 have := (dec4 ⟨x % 256,Nat.mod_lt _ (by decide)⟩).2.2.2.2.2
 simpa using this
theorem fold1 (b0 R : Nat) (h : b0 ≤ 8) : (b0 + 256 * R) / 256 = R := by omega
theorem fold2 (s R : Nat) (h : s < 65536) : (s + 65536 * R) / 65536 = R := by omega
theorem fold3 (s R : Nat) (h : s < 4294967296) : (s + 4294967296 * R) / 4294967296 = R := by omega
theorem fold4 (s R : Nat) (h : s ≤ 64) : (s + 256 * R) % 128 = s := by omega
theorem fold_ones (b0 b1 b2 b3 b4 b5 b6 b7 : Nat) (h0 : b0 ≤ 8) (h1 : b1 ≤ 8) (h2 : b2 ≤ 8) (h3 : b3 ≤ 8) (h4 : b4 ≤ 8) (h5 : b5 ≤ 8) (h6 : b6 ≤ 8) (h7 : b7 ≤ 8) (y t1 t2 t3 : Nat)
  (hy : y = b0 + 256 * (b1 + 256 * (b2 + 256 * (b3 + 256 * (b4 + 256 * (b5 + 256 * (b6 + 256 * b7))))))) (e1 : t1 = y + y / 256) (e2 : t2 = t1 + t1 / 65536) (e3 : t3 = t2 + t2 / 4294967296) :
  t3 % 128 = b0 + (b1 + (b2 + (b3 + (b4 + (b5 + (b6 + b7)))))) := by
 rw [hy,fold1 _ _ h0] at e1
 clear hy
 have f1 : t1 = ((b0 + b1) + 256 * (b1 + b2)) + 65536 * ((b2 + b3) + 256 * ((b3 + b4) + 256 * ((b4 + b5) + 256 * ((b5 + b6) + 256 * ((b6 + b7) + 256 * b7))))) := by clear e2 e3 h0 h1 h2 h3 h4 h5 h6 h7; omega
 clear e1
 have c1 : (b0 + b1) + 256 * (b1 + b2) < 65536 := by clear f1 e2 e3; omega
 rw [f1,fold2 _ _ c1] at e2
 clear f1 c1
 have f2 : t2 = ((b0 + b1 + b2 + b3) + 256 * ((b1 + b2 + b3 + b4) + 256 * ((b2 + b3 + b4 + b5) + 256 * (b3 + b4 + b5 + b6)))) + 4294967296 * ((b4 + b5 + b6 + b7) + 256 * ((b5 + b6 + b7) + 256 * ((b6 + b7) + 256 * b7))) := by clear e3 h0 h1 h2 h3 h4 h5 h6 h7; omega
 clear e2
 have c2 : (b0 + b1 + b2 + b3) + 256 * ((b1 + b2 + b3 + b4) + 256 * ((b2 + b3 + b4 + b5) + 256 * (b3 + b4 + b5 + b6))) < 4294967296 := by clear f2 e3; omega
 rw [f2,fold3 _ _ c2] at e3
 clear f2 c2
 have f4 : t3 = (b0 + (b1 + (b2 + (b3 + (b4 + (b5 + (b6 + b7))))))) + 256 * ((b1 + b2 + b3 + b4 + b5 + b6 + b7) + 256 * ((b2 + b3 + b4 + b5 + b6 + b7) + 256 * ((b3 + b4 + b5 + b6 + b7) + 256 * ((b4 + b5 + b6 + b7) + 256 * ((b5 + b6 + b7) + 256 * ((b6 + b7) + 256 * b7)))))) := by clear h0 h1 h2 h3 h4 h5 h6 h7; omega
 clear e3
 have c3 : b0 + (b1 + (b2 + (b3 + (b4 + (b5 + (b6 + b7)))))) ≤ 64 := by clear f4; omega
 rw [f4,fold4 _ _ c3]
theorem addN {a b : Nat} (h : a + b < 18446744073709551616) : IntKind.u64.wrap ((a : Int) + (b : Int)) = ((a + b : Nat) : Int) := (wrapN h).symm ▸ (by congr 1)
theorem two_c {x z c : Nat} (h : c + c < 18446744073709551616) : (x &&& c) + (z &&& c) < 18446744073709551616 := Nat.lt_of_le_of_lt (Nat.add_le_add Nat.and_le_right Nat.and_le_right) h
theorem half_add {x d m : Nat} (h : x ≤ m) : x + x / d ≤ 2 * m := by have := Nat.div_le_self x d; omega
theorem half_add' {x d m : Nat} (h : x ≤ m) : x / d + x ≤ 2 * m := by have := Nat.div_le_self x d; omega
theorem and127 (x : Nat) : x &&& 127 = x % 128 := Nat.and_two_pow_sub_one_eq_mod x 7
theorem and_i64 {h : AHeap} {a : Nat} (ha : a < 9223372036854775808) : binV h .and (.int .i64 (a : Int)) (.int .i64 127) = some (.int .i64 ((a % 128 : Nat) : Int), h) := by
 have := bin_and (h := h) .i64 (a : Int) 127 (by omega) (by show (a : Int) ≤ 9223372036854775807; omega) (by omega) (by decide)
 have e : (127 : Int).toNat = 127 := rfl
 rw [Int.toNat_natCast,e,and127] at this
 exact this
theorem y_le {w : Nat} : bs 8 w ≤ 578721382704613384 := by
 have h := bs_lt 8 w
 have e : (256 : Nat) ^ 8 = 18446744073709551616 := by decide
 rw [e] at h
 omega
theorem ones_ar (w : Nat) (hw : w < 18446744073709551616) : ∃ a b y t1 t2 t3 : Nat,
  (w / 2 &&& 6148914691236517205) + (w &&& 6148914691236517205) = a ∧ (a / 4 &&& 3689348814741910323) + (a &&& 3689348814741910323) = b ∧ (b / 16 + b) &&& 1085102592571150095 = y ∧ b / 16 + b < 18446744073709551616 ∧ y + y / 256 = t1 ∧ t1 < 18446744073709551616 ∧ t1 + t1 / 65536 = t2 ∧ t2 < 18446744073709551616 ∧ t2 + t2 / 4294967296 = t3 ∧ t3 < 9223372036854775808 ∧ t3 % 128 = pc 64 w := by
 have hA : w < 256 ^ 8 := by simpa using hw
 have q3 := (s21 8 w hA).2
 refine ⟨s1 8 w,s2 8 (s1 8 w), bs 8 w,_,_,_, ?_, ?_, ?_, ?_,rfl, ?_,rfl, ?_,rfl, ?_, ?_⟩
 ·have r1 : rep 85 8 = 6148914691236517205 := by decide
  rw [s1,r1]
 ·have r2 : rep 51 8 = 3689348814741910323 := by decide
  rw [s2,r2]
 ·have r3 : rep 15 8 = 1085102592571150095 := by decide
  rw [s3,r3] at q3
  exact q3
 ·have r2 : rep 51 8 = 3689348814741910323 := by decide
  have h2 : s2 8 (s1 8 w) ≤ 3689348814741910323 + 3689348814741910323 := by rw [s2,r2]; exact Nat.add_le_add Nat.and_le_right Nat.and_le_right
  exact Nat.lt_of_le_of_lt (half_add' h2) (by decide)
 ·exact Nat.lt_of_le_of_lt (half_add y_le) (by decide)
 ·exact Nat.lt_of_le_of_lt (half_add (half_add y_le)) (by decide)
 ·exact Nat.lt_of_le_of_lt (half_add (half_add (half_add y_le))) (by decide)
 ·rw [pc_bytes]
  refine fold_ones _ _ _ _ _ _ _ _ (pc8_le w) (pc8_le (w / 256)) (pc8_le (w / 65536)) (pc8_le (w / 16777216)) (pc8_le (w / 4294967296)) (pc8_le (w / 1099511627776)) (pc8_le (w / 281474976710656)) (pc8_le (w / 72057594037927936)) _ _ _ _ ?_ rfl rfl rfl
  simp only [bs,Nat.div_div_eq_div_mul,Nat.reduceMul,Nat.mul_zero,Nat.add_zero]
set_option maxHeartbeats 2000000 in
theorem ones {h : AHeap} {w : Nat} (hw : w < 18446744073709551616) : CallP AP 97 [.int .u64 (w : Int)] h fun r h' => h' = h ∧ r = .int .i64 (pc 64 w : Nat) := by
 refine callP (rfl : Tr.get AP 97 = some A97) ?_
 generalize hQ : (fun (r : AVal) (h' : AHeap) => _) = Q
 obtain ⟨a,b,y,t1,t2,t3,ha,hb,hy,lb,ht1,l1,ht2,l2,ht3,l3,hr⟩ := ones_ar w hw
 have la : a < 18446744073709551616 := by rw [← ha]; exact two_c (by decide)
 have l0 : b < 18446744073709551616 := by rw [← hb]; exact two_c (by decide)
 have ly : y < 18446744073709551616 := by rw [← hy]; exact Nat.lt_of_le_of_lt Nat.and_le_right (by decide)
 have lt : t3 < 18446744073709551616 := Nat.lt_trans l3 (by decide)
 have w2 : w / 2 < 18446744073709551616 := Nat.lt_of_le_of_lt (Nat.div_le_self _ _) hw
 have a4 : a / 4 < 18446744073709551616 := Nat.lt_of_le_of_lt (Nat.div_le_self _ _) la
 have d1 : w >>> 1 = w / 2 := Nat.shiftRight_eq_div_pow w 1
 have d2 : a >>> 2 = a / 4 := Nat.shiftRight_eq_div_pow a 2
 have d3 : b >>> 4 = b / 16 := Nat.shiftRight_eq_div_pow b 4
 have d4 : y >>> 8 = y / 256 := Nat.shiftRight_eq_div_pow y 8
 have d5 : t1 >>> 16 = t1 / 65536 := Nat.shiftRight_eq_div_pow t1 16
 have d6 : t2 >>> 32 = t2 / 4294967296 := Nat.shiftRight_eq_div_pow t2 32
 have g1 := addN (a := w / 2 &&& 6148914691236517205) (b := w &&& 6148914691236517205) (by rw [ha]; exact la)
 have g2 := addN (a := a / 4 &&& 3689348814741910323) (b := a &&& 3689348814741910323) (by rw [hb]; exact l0)
 have g3 := addN (a := b / 16) (b := b) lb
 have g4 := addN (a := y) (b := y / 256) (by rw [ht1]; exact l1)
 have g5 := addN (a := t1) (b := t1 / 65536) (by rw [ht2]; exact l2)
 have g6 := addN (a := t2) (b := t2 / 4294967296) (by rw [ht3]; exact lt)
 rw [ha] at g1
 rw [hb] at g2
 rw [ht1] at g4
 rw [ht2] at g5
 rw [ht3] at g6
 have g7 : IntKind.i64.wrap ((t3 : Nat) : Int) = ((t3 : Nat) : Int) := wrap64 (by omega) (by omega)
 have e1 := shr_nat (h := h) (a := w) (b := 1) (l := .u64) (by decide)
 have e2 := and_nat (h := h) (a := w / 2) (b := 6148914691236517205) w2 (by decide)
 have e3 := and_nat (h := h) (a := w) (b := 6148914691236517205) hw (by decide)
 have e4 := shr_nat (h := h) (a := a) (b := 2) (l := .u64) (by decide)
 have e5 := and_nat (h := h) (a := a / 4) (b := 3689348814741910323) a4 (by decide)
 have e6 := and_nat (h := h) (a := a) (b := 3689348814741910323) la (by decide)
 have e7 := shr_nat (h := h) (a := b) (b := 4) (l := .u64) (by decide)
 have e8 := and_nat (h := h) (a := b / 16 + b) (b := 1085102592571150095) lb (by decide)
 have e9 := shr_nat (h := h) (a := y) (b := 8) (l := .u64) (by decide)
 have ea := shr_nat (h := h) (a := t1) (b := 16) (l := .u64) (by decide)
 have eb := shr_nat (h := h) (a := t2) (b := 32) (l := .u64) (by decide)
 have ec := and_i64 (h := h) l3
 rw [d1] at e1
 rw [d2] at e4
 rw [d3] at e7
 rw [d4] at e9
 rw [d5] at ea
 rw [d6] at eb
 rw [hy] at e8
 clear ha hb hy lb ht1 l1 ht2 l2 ht3 hw la l0 ly lt w2 a4 d1 d2 d3 d4 d5 d6
 simp only [Int.cast_ofNat_Int] at e1 e2 e3 e4 e5 e6 e7 e8 e9 ea eb
 simp -implicitDefEqProofs (disch := first | decide | fail) only [↓AM.R0,AM.R1,AM.R2,e1,e2,e3,e4,e5,e6,e7,e8,e9,ea,eb,ec,g1,g2,g3,g4,g5,g6,g7,Nat.reduceAdd,Int.reduceToNat,↓reduceIte]
 subst hQ
 exact ⟨rfl,by rw [hr]⟩
end Go.Proofs.YthillgheddpmhaaDoor.Pg
namespace Go.Proofs.YthillgheddpmhaaDoor.Pg
open Go Go.AM Go.Proofs.YthillgheddpmhaaDoor.AmGE
set_option maxRecDepth 100000
set_option linter.unusedVariables false
set_option linter.unusedSimpArgs false
def Cm.held (m : Cm) (p c : Nat) : Option Blk := m.bl.find? fun b => decide (b.c = (c : Int)) && decide (b.w = some p)
theorem held_mem {m : Cm} {p c : Nat} {b : Blk} (h : m.held p c = some b) : b ∈ m.bl ∧ b.c = (c : Int) ∧ b.w = some p := by
 have h3 := List.find?_some h
 have h4 := List.mem_of_find?_eq_some h
 simp only [Bool.and_eq_true,decide_eq_true_eq] at h3
 exact ⟨h4,h3⟩
theorem held_none {m : Cm} {p c : Nat} : m.held p c = none ↔ ∀ b,b ∈ m.bl → ¬ (b.c = (c : Int) ∧ b.w = some p) := by
 unfold Cm.held
 rw [List.find?_eq_none]
 simp only [Bool.and_eq_true,decide_eq_true_eq]
theorem CInv.held {m : Cm} (I : CInv m) {p c : Nat} {b : Blk} (hb : b ∈ m.bl) (h1 : b.c = (c : Int)) (h2 : b.w = some p) : m.held p c = some b := by
 cases e : m.held p c with
 | none => exact absurd ⟨h1,h2⟩ (held_none.1 e b hb)
 | some b' =>
  obtain ⟨q1,q2,q3⟩ := held_mem e
  rw [I.same q1 hb (I.H b' b p q1 hb q3 h2 (q2.trans h1.symm))]
theorem CInv.cls {m : Cm} (I : CInv m) {b : Blk} (hb : b ∈ m.bl) (h : 0 ≤ b.c) : ∃ c : Nat,c < 16 ∧ b.c = (c : Int) ∧ b.k = pageT.getD c 0 ∧ b.u < 2 ^ cellT.getD c 0 := by
 rcases I.B b hb with ⟨e,_⟩ | ⟨e,_⟩ | e
 ·omega
 ·omega
 ·exact e
theorem upd_bl {m : Cm} {a : Nat} {g : Blk → Blk} (hg : ∀ b, (g b).a = b.a) {x : Blk} (hx : x ∈ (m.upd a g).bl) : ∃ b,b ∈ m.bl ∧ b.a = x.a ∧ (x = b ∧ b.a ≠ a ∨ b.a = a ∧ x = g b) := by
 rcases mem_upd.1 hx with ⟨b,hb,e,rfl⟩ | ⟨hb,e⟩
 ·exact ⟨b,hb, (hg b).symm, .inr ⟨e,rfl⟩⟩
 ·exact ⟨x,hb,rfl, .inl ⟨rfl,e⟩⟩
theorem CInv.setU {m : Cm} (I : CInv m) {b : Blk} (hb : b ∈ m.bl) {u : Nat} (hu : (b.c = -1 ∧ u ≤ 1) ∨ ∃ c : Nat,c < 16 ∧ b.c = (c : Int) ∧ u < 2 ^ cellT.getD c 0) : CInv (m.upd b.a (Blk.setU u)) := by
 have hg : ∀ x : Blk, (Blk.setU u x).a = x.a := fun _ => rfl
 refine ⟨?_,fun x hx => ?_,fun x y p hx hy wx wy hc => ?_,fun x p hx wx => ?_⟩
 ·rw [upd_f (g := Blk.setU u) (fun _ => ⟨rfl,rfl⟩), upd_sp (sp_setU u)]; exact I.S
 ·rcases mem_upd.1 hx with ⟨b', hb', e,rfl⟩ | ⟨hx', _⟩
  ·obtain rfl := I.same hb' hb e
   rcases hu with ⟨h1,h2⟩ | ⟨c,h1,h2,h3⟩
   ·rcases I.B _ hb with ⟨q,_⟩ | ⟨q1,q2,q3⟩ | ⟨c,q1,q2,_⟩
    ·omega
    ·exact .inr (.inl ⟨h1,h2,q3⟩)
    ·omega
   ·rcases I.B _ hb with ⟨q,_⟩ | ⟨q1,q2,q3⟩ | ⟨c', q1,q2,q3,_⟩
    ·omega
    ·omega
    ·obtain rfl : c = c' := by omega
     exact .inr (.inr ⟨c,h1,h2,q3,h3⟩)
  ·exact I.B x hx'
 ·obtain ⟨x', hx', ex,ox⟩ := upd_bl hg hx
  obtain ⟨y', hy', ey,oy⟩ := upd_bl hg hy
  have e1 : x'.w = x.w ∧ x'.c = x.c := by rcases ox with ⟨rfl,_⟩ | ⟨_,rfl⟩ <;> exact ⟨rfl,rfl⟩
  have e2 : y'.w = y.w ∧ y'.c = y.c := by rcases oy with ⟨rfl,_⟩ | ⟨_,rfl⟩ <;> exact ⟨rfl,rfl⟩
  rw [← ex, ← ey]
  exact I.H x' y' p hx' hy' (e1.1.trans wx) (e2.1.trans wy) (by rw [e1.2,e2.2]; exact hc)
 ·obtain ⟨x', hx', ex,ox⟩ := upd_bl hg hx
  have e1 : x'.w = x.w := by rcases ox with ⟨rfl,_⟩ | ⟨_,rfl⟩ <;> rfl
  exact I.P x' p hx' (e1.trans wx)
theorem CInv.setW {m : Cm} (I : CInv m) {b : Blk} (hb : b ∈ m.bl) {w : Option Nat} {c : Nat} (hc : b.c = (c : Int)) (hw : ∀ p,w = some p → p < m.pr ∧ m.held p c = none) : CInv (m.upd b.a (Blk.setW w)) := by
 have hg : ∀ x : Blk, (Blk.setW w x).a = x.a := fun _ => rfl
 refine ⟨?_,fun x hx => ?_,fun x y p hx hy wx wy hc' => ?_,fun x p hx wx => ?_⟩
 ·rw [upd_f (g := Blk.setW w) (fun _ => ⟨rfl,rfl⟩), upd_sp (sp_setW w)]; exact I.S
 ·rcases mem_upd.1 hx with ⟨b', hb', e,rfl⟩ | ⟨hx', _⟩
  ·obtain rfl := I.same hb' hb e
   rcases I.B _ hb with ⟨q,_⟩ | ⟨q1,q2,q3⟩ | q
   ·omega
   ·omega
   ·exact .inr (.inr q)
  ·exact I.B x hx'
 ·rcases mem_upd.1 hx with ⟨b1,hb1,e1,rfl⟩ | ⟨hx', n1⟩ <;> rcases mem_upd.1 hy with ⟨b2,hb2,e2,rfl⟩ | ⟨hy', n2⟩
  ·rw [hg,hg,e1,e2]
  ·exfalso
   obtain rfl := I.same hb1 hb e1
   have h2 := held_none.1 (hw p wx).2 y hy'
   exact h2 ⟨(by rw [← hc']; exact hc), wy⟩
  ·exfalso
   obtain rfl := I.same hb2 hb e2
   have h2 := held_none.1 (hw p wy).2 x hx'
   exact h2 ⟨(by rw [hc']; exact hc), wx⟩
  ·exact I.H x y p hx' hy' wx wy hc'
 ·rcases mem_upd.1 hx with ⟨b1,hb1,e1,rfl⟩ | ⟨hx', n1⟩
  ·exact (hw p wx).1
  ·exact I.P x p hx' wx
theorem CInv.rem {m : Cm} (I : CInv m) {b : Blk} (hb : b ∈ m.bl) : CInv (m.rem b.a) := by
 have hm : ∀ x,x ∈ (m.rem b.a).bl → x ∈ m.bl := fun x hx => (List.mem_filter.1 hx).1
 refine ⟨?_,fun x hx => I.B x (hm x hx), fun x y p hx hy => I.H x y p (hm x hx) (hm y hy), fun x p hx => I.P x p (hm x hx)⟩
 rw [rem_sp]
 have hs : b.sp ∈ m.L := List.mem_map.2 ⟨b,hb,rfl⟩
 refine I.S.rem hs fun q => ?_
 rcases Nat.lt_or_ge q m.n with hq | hq
 ·by_cases c : b.a ≤ q ∧ q < b.a + b.k
  ·have : (m.rem b.a).f q ≠ false := by
    intro e
    obtain ⟨x,hx,h1,h2⟩ := (f_false (m.rem b.a) (q := q) hq).1 e
    obtain ⟨hx1,hx2⟩ := List.mem_filter.1 hx
    have h3 : x.sp = b.sp := sp_uniq I.S.srt (List.mem_map.2 ⟨x,hx1,rfl⟩) hs (q := q) h1 h2 c.1 c.2
    have h4 : x.a = b.a := congrArg Sp.a h3
    simp [h4] at hx2
   show _ = if b.a ≤ q ∧ q < b.a + b.k then true else m.f q
   rw [if_pos c]
   simpa using this
  ·show _ = if b.a ≤ q ∧ q < b.a + b.k then true else m.f q
   rw [if_neg c]
   have h1 := f_false (m.rem b.a) (q := q) hq
   have h2 := f_false m hq
   have : (m.rem b.a).f q = false ↔ m.f q = false := by
    rw [h1,h2]
    constructor
    ·rintro ⟨x,hx,h⟩; exact ⟨x,hm x hx,h⟩
    ·rintro ⟨x,hx,h⟩
     refine ⟨x,List.mem_filter.2 ⟨hx, ?_⟩, h⟩
     simp only [bne_iff_ne,ne_eq]
     intro e
     obtain rfl := I.same hx hb e
     exact c h
   cases e1 : (m.rem b.a).f q <;> cases e2 : m.f q <;> simp [e1,e2] at this <;> rfl
 ·have h1 : (m.rem b.a).f q = false := f_out (m.rem b.a) hq
  have h2 := f_out m hq
  have hb2 := I.bd hb
  show _ = if b.a ≤ q ∧ q < b.a + b.k then true else m.f q
  rw [h1,h2,if_neg (by omega)]
theorem CInv.ins {m : Cm} (I : CInv m) {b : Blk} (hk : 1 ≤ b.k) (hf : FirstAt m.f b.k b.a) (hB : (b.c = -2 ∧ b.u = 0 ∧ b.w = none) ∨ (b.c = -1 ∧ b.u ≤ 1 ∧ b.w = none) ∨ (∃ c : Nat,c < 16 ∧ b.c = (c : Int) ∧ b.k = pageT.getD c 0 ∧ b.u < 2 ^ cellT.getD c 0))
  (hw : b.w = none) : CInv (m.ins b) := by
 have hlt : b.a + b.k ≤ m.n := by
  rcases Nat.lt_or_ge m.n (b.a + b.k) with q | q
  ·have h1 := hf.1 (b.k - 1) (by omega)
   rw [f_out m (by omega)] at h1; cases h1
  ·exact q
 have hfree : ∀ q,b.a ≤ q → q < b.a + b.k → m.f q = true := fun q q1 q2 => by have := hf.1 (q - b.a) (by omega); rwa [show b.a + (q - b.a) = q by omega] at this
 refine ⟨?_,fun x hx => ?_,fun x y p hx hy wx wy hc => ?_,fun x p hx wx => ?_⟩
 ·rw [ins_sp]
  refine I.S.ins (s := b.sp) hk hlt hfree fun q => ?_
  rcases Nat.lt_or_ge q m.n with hq | hq
  ·have h1 := f_false (m.ins b) (q := q) hq
   have h2 := f_false m hq
   by_cases c : b.a ≤ q ∧ q < b.a + b.k
   ·show _ = if b.a ≤ q ∧ q < b.a + b.k then false else m.f q
    rw [if_pos c]
    exact h1.2 ⟨b,mem_insB.2 (.inl rfl), c⟩
   ·show _ = if b.a ≤ q ∧ q < b.a + b.k then false else m.f q
    rw [if_neg c]
    have : (m.ins b).f q = false ↔ m.f q = false := by
     rw [h1,h2]
     constructor
     ·rintro ⟨x,hx,h⟩
      rcases mem_insB.1 hx with rfl | e
      ·exact absurd h c
      ·exact ⟨x,e,h⟩
     ·rintro ⟨x,hx,h⟩; exact ⟨x,mem_insB.2 (.inr hx), h⟩
    cases e1 : (m.ins b).f q <;> cases e2 : m.f q <;> simp [e1,e2] at this <;> rfl
  ·show _ = if b.a ≤ q ∧ q < b.a + b.k then false else m.f q
   rw [f_out (m.ins b) hq,f_out m hq]; split <;> rfl
 ·rcases mem_insB.1 hx with rfl | e
  ·exact hB
  ·exact I.B x e
 ·rcases mem_insB.1 hx with rfl | e1
  ·rw [hw] at wx; cases wx
  ·rcases mem_insB.1 hy with rfl | e2
   ·rw [hw] at wy; cases wy
   ·exact I.H x y p e1 e2 wx wy hc
 ·rcases mem_insB.1 hx with rfl | e1
  ·rw [hw] at wx; cases wx
  ·exact I.P x p e1 wx
theorem CInv.new {m : Cm} (I : CInv m) {b : Blk} (hk : 1 ≤ b.k) (hf : FirstAt m.f b.k b.a) : ∀ x,x ∈ m.bl → x.a ≠ b.a := fun x hx e => by
 have h0 := hf.1 0 hk
 have hb := I.bd hx
 have := (f_false m (q := b.a) (by omega)).2 ⟨x,hx,by omega,by omega⟩
 rw [Nat.add_zero,this] at h0; cases h0
end Go.Proofs.YthillgheddpmhaaDoor.Pg
