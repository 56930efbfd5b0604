/-
  AM, part 5: append, copy, make: here and in the model.
-/
import Derived.Test.YtedomhceacongaaAmMem
import GoSem.Dispatch
namespace Go.AM
set_option linter.unusedSimpArgs false
set_option linter.unusedVariables false

namespace AHeap
/-- What is appended, or copied: how many elements, their cells. -/
def elems (h : AHeap) (esz : Nat) : AVal → Option (Nat × List AVal)
  | .nils => some (0, [])
  | .sl id g off len e => if e = esz ∧ id < h.n then (h.rd id g off (len * esz)).map fun cs => (len, cs) else none
  | .str s => if esz = 1 then some (s.size, s.data.toList.map fun b => .int .u8 b.toNat) else none
  | _ => none

def app (h : AHeap) (esz bytes : Nat) (x y : AVal) : Option (AVal × AHeap) :=
  (h.elems esz y).bind fun (m, ys) =>
    match x with
    | .nils => if m = 0 then some (.nils, h) else if m * bytes ≤ 1099511627776 ∧ ys.all (·.cell) = true then some (.sl h.n 0 0 m esz, h.push (.cells 0 false ys)) else none
    | .sl id g off len e =>
      if m = 0 then (if g = h.gen id then some (x, h) else none) else
      if e = esz ∧ id < h.n ∧ (len + m) * bytes ≤ 1099511627776 ∧ ys.all (·.cell) = true then
        match h.get id with
        | .cells g' false vs => if g' = g ∧ off + len * esz ≤ vs.length then some (.sl id (g + 1) 0 (len + m) esz, h.set id (.cells (g + 1) false ((vs.drop off).take (len * esz) ++ ys))) else none
        | _ => none
      else none
    | _ => none
end AHeap

theorem elems_run {P : Program} {h : AHeap} {β : Pl} {w : World} (R : Rel h β w) {esz : Nat} {y : AVal} {yv : Value} {m : Nat} {ys : List AVal}
    (e : h.elems esz y = some (m, ys)) (ry : vrel h β y yv) :
    (Builtin.lenOf yv).run P w = .ok m w ∧ ys.length = m * esz ∧ ∃ xs : List Value, vrels h β ys xs ∧ ∀ n, n ≤ m → (Builtin.firstCells esz n yv).run P w = .ok (xs.take (n * esz)).toArray w := by
  unfold AHeap.elems at e
  split at e
  · simp only [Option.some.injEq, Prod.mk.injEq] at e
    obtain ⟨rfl, rfl⟩ := e
    simp only [vrel] at ry
    subst ry
    refine ⟨rfl, by simp, [], by simp [vrels], fun n hn => ?_⟩
    obtain rfl : n = 0 := by omega
    simp [Builtin.firstCells]
  · rename_i id g off len ee
    split at e
    · rename_i hc
      obtain ⟨rfl, hid⟩ := hc
      simp only [Option.map_eq_some_iff, Prod.mk.injEq] at e
      obtain ⟨cs, hrd, rfl, rfl⟩ := e
      obtain ⟨hg, vs, hvs, hvl, hcl, hcell⟩ := read_at R hid hrd
      simp only [vrel] at ry
      obtain ⟨a, cap, rfl, hs⟩ := ry
      obtain ⟨_, _, hs3⟩ := hs
      obtain ⟨hlc, hcc, hadr⟩ := hs3 hg
      refine ⟨rfl, hcl, vs, hvs, fun n hn => ?_⟩
      have hlen : (vs.take (n * ee)).length = n * ee := by
        have := Nat.mul_le_mul_right ee hn
        simp; omega
      simp only [Builtin.firstCells]
      by_cases h0 : n * ee = 0
      · rw [h0]; simp [loadCells, loadCellsFrom]
      · have hn0 : 0 < n := by rcases Nat.eq_zero_or_pos n with h | h; · subst h; simp at h0
                               · exact h
        have ha := hadr (by omega)
        subst ha
        have := run_loadCells_list (P := P) w ⟨(β id).b, (β id).o + off, none⟩ (vs.take (n * ee)) (fun j v hj => hcell j v (by
          rw [List.getElem?_take] at hj; split at hj
          · exact hj
          · simp at hj))
        rw [hlen] at this
        exact this
    · simp at e
  · split at e
    · rename_i s h1
      subst h1
      simp only [Option.some.injEq, Prod.mk.injEq] at e
      obtain ⟨rfl, rfl⟩ := e
      simp only [vrel] at ry
      subst ry
      refine ⟨rfl, by simp, s.data.toList.map fun b => .int .u8 b.toNat, ?_, fun n hn => ?_⟩
      · generalize s.data.toList = l
        induction l with
        | nil => simp [vrels]
        | cons a l ih => simp only [List.map_cons]; exact vrels_cons_cons.2 ⟨by simp [vrel], ih⟩
      · simp only [Builtin.firstCells, Sem.run_pure]
        congr 1
        apply Array.ext'
        simp
    · simp at e
  · simp at e

theorem growBy_le (need : Nat) : ∀ (r c : Nat), c < need → Builtin.growBy need r c ≤ 2 * need + 192
  | 0, c, h => by simp only [Builtin.growBy]; omega
  | r + 1, c, h => by
    simp only [Builtin.growBy]
    split
    · omega
    · by_cases h2 : c + (c + 768) / 4 < need
      · exact growBy_le need r _ h2
      · cases r with
        | zero => simp only [Builtin.growBy]; omega
        | succ r => simp only [Builtin.growBy]; rw [if_pos (by omega)]; omega

theorem nextcap_le (need cap : Nat) (h : cap < need) : Builtin.nextslicecap need cap ≤ 2 * need + 192 := by
  unfold Builtin.nextslicecap
  split
  · omega
  · split
    · omega
    · exact growBy_le need 4 cap h

structure EInfo (P : Program) (E : TypeId) (esz bytes : Nat) (z : Value) : Prop where
  pos : 0 < esz
  bpos : 0 < bytes
  small : bytes ≤ 65536
  info : ∃ i, P.info? E = some i ∧ i.size = esz ∧ i.bytes = bytes ∧ i.zero = some z
  zsize : z.cells.size = esz

theorem run_typeInfo_of {P : Program} {w : World} {t : TypeId} {i : TypeInfo} (h : P.info? t = some i) : (typeInfo t).run P w = .ok i w := by
  simp [typeInfo, h]
theorem run_sizeOf_of {P : Program} {w : World} {t : TypeId} {i : TypeInfo} (h : P.info? t = some i) : (sizeOf t).run P w = .ok i.size w := by
  simp [sizeOf, run_typeInfo_of h]
theorem run_underlying_of {P : Program} {w : World} {t : TypeId} {d : TypeDesc} (h : P.underlying t = some d) : (underlying t).run P w = .ok d w := by
  simp [underlying, h]
theorem run_zeroValue_of {P : Program} {w : World} {t : TypeId} {i : TypeInfo} {z : Value} (h : P.info? t = some i) (hz : i.zero = some z) : (zeroValue t).run P w = .ok z w := by
  simp [zeroValue, run_typeInfo_of h, hz]

theorem zeroCells_size (z : Array Value) (n : Nat) : (Builtin.zeroCells z n).size = n * z.size := by simp [Builtin.zeroCells]

theorem append_grow {P : Program} {w : World} {sT xT E ty : TypeId} {dx : TypeDesc} {esz bytes : Nat} {z : Value} (hS : P.underlying sT = some (.slice E)) (hX : P.underlying xT = some dx) (hdx : (∀ k, dx ≠ .int k)) (hE : EInfo P E esz bytes z)
    {base : Option Addr} {sl cap m : Nat} {yv : Value} {olds news : Array Value} (hlen : (Builtin.lenOf yv).run P w = .ok m w)
    (hold : (Builtin.firstCells esz sl (.slice base sl cap)).run P w.drew = .ok olds w.drew) (hnew : (Builtin.firstCells esz m yv).run P w.drew = .ok news w.drew)
    (hgt : cap < sl + m) (hcap : ¬ Builtin.nextslicecap (sl + m) cap * bytes > 2 ^ 48) :
    ∃ nc, sl + m ≤ nc ∧ (Builtin.append_ #[sT, xT] ty #[.slice base sl cap, yv]).run P w = .ok (.slice (some ⟨w.heap.size, 0, none⟩) (sl + m) nc) (w.drew.alloc (.cells (olds ++ news ++ Builtin.zeroCells z.cells (nc - (sl + m))) E)) := by
  obtain ⟨i, hi, hsz, hby, hzz⟩ := hE.info
  have hz0 : (match dx with | .int _ => true | _ => false) = false := by cases dx <;> first | rfl | exact absurd rfl (hdx _)
  have hbp := hE.bpos
  have hngt : ¬ (sl + m ≤ cap) := by omega
  have hb0 : ¬ (i.bytes = 0) := by omega
  refine ⟨sl + m + w.tape w.drawn (.appendCap (sl + m) cap E) % (2 ^ 63 - (sl + m)), by omega, ?_⟩
  have hd : ({ w with drawn := w.drawn + 1 } : World) = w.drew := rfl
  simp only [Builtin.append_, List.getElem?_toArray, List.getElem?_cons_zero, List.getElem?_cons_succ, Sem.run_bind, run_underlying_of hS, run_underlying_of hX, run_sizeOf_of hi, Result.andThen_ok, Sem.run_pure, hz0, Bool.false_eq_true, if_false, hsz, hlen, hngt,
    run_typeInfo_of hi, run_zeroValue_of hi hzz, hb0, false_or, and_false, Sem.run_ite, hby, hcap, run_choose, Question.forced, Question.cut, run_askRoom, hd, hold, Bool.not_false, if_true, hnew, newRow, run_newObj]
  rw [if_neg (by omega)]
  rfl

theorem append_room {P : Program} {w w' : World} {sT xT E ty : TypeId} {dx : TypeDesc} {esz bytes : Nat} {z : Value} (hS : P.underlying sT = some (.slice E)) (hX : P.underlying xT = some dx) (hdx : (∀ k, dx ≠ .int k)) (hE : EInfo P E esz bytes z)
    {a : Addr} {sl cap m : Nat} {yv : Value} {news : List Value} (hlen : (Builtin.lenOf yv).run P w = .ok m w)
    (hnew : (Builtin.firstCells esz m yv).run P w = .ok news.toArray w) (hle : sl + m ≤ cap) (hst : (storeCells (a.add (sl * esz)) news).run P w = .ok () w') :
    (Builtin.append_ #[sT, xT] ty #[.slice (some a) sl cap, yv]).run P w = .ok (.slice (some a) (sl + m) cap) w' := by
  obtain ⟨i, hi, hsz, hby, hzz⟩ := hE.info
  have hz0 : (match dx with | .int _ => true | _ => false) = false := by cases dx <;> first | rfl | exact absurd rfl (hdx _)
  simp only [Builtin.append_, List.getElem?_toArray, List.getElem?_cons_zero, List.getElem?_cons_succ, Sem.run_bind, run_underlying_of hS, run_underlying_of hX, run_sizeOf_of hi, Result.andThen_ok, Sem.run_pure, hz0, Bool.false_eq_true, if_false, hsz, hlen, hle, if_true, hnew, Bool.not_false, hst, Sem.run_ite]

theorem drew_eq (w : World) : w.drew.heap = w.heap := rfl

theorem app_run {P : Program} {h : AHeap} {β : Pl} {w : World} (R : Rel h β w) {sT xT E : TypeId} {dx : TypeDesc} {esz bytes : Nat} {z : Value} {x y r : AVal} {xv yv : Value} {h' : AHeap}
    (hS : P.underlying sT = some (.slice E)) (hX : P.underlying xT = some dx) (hdx : (∀ k, dx ≠ .int k)) (hE : EInfo P E esz bytes z)
    (e : h.app esz bytes x y = some (r, h')) (rx : vrel h β x xv) (ry : vrel h β y yv) (ty : TypeId) :
    ∃ v w' β', (Builtin.append_ #[sT, xT] ty #[xv, yv]).run P w = .ok v w' ∧ Rel h' β' w' ∧ Ext h β w h' β' w' ∧ vrel h' β' r v := by
  have hp := hE.pos
  have hbs := hE.small
  have hzs := hE.zsize
  have hRd := R.same (w' := w.drew) rfl rfl rfl
  unfold AHeap.app at e
  simp only [Option.bind_eq_some_iff, Prod.exists] at e
  obtain ⟨m, ys, he, e⟩ := e
  obtain ⟨hlen, hyl, xs, hxs, hfirst⟩ := elems_run (P := P) R he ry
  obtain ⟨_, _, xs', hxs', hfirst'⟩ := elems_run (P := P) hRd.1 he ry
  have hxsl := vrels_length hxs
  have hxsl' := vrels_length hxs'
  have hfull := hfirst m (Nat.le_refl _)
  rw [List.take_of_length_le (by omega)] at hfull
  have hfull' := hfirst' m (Nat.le_refl _)
  rw [List.take_of_length_le (by omega)] at hfull'
  have capOk : ∀ n c, c < n → n * bytes ≤ 1099511627776 → ¬ (Builtin.nextslicecap n c * bytes > 2 ^ 48) := by
    intro n c hc hn
    have := Nat.mul_le_mul_right bytes (nextcap_le n c hc)
    have e1 : (2 * n + 192) * bytes = 2 * (n * bytes) + 192 * bytes := by rw [Nat.add_mul, Nat.mul_assoc]
    omega
  split at e
  · -- nil
    simp only [vrel] at rx
    subst rx
    split at e
    · rename_i hm
      subst hm
      simp only [Option.some.injEq, Prod.mk.injEq] at e
      obtain ⟨rfl, rfl⟩ := e
      obtain ⟨i, hi, hsz, hby, hzz⟩ := hE.info
      have hz0 : (match dx with | .int _ => true | _ => false) = false := by cases dx <;> first | rfl | exact absurd rfl (hdx _)
      refine ⟨.slice none 0 0, w, β, ?_, R, Ext.refl _ _ _, by simp [vrel]⟩
      simp only [Builtin.append_, List.getElem?_toArray, List.getElem?_cons_zero, List.getElem?_cons_succ, Sem.run_bind, run_underlying_of hS, run_underlying_of hX, run_sizeOf_of hi, Result.andThen_ok, Sem.run_pure]
      simp [hlen, hsz, hfull]
    · rename_i hm
      split at e
      · rename_i hc
        obtain ⟨hroom, hcell⟩ := hc
        simp only [Option.some.injEq, Prod.mk.injEq] at e
        obtain ⟨rfl, rfl⟩ := e
        obtain ⟨nc, hnc, hrun⟩ := append_grow (ty := ty) (base := none) (sl := 0) (cap := 0) (m := m) (olds := #[]) hS hX hdx hE hlen rfl hfull' (by omega) (capOk _ _ (by omega) (by simpa using hroom))
        simp only [Nat.zero_add] at hrun hnc
        have hzc := zeroCells_size z.cells (nc - m)
        rw [hzs] at hzc
        have hsz : (#[] ++ xs'.toArray ++ Builtin.zeroCells z.cells (nc - m)).size = nc * esz := by
          have : m * esz + (nc - m) * esz = nc * esz := by rw [← Nat.add_mul]; congr 1; omega
          simp only [Array.size_append, List.size_toArray, hzc]; simp; omega
        have hnew := new_row hRd.1 E (vs := ys) (c := #[] ++ xs'.toArray ++ Builtin.zeroCells z.cells (nc - m)) (nc * esz) (by rw [hyl]; exact Nat.mul_le_mul_right _ hnc) (by omega) (by
          have : (#[] ++ xs'.toArray ++ Builtin.zeroCells z.cells (nc - m)).toList.take ys.length = xs' := by
            simp [← hxsl']
          rw [this]; exact hxs')
        refine ⟨_, _, _, hrun, hnew.1, hRd.2.trans hnew.2, ?_⟩
        simp only [vrel]
        refine ⟨_, nc, rfl, by simp, by simp, fun hg => ?_⟩
        rw [updP_same]
        exact ⟨hnc, by simp, fun _ => rfl⟩
      · simp at e
  · rename_i id g off len ee
    split at e
    · rename_i hm
      subst hm
      split at e
      · rename_i hgg
        simp only [Option.some.injEq, Prod.mk.injEq] at e
        obtain ⟨rfl, rfl⟩ := e
        have rx' := rx
        simp only [vrel] at rx
        obtain ⟨a, cap, rfl, hs⟩ := rx
        have hlc := (hs.2.2 hgg).1
        have hxs0 : xs = [] := List.eq_nil_of_length_eq_zero (by omega)
        subst hxs0
        exact ⟨_, w, β, append_room (ty := ty) (news := []) hS hX hdx hE hlen hfull (by omega) (by simp [storeCells]), R, Ext.refl _ _ _, rx'⟩
      · simp at e
    · rename_i hm
      split at e
      · rename_i hc
        obtain ⟨rfl, hid, hroom, hcell⟩ := hc
        split at e
        · rename_i g' vs hg
          split at e
          · rename_i hc2
            obtain ⟨rfl, hoff⟩ := hc2
            simp only [Option.some.injEq, Prod.mk.injEq] at e
            obtain ⟨rfl, rfl⟩ := e
            have hgen := gen_cells hg
            have rx' := rx
            simp only [vrel] at rx
            obtain ⟨a, cap, rfl, hs⟩ := rx
            obtain ⟨_, _, hs3⟩ := hs
            obtain ⟨hlc, hcc, hadr⟩ := hs3 hgen.symm
            have ho := R.obj id hid
            rw [hg] at ho
            obtain ⟨c, cty, fz, hb, hfz, hcap, hvl, hr⟩ := ho
            obtain rfl := hfz rfl
            have hseg : ((vs.drop off).take (len * ee)).length = len * ee := by simp; omega
            have hpos : 0 < (len + m) * ee := Nat.mul_pos (by omega) hp
            have hmul : (len + m) * ee = len * ee + m * ee := Nat.add_mul _ _ _
            by_cases hle : len + m ≤ cap
            · -- room
              have ha := hadr (by omega)
              subst ha
              have hcapm : (len + m) * ee ≤ cap * ee := Nat.mul_le_mul_right _ hle
              have hst := run_storeCells_at (P := P) (β id).b ((β id).o + off + len * ee) cty xs 0 c w hb (by omega) (oneCells_of hcell hxs)
              have hst' := hst
              rw [← addr_add] at hst'
              have hrun := append_room (ty := ty) hS hX hdx hE hlen hfull hle hst'
              have hu := Rel.upd (w' := w.setRow (β id).b (c.toList.take ((β id).o + off + len * ee + 0) ++ xs ++ c.toList.drop ((β id).o + off + len * ee + 0 + xs.length)).toArray) R hid (by rw [hg]; rfl)
                (o := .cells (g' + 1) false ((vs.drop off).take (len * ee) ++ ys)) (l := ⟨(β id).b, (β id).o + off, cap * ee⟩) (.inl rfl)
                (by rw [hgen, gen_cells (AHeap.get_set_same h id _)]; exact ⟨by omega, fun e => by omega⟩)
                (by rw [setRow_size]; exact Nat.le_refl _) (fun b _ hne => setRow_get w _ _ b hne) rfl rfl (frozen_setRow w _ _)
                (fun hxt => by
                  refine ⟨_, cty, (0, 0), setRow_heap w _ c _ cty (0, 0) hb, fun _ => rfl, ?_, ?_, ?_⟩
                  · simp; omega
                  · simp only [List.length_append, hseg]; omega
                  · refine vrels.mono hxt ?_
                    have e1 : ((vs.drop off).take (len * ee) ++ ys).length = len * ee + m * ee := by simp only [List.length_append, hseg]; omega
                    rw [e1]
                    have e2 : (((c.toList.take ((β id).o + off + len * ee + 0) ++ xs ++ c.toList.drop ((β id).o + off + len * ee + 0 + xs.length)).toArray.toList.drop ((β id).o + off)).take (len * ee + m * ee))
                        = ((((c.toList.drop (β id).o).take vs.length).drop off).take (len * ee)) ++ xs := by
                      apply List.ext_getElem?
                      intro j
                      have hcl : c.toList.length = c.size := by simp
                      simp only [Nat.add_zero, List.getElem?_take, List.getElem?_drop, List.getElem?_append, List.length_take, List.length_append, List.length_drop]
                      by_cases hj1 : j < len * ee
                      · rw [if_pos (by omega), if_pos (by omega), if_pos (by omega), if_pos (by omega), if_pos (by omega), if_pos (by omega), if_pos (by omega)]
                        congr 1; omega
                      · by_cases hj2 : j < len * ee + m * ee
                        · rw [if_pos (by omega), if_pos (by omega), if_neg (by omega), if_neg (by omega)]; congr 1; omega
                        · rw [if_neg (by omega), if_neg (by omega)]
                          symm; apply List.getElem?_eq_none; omega
                    rw [e2]
                    exact vrels_append (vrels_take _ (vrels_drop off hr)) hxs)
              refine ⟨_, _, _, hrun, hu.1, hu.2, ?_⟩
              simp only [vrel]
              refine ⟨_, cap, rfl, hid, by rw [gen_cells (AHeap.get_set_same h id _)]; exact Nat.le_refl _, fun _ => ?_⟩
              rw [updP_same]
              exact ⟨hle, by simp, fun _ => rfl⟩
            · -- a new row
              have hold : (Builtin.firstCells ee len (.slice (some a) len cap)).run P w.drew = .ok ((((c.toList.drop (β id).o).take vs.length).drop off).take (len * ee)).toArray w.drew := by
                simp only [Builtin.firstCells]
                by_cases h0 : len * ee = 0
                · rw [h0]; simp [loadCells, loadCellsFrom]
                · have hl0 : 0 < len := by rcases Nat.eq_zero_or_pos len with h | h
                                           · subst h; simp at h0
                                           · exact h
                  have ha := hadr (by omega)
                  subst ha
                  have hl : ((((c.toList.drop (β id).o).take vs.length).drop off).take (len * ee)).length = len * ee := by simp; omega
                  have := run_loadCells_list (P := P) w.drew ⟨(β id).b, (β id).o + off, none⟩ ((((c.toList.drop (β id).o).take vs.length).drop off).take (len * ee)) (fun j v hj => by
                    rw [addr_add, World.cell?_drew]
                    rw [List.getElem?_take] at hj
                    split at hj
                    · rw [List.getElem?_drop, List.getElem?_take] at hj
                      split at hj
                      · rw [List.getElem?_drop] at hj
                        simp only [World.cell?, hb]
                        rw [Array.getElem?_toList] at hj
                        simp only [Option.isSome_none, Bool.false_eq_true, if_false]
                        rw [← hj]; congr 1; omega
                      · simp at hj
                    · simp at hj)
                  rw [hl] at this
                  exact this
              obtain ⟨nc, hnc, hrun⟩ := append_grow (ty := ty) hS hX hdx hE hlen hold hfull' (by omega) (capOk _ _ (by omega) hroom)
              let cs : Array Value := ((((c.toList.drop (β id).o).take vs.length).drop off).take (len * ee)).toArray ++ xs'.toArray ++ Builtin.zeroCells z.cells (nc - (len + m))
              have hzc := zeroCells_size z.cells (nc - (len + m))
              rw [hzs] at hzc
              have hcsl : ((((c.toList.drop (β id).o).take vs.length).drop off).take (len * ee)).length = len * ee := by simp; omega
              have hncm : (len + m) * ee + (nc - (len + m)) * ee = nc * ee := by rw [← Nat.add_mul]; congr 1; omega
              have hcs : cs.size = nc * ee := by
                simp only [cs, Array.size_append, List.size_toArray, hzc, hcsl]; omega
              have hu := Rel.upd (w' := w.drew.alloc (.cells cs E)) hRd.1 hid (by rw [hg]; rfl)
                (o := .cells (g' + 1) false ((vs.drop off).take (len * ee) ++ ys)) (l := ⟨w.heap.size, 0, nc * ee⟩) (.inr (Nat.le_refl _))
                (by rw [hgen, gen_cells (AHeap.get_set_same h id _)]; exact ⟨by omega, fun e => by omega⟩)
                (by simp) (fun b hb _ => by show (w.drew.heap.push _)[b]? = _; rw [Array.getElem?_push, if_neg (by omega)]) rfl rfl (frozen_alloc_cells w.drew _ _)
                (fun hxt => by
                  refine ⟨cs, E, (0, 0), by show (w.drew.heap.push _)[w.drew.heap.size]? = _; exact Array.getElem?_push_size, fun _ => rfl, by simp [hcs], ?_, ?_⟩
                  · simp only [List.length_append, hseg]
                    have : (len + m) * ee ≤ nc * ee := Nat.mul_le_mul_right _ hnc
                    omega
                  · refine vrels.mono hxt ?_
                    have e1 : ((vs.drop off).take (len * ee) ++ ys).length = len * ee + m * ee := by simp only [List.length_append, hseg]; omega
                    rw [e1]
                    have e2 : (cs.toList.drop 0).take (len * ee + m * ee) = ((((c.toList.drop (β id).o).take vs.length).drop off).take (len * ee)) ++ xs' := by
                      simp only [cs, List.drop_zero, Array.toList_append]
                      rw [List.take_append_of_le_length (by simp only [List.length_append, hcsl]; omega)]
                      rw [List.take_of_length_le (by simp only [List.length_append, hcsl]; omega)]
                    rw [e2]
                    exact vrels_append (vrels_take _ (vrels_drop off hr)) hxs')
              refine ⟨_, _, _, hrun, hu.1, hRd.2.trans hu.2, ?_⟩
              simp only [vrel]
              refine ⟨_, nc, rfl, hid, by rw [gen_cells (AHeap.get_set_same h id _)]; exact Nat.le_refl _, fun _ => ?_⟩
              rw [updP_same]
              exact ⟨hnc, by simp, fun _ => rfl⟩
          · simp at e
        · simp at e
      · simp at e
  · simp at e
end Go.AM
