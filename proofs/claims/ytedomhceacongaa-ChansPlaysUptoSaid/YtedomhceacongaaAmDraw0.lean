/-
  AM, part 16: what an operation reads; what hangs on no heap; what leaves the heap alone.
-/
import Derived.Test.YtedomhceacongaaAmExec
namespace Go.AM
set_option linter.unusedVariables false
set_option linter.unusedSimpArgs false

theorem opd_congr {e1 e2 : Env} {x : AOpd} (h : ∀ t, t ∈ opdReads x → e1.val t = e2.val t) : opd e1 x = opd e2 x := by
  cases x <;> simp [opd]
  exact h _ (by simp [opdReads])
theorem optOpd_congr {e1 e2 : Env} {x : Option AOpd} (h : ∀ t, t ∈ optReads x → e1.val t = e2.val t) : optOpd e1 x = optOpd e2 x := by
  cases x with
  | none => rfl
  | some x => simp only [optOpd]; rw [opd_congr (e2 := e2) h]
theorem map_opd_congr {e1 e2 : Env} {l : List AOpd} (h : ∀ t, t ∈ l.flatMap opdReads → e1.val t = e2.val t) : l.map (opd e1) = l.map (opd e2) := by
  apply List.map_congr_left
  intro x hx
  exact opd_congr fun t ht => h t (List.mem_flatMap.2 ⟨x, hx, ht⟩)

theorem aop_congr {e1 e2 : Env} {op : AOp} (h : ∀ t, t ∈ opReads op → e1.val t = e2.val t) (hp : AHeap) : aop e1 hp op = aop e2 hp op := by
  cases op
  case build z ps =>
    simp only [aop, opMov, opPick, opAlloc, opBox, opBuild, opBuildSlice, opLoad, opStore, opNilCheck, opBin, opEql, opUn, opConv, opB2s, opMkIface, opMkFn, opMkMap, opMkSlice, opSlice, opFieldAddr, opField, opIdxS, opIdxA, opIndex, opIndexStr, opLookup, opMapUpd, opAssertT, opExtract, opLenS, opLenT, opLenM, opMin, opMax, opAppend, opCopy, opDelete]
    have : ps.map (fun x => match x with | (o, s, x) => (o, s, opd e1 x)) = ps.map (fun x => match x with | (o, s, x) => (o, s, opd e2 x)) := by
      apply List.map_congr_left
      intro x hx
      obtain ⟨o, s, x⟩ := x
      simp only
      rw [opd_congr (e2 := e2) fun t ht => h t (by simp only [opReads]; exact List.mem_flatMap.2 ⟨_, hx, ht⟩)]
    rw [this]
  case buildSlice s n z ps =>
    simp only [aop, opMov, opPick, opAlloc, opBox, opBuild, opBuildSlice, opLoad, opStore, opNilCheck, opBin, opEql, opUn, opConv, opB2s, opMkIface, opMkFn, opMkMap, opMkSlice, opSlice, opFieldAddr, opField, opIdxS, opIdxA, opIndex, opIndexStr, opLookup, opMapUpd, opAssertT, opExtract, opLenS, opLenT, opLenM, opMin, opMax, opAppend, opCopy, opDelete]
    have : ps.map (fun x => match x with | (i, x) => (i * s, s, opd e1 x)) = ps.map (fun x => match x with | (i, x) => (i * s, s, opd e2 x)) := by
      apply List.map_congr_left
      intro x hx
      obtain ⟨i, x⟩ := x
      simp only
      rw [opd_congr (e2 := e2) fun t ht => h t (by simp only [opReads]; exact List.mem_flatMap.2 ⟨_, hx, ht⟩)]
    rw [this]
  case mkFn f a b =>
    simp only [aop, opMov, opPick, opAlloc, opBox, opBuild, opBuildSlice, opLoad, opStore, opNilCheck, opBin, opEql, opUn, opConv, opB2s, opMkIface, opMkFn, opMkMap, opMkSlice, opSlice, opFieldAddr, opField, opIdxS, opIdxA, opIndex, opIndexStr, opLookup, opMapUpd, opAssertT, opExtract, opLenS, opLenT, opLenM, opMin, opMax, opAppend, opCopy, opDelete]
    rw [map_opd_congr (e2 := e2) (l := a) fun t ht => h t (by simp only [opReads]; exact List.mem_append_left _ ht), map_opd_congr (e2 := e2) (l := b) fun t ht => h t (by simp only [opReads]; exact List.mem_append_right _ ht)]
  case slice s x lo hi =>
    simp only [aop, opMov, opPick, opAlloc, opBox, opBuild, opBuildSlice, opLoad, opStore, opNilCheck, opBin, opEql, opUn, opConv, opB2s, opMkIface, opMkFn, opMkMap, opMkSlice, opSlice, opFieldAddr, opField, opIdxS, opIdxA, opIndex, opIndexStr, opLookup, opMapUpd, opAssertT, opExtract, opLenS, opLenT, opLenM, opMin, opMax, opAppend, opCopy, opDelete]
    rw [opd_congr (e2 := e2) (x := x) fun t ht => h t (by simp only [opReads]; simp [ht]), optOpd_congr (e2 := e2) (x := lo) fun t ht => h t (by simp only [opReads]; simp [ht]), optOpd_congr (e2 := e2) (x := hi) fun t ht => h t (by simp only [opReads]; simp [ht])]
  case pick a b c =>
    simp only [aop, opMov, opPick, opAlloc, opBox, opBuild, opBuildSlice, opLoad, opStore, opNilCheck, opBin, opEql, opUn, opConv, opB2s, opMkIface, opMkFn, opMkMap, opMkSlice, opSlice, opFieldAddr, opField, opIdxS, opIdxA, opIndex, opIndexStr, opLookup, opMapUpd, opAssertT, opExtract, opLenS, opLenT, opLenM, opMin, opMax, opAppend, opCopy, opDelete]
    rw [opd_congr (e2 := e2) (x := a) fun t ht => h t (by simp only [opReads]; simp [ht]), opd_congr (e2 := e2) (x := b) fun t ht => h t (by simp only [opReads]; simp [ht]), opd_congr (e2 := e2) (x := c) fun t ht => h t (by simp only [opReads]; simp [ht])]
  case mapUpd k a b c =>
    simp only [aop, opMov, opPick, opAlloc, opBox, opBuild, opBuildSlice, opLoad, opStore, opNilCheck, opBin, opEql, opUn, opConv, opB2s, opMkIface, opMkFn, opMkMap, opMkSlice, opSlice, opFieldAddr, opField, opIdxS, opIdxA, opIndex, opIndexStr, opLookup, opMapUpd, opAssertT, opExtract, opLenS, opLenT, opLenM, opMin, opMax, opAppend, opCopy, opDelete]
    rw [opd_congr (e2 := e2) (x := a) fun t ht => h t (by simp only [opReads]; simp [ht]), opd_congr (e2 := e2) (x := b) fun t ht => h t (by simp only [opReads]; simp [ht]), opd_congr (e2 := e2) (x := c) fun t ht => h t (by simp only [opReads]; simp [ht])]
  case alloc z => rfl
  case mkMap => rfl
  all_goals
    simp only [aop, opMov, opPick, opAlloc, opBox, opBuild, opBuildSlice, opLoad, opStore, opNilCheck, opBin, opEql, opUn, opConv, opB2s, opMkIface, opMkFn, opMkMap, opMkSlice, opSlice, opFieldAddr, opField, opIdxS, opIdxA, opIndex, opIndexStr, opLookup, opMapUpd, opAssertT, opExtract, opLenS, opLenT, opLenM, opMin, opMax, opAppend, opCopy, opDelete]
    first
    | rw [opd_congr (e2 := e2) fun t ht => h t (by simp only [opReads]; exact ht)]
    | (rename_i a b
       rw [opd_congr (e2 := e2) (x := a) fun t ht => h t (by simp only [opReads]; exact List.mem_append_left _ ht), opd_congr (e2 := e2) (x := b) fun t ht => h t (by simp only [opReads]; exact List.mem_append_right _ ht)])

/-- No heap is asked. -/
theorem aop_pure {e : Env} {op : AOp} (hc : opClass op = .pure) {h h' : AHeap} {v : AVal} (he : aop e h op = some (v, h')) (h2 : AHeap) : h' = h ∧ aop e h2 op = some (v, h2) := by
  cases op <;> simp only [opClass] at hc <;> first | cases hc | skip
  case un op x =>
    simp only [aop, opMov, opPick, opAlloc, opBox, opBuild, opBuildSlice, opLoad, opStore, opNilCheck, opBin, opEql, opUn, opConv, opB2s, opMkIface, opMkFn, opMkMap, opMkSlice, opSlice, opFieldAddr, opField, opIdxS, opIdxA, opIndex, opIndexStr, opLookup, opMapUpd, opAssertT, opExtract, opLenS, opLenT, opLenM, opMin, opMax, opAppend, opCopy, opDelete, Option.bind_eq_some_iff, Option.map_eq_some_iff, Prod.mk.injEq] at he ⊢
    obtain ⟨y, h0, x, h1, rfl, rfl⟩ := he
    exact ⟨rfl, y, h0, x, h1, rfl, trivial⟩
  all_goals simp only [aop, opMov, opPick, opAlloc, opBox, opBuild, opBuildSlice, opLoad, opStore, opNilCheck, opBin, opEql, opUn, opConv, opB2s, opMkIface, opMkFn, opMkMap, opMkSlice, opSlice, opFieldAddr, opField, opIdxS, opIdxA, opIndex, opIndexStr, opLookup, opMapUpd, opAssertT, opExtract, opLenS, opLenT, opLenM, opMin, opMax, opAppend, opCopy, opDelete] at he ⊢
  all_goals
    first
    | (simp only [Option.some.injEq, Prod.mk.injEq] at he; obtain ⟨rfl, rfl⟩ := he; exact ⟨rfl, rfl⟩)
    | (simp only [Option.map_eq_some_iff, Prod.mk.injEq] at he; obtain ⟨x, h1, rfl, rfl⟩ := he; rw [h1]; exact ⟨rfl, rfl⟩)
    | (simp only [Option.bind_eq_some_iff, Option.map_eq_some_iff, Prod.mk.injEq] at he; obtain ⟨y, h0, x, h1, rfl, rfl⟩ := he; rw [h0]; simp only [Option.bind_some]; rw [h1]; exact ⟨rfl, rfl⟩)
    | (split at he <;>
        first
        | (simp at he; done)
        | (simp only [Option.some.injEq, Prod.mk.injEq] at he; obtain ⟨rfl, rfl⟩ := he; exact ⟨rfl, rfl⟩)
        | (simp only [Option.map_eq_some_iff, Prod.mk.injEq] at he; obtain ⟨x, h1, rfl, rfl⟩ := he; rw [h1]; exact ⟨rfl, rfl⟩)
        | (split at he <;>
            first
            | (simp at he; done)
            | (simp only [Option.some.injEq, Prod.mk.injEq] at he; obtain ⟨rfl, rfl⟩ := he; simp_all; done)
            | (simp only [Option.map_eq_some_iff, Prod.mk.injEq] at he; obtain ⟨x, h1, rfl, rfl⟩ := he; simp_all; done)
            | (split at he <;> first | (simp at he; done) | (simp only [Option.some.injEq, Prod.mk.injEq] at he; obtain ⟨rfl, rfl⟩ := he; simp_all; done))))

/-- The heap stays. -/
theorem aop_read {e : Env} {op : AOp} (hc : opClass op = .read) {h h' : AHeap} {v : AVal} (he : aop e h op = some (v, h')) : h' = h := by
  cases op <;> simp only [opClass] at hc <;> first | cases hc | skip
  all_goals simp only [aop, opMov, opPick, opAlloc, opBox, opBuild, opBuildSlice, opLoad, opStore, opNilCheck, opBin, opEql, opUn, opConv, opB2s, opMkIface, opMkFn, opMkMap, opMkSlice, opSlice, opFieldAddr, opField, opIdxS, opIdxA, opIndex, opIndexStr, opLookup, opMapUpd, opAssertT, opExtract, opLenS, opLenT, opLenM, opMin, opMax, opAppend, opCopy, opDelete] at he
  case load n a =>
    split at he
    · split at he
      · split at he
        · simp only [Option.bind_eq_some_iff] at he
          obtain ⟨cs, _, he⟩ := he
          split at he
          · simp only [Option.some.injEq, Prod.mk.injEq] at he; exact he.2.symm
          · simp at he
        · simp only [Option.map_eq_some_iff, Prod.mk.injEq] at he; obtain ⟨_, _, _, h3⟩ := he; exact h3.symm
      · simp at he
    · simp at he
  case b2s x =>
    split at he
    · simp only [Option.some.injEq, Prod.mk.injEq] at he; exact he.2.symm
    · split at he
      · simp only [Option.bind_eq_some_iff, Option.map_eq_some_iff, Prod.mk.injEq] at he; obtain ⟨_, _, _, _, _, h3⟩ := he; exact h3.symm
      · simp at he
    · simp at he
  case slice s x lo hi =>
    split at he
    · simp only [Option.bind_eq_some_iff] at he
      obtain ⟨_, _, _, _, he⟩ := he
      split at he
      · simp only [Option.some.injEq, Prod.mk.injEq] at he; exact he.2.symm
      · simp at he
    · simp only [Option.bind_eq_some_iff] at he
      obtain ⟨_, _, _, _, he⟩ := he
      split at he
      · simp only [Option.some.injEq, Prod.mk.injEq] at he; exact he.2.symm
      · simp at he
    · simp at he
  case idxS s x i =>
    split at he
    · split at he
      · simp only [Option.some.injEq, Prod.mk.injEq] at he; exact he.2.symm
      · simp at he
    · simp at he
  case lookup kk z ok m k =>
    split at he
    · simp only [Option.some.injEq, Prod.mk.injEq] at he; exact he.2.symm
    · split at he
      · simp only [Option.bind_eq_some_iff] at he
        obtain ⟨r, _, he⟩ := he
        split at he <;> (simp only [Option.some.injEq, Prod.mk.injEq] at he; exact he.2.symm)
      · simp at he
    · simp at he
  case lenM x =>
    split at he
    · simp only [Option.some.injEq, Prod.mk.injEq] at he; exact he.2.symm
    · split at he
      · simp only [Option.some.injEq, Prod.mk.injEq] at he; exact he.2.symm
      · simp at he
    · simp at he

mutual
theorem beq_eq : ∀ {a b : AVal}, a.beq b = true → a = b
  | .undef, b, h => by cases b <;> simp [AVal.beq] at h; rfl
  | .bool a, b, h => by cases b <;> simp [AVal.beq] at h; rw [h]
  | .int k a, b, h => by cases b <;> simp [AVal.beq] at h; rw [h.1, h.2]
  | .flt k a, b, h => by cases b <;> simp [AVal.beq] at h; rw [h.1, h.2]
  | .str a, b, h => by
    cases b <;> simp [AVal.beq] at h
    rename_i c
    obtain ⟨a⟩ := a
    obtain ⟨c⟩ := c
    simp at h
    rw [h]
  | .nilp, b, h => by cases b <;> simp [AVal.beq] at h; rfl
  | .ptr a c d, b, h => by cases b <;> simp [AVal.beq] at h; rw [h.1.1, h.1.2, h.2]
  | .nils, b, h => by cases b <;> simp [AVal.beq] at h; rfl
  | .sl a c d f g, b, h => by cases b <;> simp [AVal.beq] at h; rw [h.1.1.1.1, h.1.1.1.2, h.1.1.2, h.1.2, h.2]
  | .nilm, b, h => by cases b <;> simp [AVal.beq] at h; rfl
  | .map a, b, h => by cases b <;> simp [AVal.beq] at h; rw [h]
  | .fn f x y, b, h => by cases b <;> simp [AVal.beq] at h
  | .nilf, b, h => by cases b <;> simp [AVal.beq] at h; rfl
  | .iface t a, b, h => by cases b <;> simp [AVal.beq] at h; rw [h.1, beq_eq h.2]
  | .nili, b, h => by cases b <;> simp [AVal.beq] at h; rfl
  | .agg a, b, h => by cases b <;> simp [AVal.beq] at h; rw [beqs_eq h]
  | .tup a, b, h => by cases b <;> simp [AVal.beq] at h; rw [beqs_eq h]
theorem beqs_eq : ∀ {a b : List AVal}, AVal.beqs a b = true → a = b
  | [], b, h => by cases b <;> simp [AVal.beqs] at h; rfl
  | a :: as, b, h => by
    cases b <;> simp [AVal.beqs] at h
    rw [beq_eq h.1, beqs_eq h.2]
end

theorem same_eq {e : Env} {op : AOp} {v : AVal} {h : AHeap} (hs : same e op v h = true) : ∃ h', aop e h op = some (v, h') := by
  unfold same at hs
  split at hs
  · rename_i u h' he
    exact ⟨h', by rw [he, beq_eq hs]⟩
  · simp at hs

end Go.AM
