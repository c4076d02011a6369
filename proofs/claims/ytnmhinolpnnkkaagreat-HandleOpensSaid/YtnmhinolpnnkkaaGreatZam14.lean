/- The abstract machine, part 14: what an operation comes to depends on its operands and names alone. -/
import Derived.Test.YtnmhinolpnnkkaaGreatZamF
set_option linter.unusedSimpArgs false
set_option linter.unusedVariables false
namespace Go.AM
open Go.RowKit Go.Lib
variable {P : Program} {T : Tab}

theorem evT_loc {α β : AS} {ty : TypeId} {x : Operand} (h : β.ev x = α.ev x) : evT T β ty x = evT T α ty x := by
  unfold evT; split
  · rfl
  · exact h
theorem pMove_loc {α β : AS} {ty : TypeId} {x : Operand} (h : β.ev x = α.ev x) : pMove T ty β x = pMove T ty α x := by
  unfold pMove; split
  · rfl
  · rw [h]
theorem optN_loc {α β : AS} {d : Int} {x : Option Operand} (h : ∀ y, x = some y → β.ev y = α.ev y) : optN β d x = optN α d x := by
  cases x with
  | none => rfl
  | some y => simp only [optN, h y rfl]
theorem pLoad_loc {α β : AS} {t : TypeId} {x : Operand} (hx : β.ev x = α.ev x) {pr : PR} (h : pLoad T t α x = some pr) (hn : ∀ n ∈ pr.rn, β.H n = α.H n) : pLoad T t β x = some pr := by
  unfold pLoad at *
  rw [hx]
  split at h <;> first | (cases h; done) | skip
  · exact h
  · rename_i n o e
    try simp only [e]
    have key : β.H n = α.H n := by
      split at h <;> first | (cases h; done) | skip
      split at h <;> first | (cases h; done) | skip
      simp only [Option.some.injEq] at h; subst h
      exact hn n (by simp)
    rw [key]; exact h
  · rename_i n k sz i j e
    try simp only [e]
    have key : β.H n = α.H n := by
      split at h <;> first | (cases h; done) | skip
      split at h <;> first | (cases h; done) | skip
      split at h <;> first | (cases h; done) | skip
      split at h <;> first | (cases h; done) | skip
      simp only [Option.some.injEq] at h; subst h
      exact hn n (by simp)
    rw [key]; exact h
theorem pAlloc_loc {α β : AS} {t : TypeId} {nm : Nat} {pr : PR} (h : pAlloc T nm t α = some pr) (hn : ∀ n ∈ pr.rn, β.H n = α.H n) : pAlloc T nm t β = some pr := by
  unfold pAlloc at *
  have key : β.H nm = α.H nm := by
    split at h <;> first | (cases h; done) | skip
    simp only [Option.some.injEq] at h; subst h
    exact hn nm (by simp)
  rw [key]; exact h
theorem pBox_loc {α β : AS} {t : TypeId} {nm : Nat} {x : Operand} (hx : β.ev x = α.ev x) {pr : PR} (h : pBox T nm t α x = some pr) (hn : ∀ n ∈ pr.rn, β.H n = α.H n) : pBox T nm t β x = some pr := by
  unfold pBox at *
  rw [evT_loc hx]
  have key : β.H nm = α.H nm := by
    split at h <;> first | (cases h; done) | skip
    split at h <;> first | (cases h; done) | skip
    simp only [Option.some.injEq] at h; subst h
    exact hn nm (by simp)
  rw [key]; exact h
theorem pStore_loc {α β : AS} {t : TypeId} {x y : Operand} (hx : β.ev x = α.ev x) (hy : β.ev y = α.ev y) {pr : PR} (h : pStore T t α x y = some pr) (hn : ∀ n ∈ pr.rn, β.H n = α.H n) : pStore T t β x y = some pr := by
  unfold pStore at *
  rw [hx, evT_loc hy]
  split at h <;> first | (cases h; done) | skip
  rename_i n o e
  try simp only [e]
  have key : β.H n = α.H n := by
    split at h <;> first | (cases h; done) | skip
    split at h <;> first | (cases h; done) | skip
    simp only [Option.some.injEq] at h; subst h
    exact hn n (by simp)
  rw [key]; exact h
theorem pNil_loc {α β : AS} {x : Operand} (hx : β.ev x = α.ev x) {pr : PR} (h : pNil α x = some pr) (hn : ∀ n ∈ pr.rn, β.H n = α.H n) : pNil β x = some pr := by
  unfold pNil at *
  rw [hx]
  split at h <;> first | (cases h; done) | exact h | skip
  rename_i n k sz i j e
  try simp only [e]
  have key : β.H n = α.H n := by
    split at h <;> first | (cases h; done) | skip
    split at h <;> first | (cases h; done) | skip
    simp only [Option.some.injEq] at h; subst h
    exact hn n (by simp)
  rw [key]; exact h
theorem pFieldAddr_loc {α β : AS} {t : TypeId} {x : Operand} {f : Nat} (hx : β.ev x = α.ev x) {pr : PR} (h : pFieldAddr T t α x f = some pr) (hn : ∀ n ∈ pr.rn, β.H n = α.H n) : pFieldAddr T t β x f = some pr := by
  unfold pFieldAddr at *
  rw [hx]
  split at h <;> first | (cases h; done) | skip
  rename_i e0
  try simp only [e0]
  split at h <;> first | (cases h; done) | skip
  rename_i hz
  rw [if_neg hz]
  split at h <;> first | (cases h; done) | exact h | skip
  rename_i n k sz i j e
  try simp only [e]
  have key : β.H n = α.H n := by
    split at h <;> first | (cases h; done) | skip
    split at h <;> first | (cases h; done) | skip
    simp only [Option.some.injEq] at h; subst h
    exact hn n (by simp)
  rw [key]; exact h
theorem pIndexAddr_loc {α β : AS} {t : TypeId} {x i : Operand} (hx : β.ev x = α.ev x) (hi : β.ev i = α.ev i) {pr : PR} (h : pIndexAddr T t α x i = some pr) (hn : ∀ n ∈ pr.rn, β.H n = α.H n) : pIndexAddr T t β x i = some pr := by
  unfold pIndexAddr at *
  rw [hx, hi]
  split at h <;> first | (cases h; done) | skip
  rename_i e0
  try simp only [e0]
  split at h <;> first | (cases h; done) | exact h | skip
  rename_i e' m k hk e
  try simp only [hk, e]
  have key : β.H m = α.H m := by
    split at h <;> first | (cases h; done) | skip
    split at h <;> first | (cases h; done) | skip
    simp only [Option.some.injEq] at h; subst h
    exact hn m (by simp)
  rw [key]; exact h
theorem pLen_loc {α β : AS} {t : TypeId} {x : Operand} (hx : β.ev x = α.ev x) {pr : PR} (h : pLen T t α x = some pr) (hn : ∀ n ∈ pr.rn, β.H n = α.H n) : pLen T t β x = some pr := by
  unfold pLen at *
  rw [hx]
  split at h <;> first | (cases h; done) | exact h | skip
  rename_i e' m k hk e
  try simp only [hk, e]
  have key : β.H m = α.H m := by
    split at h <;> first | (cases h; done) | skip
    split at h <;> first | (cases h; done) | skip
    simp only [Option.some.injEq] at h; subst h
    exact hn m (by simp)
  rw [key]; exact h
theorem pApp_loc {α β : AS} {im : Bool} {nm : Nat} {t xt : TypeId} {x y : Operand} (hx : β.ev x = α.ev x) (hy : β.ev y = α.ev y) {pr : PR} (h : pApp T im nm t xt α x y = some pr) (hn : ∀ n ∈ pr.rn, β.H n = α.H n) : pApp T im nm t xt β x y = some pr := by
  unfold pApp at *
  rw [evT_loc hx, evT_loc hy]
  split at h <;> first | (cases h; done) | skip
  rename_i hb
  rw [if_neg hb]
  split at h <;> first | (cases h; done) | skip
  rename_i e0
  try simp only [e0]
  split at h <;> first | (cases h; done) | skip
  · rename_i m k e
    try simp only [e]
    have key : β.H m = α.H m := by
      split at h <;> first | (cases h; done) | skip
      split at h <;> first | (cases h; done) | skip
      simp only [Option.some.injEq] at h; subst h
      exact hn m (by simp)
    rw [key]; exact h
  · rename_i sz xs e
    try simp only [e]
    split at h <;> first | (cases h; done) | skip
    rename_i hs
    rw [if_pos hs]
    split at h
    · rename_i hi; rw [if_pos hi]; exact h
    · rename_i hi
      rw [if_neg hi]
      have key : β.H nm = α.H nm := by
        split at h <;> first | (cases h; done) | skip
        simp only [Option.some.injEq] at h; subst h
        exact hn nm (by simp)
      rw [key]; exact h
theorem evParts_loc {α β : AS} {ty : Nat → TypeId} {ps : List (Nat × Operand)} (h : ∀ p ∈ ps, β.ev p.2 = α.ev p.2) : evParts T β ty ps = evParts T α ty ps := by
  unfold evParts
  exact List.map_congr_left fun p hp => by rw [evT_loc (h p hp)]
theorem gT_loc {t : TypeId} {x y : Option PR} {pr : PR} (h : gT T t x = some pr) (hxy : x = some pr → y = some pr) : gT T t y = some pr := by
  obtain ⟨h1, h2⟩ := gT_some h
  unfold gT
  rw [if_neg h1]
  exact hxy h2

theorem plan_loc (cx : Cx P) {nm : Nat} {o : Oper} {α β : AS} {pr : PR} (h : plan cx nm o α = some pr) (ho : ∀ x ∈ o.op.operands, β.ev x = α.ev x) (hn : ∀ n ∈ pr.rn, β.H n = α.H n) : plan cx nm o β = some pr := by
  obtain ⟨dst, op, ty, pos, after, guard⟩ := o
  unfold plan at *
  simp only at ho h ⊢
  split at h <;> first | (cases h; done) | skip
  case h_1 x => simp only [Op.operands, List.mem_toArray, List.mem_cons, List.not_mem_nil, or_false, forall_eq] at ho; rw [pMove_loc ho]; exact h
  case h_2 x => simp only [Op.operands, List.mem_toArray, List.mem_cons, List.not_mem_nil, or_false, forall_eq] at ho; rw [pMove_loc ho]; exact h
  case h_3 c x y =>
    have h1 := ho c (by simp [Op.operands]); have h2 := ho x (by simp [Op.operands]); have h3 := ho y (by simp [Op.operands])
    simp only [pPick, h1, h2, h3]; exact h
  case h_4 t => exact gT_loc h fun h => pAlloc_loc h hn
  case h_5 t x => exact pBox_loc (ho x (by simp [Op.operands])) h hn
  case h_6 t ps =>
    refine gT_loc h fun h => ?_
    unfold pBuild at *
    split at h <;> first | (cases h; done) | skip
    all_goals
      rename_i e0
      try simp only [e0]
      rw [evParts_loc (α := α) (fun p hp => ho p.2 (by simp only [Op.operands, List.mem_toArray, List.mem_map]; exact ⟨p, hp, rfl⟩))]
      exact h
  case h_7 t x => exact gT_loc h fun h => pLoad_loc (ho x (by simp [Op.operands])) h hn
  case h_8 t x y =>
    split at h
    · refine gT_loc h fun h => ?_
      have h1 := ho x (by simp [Op.operands]); have h2 := ho y (by simp [Op.operands])
      unfold pStoreX at *
      rw [h1]
      unfold stX at *
      split at h
      · rename_i hx
        unfold pStoreE at *
        rw [h1, evT_loc h2]
        split at h <;> first | (cases h; done) | skip
        rename_i n k sz i j e
        have key : β.H n = α.H n := by
          split at h <;> first | (cases h; done) | skip
          split at h <;> first | (cases h; done) | skip
          split at h <;> first | (cases h; done) | skip
          simp only [Option.some.injEq] at h; subst h
          exact hn n (by simp)
        simp only [e, key]; exact h
      · exact pStore_loc h1 h2 h hn
    · cases h
  case h_9 x => exact pNil_loc (ho x (by simp [Op.operands])) h hn
  case h_10 op t x y u =>
    refine gT_loc h fun h => ?_
    have h1 := ho x (by simp [Op.operands]); have h2 := ho y (by simp [Op.operands])
    unfold pBin at *
    rw [h1, h2]; exact h
  case h_11 op t x =>
    have h1 := ho x (by simp [Op.operands])
    unfold pUn at *
    rw [h1]; exact h
  case h_12 s t x => exact gT_loc h fun h => gT_loc h fun h => pConvA_loc (ho x (by simp [Op.operands])) h hn
  case h_13 fn first caps =>
    unfold pFunc at *
    split at h <;> first | (cases h; done) | skip
    rename_i h0
    rw [if_pos h0, show caps.toList.map β.ev = caps.toList.map α.ev from List.map_congr_left fun y hy => ho y (by simp [Op.operands]; exact .inr (by simpa using hy))]
    exact h
  case h_14 t x lo hi mx =>
    refine gT_loc h fun h => ?_
    have h1 := ho x (by simp [Op.operands])
    have h2 : ∀ y, lo = some y → β.ev y = α.ev y := fun y e => ho y (by subst e; simp [Op.operands])
    have h3 : ∀ y, hi = some y → β.ev y = α.ev y := fun y e => ho y (by subst e; simp [Op.operands])
    have h4 : ∀ y, mx = some y → β.ev y = α.ev y := fun y e => ho y (by subst e; simp [Op.operands])
    have e : pSlice cx.T t β x lo hi mx = pSlice cx.T t α x lo hi mx := by
      unfold pSlice
      rw [h1]
      have h5 : mx.map β.ev = mx.map α.ev := by cases mx with | none => rfl | some y => simp only [Option.map_some, h4 y rfl]
      simp only [optN_loc h2, optN_loc h3, h5]
    rw [e]; exact h
  case h_15 t x f => exact gT_loc h fun h => pFieldAddr_loc (ho x (by simp [Op.operands])) h hn
  case h_16 t x f =>
    refine gT_loc h fun h => ?_
    have h1 := ho x (by simp [Op.operands])
    unfold pField at *
    rw [h1]; exact h
  case h_17 t x i => exact gT_loc h fun h => gT_loc h fun h => pIndexAddr_loc (ho x (by simp [Op.operands])) (ho i (by simp [Op.operands])) h hn
  case h_18 t x i =>
    refine gT_loc h fun h => ?_
    have h1 := ho x (by simp [Op.operands]); have h2 := ho i (by simp [Op.operands])
    unfold pIndex at *
    rw [h1, h2]; exact h
  case h_19 x i =>
    have h1 := ho x (by simp [Op.operands])
    unfold pExtract at *
    rw [h1]; exact h
  case h_20 x t => exact gT_loc h fun h => pLen_loc (ho x (by simp [Op.operands, Call.operands])) h hn
  case h_21 args ts =>
    obtain ⟨l⟩ := args
    simp only at h ⊢
    unfold pMM at *
    split at h <;> first | (cases h; done) | skip
    · rename_i x y
      have h1 := ho x (by simp [Op.operands, Call.operands]); have h2 := ho y (by simp [Op.operands, Call.operands])
      simp only [h1, h2]; exact h
    · rename_i x y z
      have h1 := ho x (by simp [Op.operands, Call.operands]); have h2 := ho y (by simp [Op.operands, Call.operands]); have h3 := ho z (by simp [Op.operands, Call.operands])
      simp only [h1, h2, h3]; exact h
  case h_22 args ts =>
    obtain ⟨l⟩ := args
    simp only at h ⊢
    unfold pMM at *
    split at h <;> first | (cases h; done) | skip
    · rename_i x y
      have h1 := ho x (by simp [Op.operands, Call.operands]); have h2 := ho y (by simp [Op.operands, Call.operands])
      simp only [h1, h2]; exact h
    · rename_i x y z
      have h1 := ho x (by simp [Op.operands, Call.operands]); have h2 := ho y (by simp [Op.operands, Call.operands]); have h3 := ho z (by simp [Op.operands, Call.operands])
      simp only [h1, h2, h3]; exact h
  case h_23 x y t xt =>
    refine gT_loc h fun h => gT_loc h fun h => gT_loc h fun h => ?_
    split at h
    · rename_i hs
      rw [if_pos hs]
      exact pApp_loc (ho x (by simp [Op.operands, Call.operands])) (ho y (by simp [Op.operands, Call.operands])) h hn
    · cases h
  case h_24 t len ps =>
    refine gT_loc h fun h => ?_
    unfold pBuildS at *
    split at h <;> first | (cases h; done) | skip
    rename_i e0
    try simp only [e0]
    rw [evParts_loc (α := α) (fun p hp => ho p.2 (by simp only [Op.operands, List.mem_toArray, List.mem_map]; exact ⟨p, hp, rfl⟩))]
    exact h
  case h_25 t l c =>
    refine gT_loc h fun h => ?_
    have h1 := ho l (by simp [Op.operands]); have h2 := ho c (by simp [Op.operands])
    unfold pMake at *
    rw [h1, h2]
    have key : β.H nm = α.H nm := by
      split at h <;> first | (cases h; done) | skip
      split at h <;> first | (cases h; done) | skip
      simp only [Option.some.injEq] at h; subst h
      exact hn nm (by simp)
    rw [key]; exact h
end Go.AM
