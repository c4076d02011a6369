/- The abstract machine, part 13f: rows are data for a while, or from now on. -/
import Derived.Test.YtnmhinolpnnkkaaGreatZamE
set_option linter.unusedSimpArgs false
set_option linter.unusedVariables false
namespace Go.AM
open Go.RowKit Go.Lib
variable {P : Program} {T : Tab}

/-- What is handed back is data: rows are data now. -/
def resD (H : Nat → Option HE) : AV → Option D
  | .d x => some x
  | .fl sz xs => some (.l sz xs)
  | .s m k => match H m with
    | some (.row _ sz k' xs) => if k = k' then some (.l sz xs) else none
    | _ => none
  | _ => none
def resDs (H : Nat → Option HE) : List AV → Option (List D)
  | [] => some []
  | x :: r => match resD H x, resDs H r with
    | some d, some ds => some (d :: ds)
    | _, _ => none
def resG (H : Nat → Option HE) : AV → Option D
  | .g cs => match resDs H cs with | some ds => some (.g ds) | none => none
  | x => resD H x
/-- All that has a name is data from now on. -/
noncomputable def frozen (σ : Sig) (ρ : Names) (w : World) : Sig := fun b o => by
  classical exact if (∃ n l, ρ n = some l ∧ l.block = some b) then w.cell? ⟨b, o, none⟩ else σ b o
section
variable {B : Base} {σ : Sig} {ρ : Names} {α : AS} {a : Act} {w : World}
theorem frozen_le (hi : Inv B σ ρ α a w) : ∀ b o u, σ b o = some u → frozen σ ρ w b o = some u := by
  intro b o u hs
  unfold frozen
  split
  · exact hi.sig b o u hs
  · exact hs
theorem frozen_sig (hi : Inv B σ ρ α a w) : SigOk (frozen σ ρ w) w := by
  intro b o u hs
  unfold frozen at hs
  split at hs
  · exact hs
  · exact hi.sig b o u hs
theorem frozen_old (hi : Inv B σ ρ α a w) (hS : ∀ b, ¬ B.S b) : ∀ b, b < B.w0.heap.size → frozen σ ρ w b = B.σ0 b := by
  intro b hb
  funext o
  unfold frozen
  rw [if_neg]
  · exact congrFun (hi.old b hb (hS b)) o
  · rintro ⟨n, l, h1, h2⟩
    rcases hi.own n l b h1 h2 with h3 | h3
    · omega
    · exact hS b h3
theorem resD_rd (hi : Inv B σ ρ α a w) {x : AV} {d : D} (h : resD α.H x = some d) {v : Value} (r : RdA σ ρ x v) : Rd (frozen σ ρ w) d v := by
  cases r with
  | d hr => simp only [resD, Option.some.injEq] at h; subst h; exact hr.mono (frozen_le hi)
  | fl hr => simp only [resD, Option.some.injEq] at h; subst h; exact hr.mono (frozen_le hi)
  | @s n k k' v0 v hr hk hv hs =>
    simp only [resD] at h
    split at h <;> first | (cases h; done) | skip
    rename_i e sz k2 xs hH
    split at h <;> first | (cases h; done) | skip
    rename_i hkk
    subst hkk
    simp only [Option.some.injEq] at h; subst h
    obtain ⟨v1, us, q1, q2, q3, q4⟩ := (hi.hok n _ hH).row_els
    rw [q1] at hr
    obtain ⟨rfl, rfl⟩ : k = _ ∧ v1 = _ := by simpa using hr
    obtain rfl := hv rfl
    refine (rd_of_row q2 q3 q4).mono fun b o u hu => ?_
    unfold addRow at hu
    unfold frozen
    split at hu
    · rename_i hb
      rw [if_pos ⟨n, _, q1, hb⟩]
      exact q2.cells hb o u hu
    · split
      · exact hi.sig b o u hu
      · exact hu
  | _ => simp [resD] at h
theorem resDs_get {H : Nat → Option HE} : ∀ {xs : List AV} {ds : List D}, resDs H xs = some ds → ds.length = xs.length ∧ ∀ (j : Nat) (d : D), ds[j]? = some d → ∃ x, xs[j]? = some x ∧ resD H x = some d
  | [], ds, h => by simp [resDs] at h; subst h; simp
  | x :: xs, ds, h => by
    simp only [resDs] at h
    split at h <;> first | (cases h; done) | skip
    rename_i d0 ds0 h1 h2
    simp only [Option.some.injEq] at h
    subst h
    obtain ⟨h3, h4⟩ := resDs_get h2
    refine ⟨by simp [h3], fun j d hj => ?_⟩
    cases j with
    | zero => simp at hj; subst hj; exact ⟨x, by simp, h1⟩
    | succ j => simpa using h4 j d (by simpa using hj)
theorem resG_rd (hi : Inv B σ ρ α a w) {x : AV} {d : D} (h : resG α.H x = some d) {v : Value} (r : RdA σ ρ x v) : Rd (frozen σ ρ w) d v := by
  cases x with
  | g cs =>
    simp only [resG] at h
    split at h <;> first | (cases h; done) | skip
    rename_i ds hd
    simp only [Option.some.injEq] at h; subst h
    obtain ⟨h1, h2⟩ := resDs_get hd
    cases r with | g hl ho hh =>
    refine .g (by omega) ho fun j d hj => ?_
    obtain ⟨y, hy, hyd⟩ := h2 j d hj
    exact resD_rd hi hyd (hh j y hy)
  | _ => exact resD_rd hi (by simpa [resG] using h) r
end


mutual
def D.scal : D → Bool
  | .c _ => true
  | .g cs => Ds.scal cs
  | .t ds => Ds.scal ds
  | .l _ xs => xs.isEmpty
  | _ => false
def Ds.scal : List D → Bool
  | [] => true
  | x :: xs => x.scal && Ds.scal xs
end
theorem ds_scal : ∀ {xs : List D}, Ds.scal xs = true → ∀ (j : Nat) (d : D), xs[j]? = some d → d.scal = true
  | [], _, j, d, h => by simp at h
  | y :: ys, h, j, d, hj => by
    rw [Ds.scal, Bool.and_eq_true] at h
    cases j with
    | zero => simp at hj; subst hj; exact h.1
    | succ j => exact ds_scal h.2 j d (by simpa using hj)
theorem Rd.scal {σ σ' : Sig} {d : D} {v : Value} (r : Rd σ d v) (h : d.scal = true) : Rd σ' d v := by
  induction r with
  | c v hv => exact .c v hv
  | nil sz a c => exact .nil sz a c
  | @l sz xs b o c n u hn hc hz h1 ho h2 ih =>
    simp [D.scal] at h; subst h
    simp at hn; subst hn
    exact .nil _ _ _
  | p => simp [D.scal] at h
  | g hl ho hh ih => exact .g hl ho fun j d hj => ih j d hj (ds_scal (by simpa [D.scal] using h) j d hj)
  | t hl hh ih => exact .t hl fun j d hj => ih j d hj (ds_scal (by simpa [D.scal] using h) j d hj)
  | f => simp [D.scal] at h
def resGs (H : Nat → Option HE) : List AV → Option (List D)
  | [] => some []
  | x :: r => match resG H x, resGs H r with
    | some d, some ds => some (d :: ds)
    | _, _ => none
theorem resGs_get {H : Nat → Option HE} : ∀ {xs : List AV} {ds : List D}, resGs H xs = some ds → ds.length = xs.length ∧ ∀ (j : Nat) (d : D), ds[j]? = some d → ∃ x, xs[j]? = some x ∧ resG H x = some d
  | [], ds, h => by simp [resGs] at h; subst h; simp
  | x :: xs, ds, h => by
    simp only [resGs] at h
    split at h <;> first | (cases h; done) | skip
    rename_i d0 ds0 h1 h2
    simp only [Option.some.injEq] at h
    subst h
    obtain ⟨h3, h4⟩ := resGs_get h2
    refine ⟨by simp [h3], fun j d hj => ?_⟩
    cases j with
    | zero => simp at hj; subst hj; exact ⟨x, by simp, h1⟩
    | succ j => simpa using h4 j d (by simpa using hj)
/-- A call that reads rows, and tells numbers and texts alone. -/
theorem callB_ok (T : Tab) {o : Oper} {α : AS} {fo : Operand} {args : Array Operand} {ts : Array TypeId} (ho : o.op = .call { callee := .value fo, args, argTypes := ts }) {f : FuncId} {caps : List AV} (hf : fnOf (α.ev fo) = some (f, caps))
    {ds : List D} {res : D} (hd : resGs α.H (argsA T α args.toList ts.toList ++ caps) = some ds) (hs : res.scal = true) (h : PF P f ds res) {rn : List Nat} : Snd P o α ⟨True, .d res, rn, []⟩ := by
  intro B a w hdst ⟨σ, ρ, hi⟩ _
  obtain ⟨us, hv, hl, hu⟩ := fnOf_val hf (ev_rd hi fo)
  obtain ⟨hfn, hp⟩ := h
  obtain ⟨d1, d2⟩ := resGs_get hd
  obtain ⟨g1, g2⟩ := args_rd hi T (ts := ts) (args := args) hl hu
  unfold Oper.wp
  rw [call_exec (σ := σ) (ρ := ρ) ho hv hfn]
  simp only [Oper.upon]
  refine (hp w (frozen σ ρ w) (args.map a.eval ++ us) (frozen_sig hi) (by rw [d1]; exact g1) fun j d hj => ?_).mono fun e w' he => ?_
  · obtain ⟨x, hx, hxd⟩ := d2 j d hj
    exact resG_rd hi hxd (g2 j x hx)
  · obtain ⟨v, σ', rfl, hb, _, _, hr⟩ := he
    have hi' := hi.grow0 (σ' := σ) (grownBy_of_below hb) (fun _ _ => rfl) (fun b oo u hbb hs => by rw [hi.new hbb] at hs; cases hs)
    exact ⟨σ, ρ, hi'.put hdst (.d (hr.scal hs))⟩
end Go.AM
