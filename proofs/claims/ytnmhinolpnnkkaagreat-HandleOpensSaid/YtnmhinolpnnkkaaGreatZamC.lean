/- The abstract machine, part C: bytes and texts, turned into one another. -/
import Derived.Test.YtnmhinolpnnkkaaGreatZamB
import Derived.Laws.IdiomStrings
set_option linter.unusedSimpArgs false
set_option linter.unusedVariables false
namespace Go.AM
open Go.RowKit Go.Lib
variable {P : Program} {T : Tab}

def byteN : List D → Int
  | [.c (.int .u8 n)] => n
  | _ => 0
def isByte : List D → Bool
  | [.c (.int .u8 _)] => true
  | _ => false
/-- The text whose bytes these are. -/
def strOfB (xs : List (List D)) : ByteArray := ⟨(xs.map fun x => UInt8.ofNat (byteN x).toNat).toArray⟩
theorem isByte_eq {x : List D} (h : isByte x = true) : x = [.c (.int .u8 (byteN x))] := by
  unfold isByte at h
  split at h
  · rfl
  · cases h
theorem conv_bytes {σ : Sig} {w : World} (hs : ∀ b o u, σ b o = some u → w.cell? ⟨b, o, none⟩ = some u) {src dst e : TypeId} (h1 : P.underlying src = some (.slice e)) (h2 : P.underlying e = some (.int .u8)) (h3 : P.underlying dst = some .string)
    {xs : List (List D)} {v : Value} (r : Rd σ (.l 1 xs) v) (hx : xs.all isByte = true) : (convert src dst v).run P w = .ok (.string (strOfB xs)) w := by
  have he : strOfB [] = ByteArray.empty := rfl
  cases r with
  | nil sz a c =>
    rw [he]
    cases a with
    | none => exact run_convert_bytes_nil w src e h1 h2 0 c dst h3
    | some a =>
      exact run_convert_bytes_back (P := P) w src dst e a c [] h1 h2 h3 (fun j hj => by simp at hj)
  | @l _ _ b o c n u hn hc hz g1 ho g2 =>
    subst hn
    rw [List.all_eq_true] at hx
    have hk := run_convert_bytes_arg (P := P) w src e h1 h2 b o xs.length c (xs.map byteN) (by simp) (fun i hi => by
      have q := g1 i 0 hi (by omega)
      rw [show o + (i * 1 + 0) = o + i by omega] at q
      rw [hs _ _ _ q]
      have hxi := isByte_eq (hx xs[i] (List.getElem_mem hi))
      have q2 := g2 i xs[i] (List.getElem?_eq_getElem hi) 0 (.c (.int .u8 (byteN xs[i]))) (by rw [hxi]; simp [byteN])
      rw [rd_c (ρ := fun _ => none) (.d q2)]
      simp [List.getD_eq_getElem?_getD, List.getElem?_eq_getElem, hi]) dst h3
    rw [hk]
    simp only [strOfNums, strOfB, List.map_map]
    rfl

def isU8 : TK → Bool | .int .u8 => true | _ => false
theorem isU8_eq {k : TK} (h : isU8 k = true) : k = .int .u8 := by
  unfold isU8 at h
  split at h
  · rfl
  · cases h
def pConvA (T : Tab) (nm : Nat) (src dst : TypeId) (α : AS) (x : Operand) : Option PR :=
  match (T src).k, (T dst).k with
  | .slice e, .str => if (T e).size ≠ 0 ∧ isU8 (T e).k = true then
      match evT T α src x with
      | .d (.l 1 xs) => pc (xs.all isByte = true) (.d (.c (.string (strOfB xs))))
      | .fl 1 xs => pc (xs.all isByte = true) (.d (.c (.string (strOfB xs))))
      | .s m k => match α.H m with
        | some (.row _ 1 k' xs) => if k = k' then some ⟨xs.all isByte = true, .d (.c (.string (strOfB xs))), [m], []⟩ else none
        | _ => none
      | _ => none
    else none
  | .str, .slice e => if (T e).size = 1 ∧ isU8 (T e).k = true then
      match α.ev x, α.H nm with
      | .d (.c (.string s)), none => some ⟨s.size ≤ 9223372036854775807, .s nm 0, [nm], [(nm, some (.row e 1 0 (strEls s)))]⟩
      | _, _ => none
    else none
  | _, _ => pConv T src dst α x

theorem pConvA_ok (hT : ∀ t, (T t).size ≠ 0 → TOk P t (T t)) {o : Oper} {α : AS} {nm : Nat} {src dst : TypeId} {x : Operand} (ho : o.op = .convert src dst x) (hz : (T dst).size ≠ 0) (hs : (T src).size ≠ 0)
    {pr : PR} (h : pConvA T nm src dst α x = some pr) : Snd P o α pr := by
  unfold pConvA at h
  split at h
  · rename_i e hk1 hk2
    split at h <;> first | (cases h; done) | skip
    rename_i he
    have t1 := (hT src hs).slice hk1
    have t2 := (hT dst hz).str hk2
    have t3 := (hT e he.1).int (isU8_eq he.2)
    split at h <;> first | (cases h; done) | skip
    · rename_i xs hx
      simp only [pc, Option.some.injEq] at h; subst h
      refine snd_run (fun a => convert src dst (a.eval x)) (fun a w => by simp [execOp, ho]) fun hc B σ ρ ac w hi => ⟨_, ?_, .d (.c _ rfl)⟩
      have hr := evT_rd (T := T) hi src x
      rw [hx] at hr
      cases hr with | d hr => exact conv_bytes hi.sig t1 t3 t2 hr hc
    · rename_i xs hx
      simp only [pc, Option.some.injEq] at h; subst h
      refine snd_run (fun a => convert src dst (a.eval x)) (fun a w => by simp [execOp, ho]) fun hc B σ ρ ac w hi => ⟨_, ?_, .d (.c _ rfl)⟩
      have hr := evT_rd (T := T) hi src x
      rw [hx] at hr
      generalize ac.eval x = v at hr
      cases hr with | fl hr => exact conv_bytes hi.sig t1 t3 t2 hr hc
    · rename_i m k hx
      split at h <;> first | (cases h; done) | skip
      rename_i e' k' xs hH
      split at h <;> first | (cases h; done) | skip
      rename_i hk
      subst hk
      simp only [Option.some.injEq] at h; subst h
      refine snd_run (fun a => convert src dst (a.eval x)) (fun a w => by simp [execOp, ho]) fun hc B σ ρ ac w hi => ⟨_, ?_, .d (.c _ rfl)⟩
      have hr := evT_rd (T := T) hi src x
      rw [hx] at hr
      obtain ⟨v0, us, q1, q2, q3, q4⟩ := (hi.hok m _ hH).row_els
      generalize ac.eval x = v at hr
      cases hr with | s hr hkk hv hs' =>
      rw [q1] at hr
      obtain ⟨rfl, rfl⟩ : k = _ ∧ v0 = _ := by simpa using hr
      obtain rfl := hv rfl
      refine conv_bytes (σ := addRow σ v us) (fun b o u hu => ?_) t1 t3 t2 (rd_of_row q2 q3 q4) hc
      unfold addRow at hu
      split at hu
      · rename_i hb; exact q2.cells hb o u hu
      · exact hi.sig b o u hu
  · rename_i e hk1 hk2
    split at h <;> first | (cases h; done) | skip
    rename_i he
    have t1 := (hT src hs).str hk1
    have t2 := (hT dst hz).slice hk2
    have t3 := (hT e (by omega)).int (isU8_eq he.2)
    split at h <;> first | (cases h; done) | skip
    rename_i s hx hH
    simp only [Option.some.injEq] at h; subst h
    refine snd_runw (fun a => convert src dst (a.eval x)) (fun a w => by simp [execOp, ho]) fun hc B σ ρ ac w hi => ?_
    rw [ev_c hi hx]
    have hr := run_bytes_of_string (P := P) w src dst e s t1 t2 t3
    have hge := grownCap_ge w s.size 0 e
    have hle := grownCap_le_maxLen w s.size 0 e (by simp only [maxLen]; exact hc)
    generalize hcap : grownCap w s.size 0 e = cap at *
    have hsz : (bytesRow s cap).size = cap := by simp [bytesRow]; omega
    rw [hsz] at hr
    have hrow : RowAt (w.drew.alloc (.cells (bytesRow s cap) e (cap, cap + 1))) e 1 (.slice (some ⟨w.heap.size, 0, none⟩) s.size cap) (strEls s).length (strCells s) := by
      rw [strEls_length]
      refine ⟨by rw [strCells_length, Nat.mul_one], ?_⟩
      cases cap with
      | zero =>
        left
        have : s.size = 0 := by omega
        exact ⟨this, _, by rw [this]⟩
      | succ c =>
        right
        refine ⟨w.heap.size, c, _, _, rfl, heap_alloc_new w.drew _, .inr (by rw [hsz]), hge, hle, by rw [hsz, Nat.mul_one], ?_⟩
        have : (strCells s).length = s.size * 1 := by rw [strCells_length, Nat.mul_one]
        rw [← this]
        simp only [bytesRow, Array.toList_append, Array.toList_map, strCells]
        rw [List.take_append_of_le_length (by simp), List.take_of_length_le (by simp)]
    obtain ⟨ρ', hi', hm'⟩ := hi.row_new (m := nm) (e := e) (sz := 1) (xs := strEls s) hH hrow (els_str σ s) ⟨rfl, rfl, rfl, by simp, fun k hk _ => by rw [heap_alloc_old w.drew _ hk]; rfl⟩ (fun b hb => by
      cases cap with
      | zero => simp [rowBlock] at hb
      | succ n => simp [rowBlock] at hb; omega)
    exact ⟨_, _, σ, ρ', hr, hi', .s hm' (Nat.le_refl _) (fun _ => rfl) rfl⟩
  · exact pConv_ok hT ho hz hs h
theorem pConvA_loc {α β : AS} {nm : Nat} {src dst : TypeId} {x : Operand} (hx : β.ev x = α.ev x) {pr : PR} (h : pConvA T nm src dst α x = some pr) (hn : ∀ n ∈ pr.rn, β.H n = α.H n) : pConvA T nm src dst β x = some pr := by
  have hx' : evT T β src x = evT T α src x := by
    unfold evT
    split
    · rfl
    · exact hx
  unfold pConvA at *
  split at h
  · rename_i e hk1 hk2
    try simp only [hk1, hk2]
    split at h <;> first | (cases h; done) | skip
    rename_i he
    rw [if_pos he, hx']
    split at h <;> first | (cases h; done) | skip
    · rename_i hq; try simp only [hq]
      exact h
    · rename_i hq; try simp only [hq]
      exact h
    · rename_i m k hq
      try simp only [hq]
      have key : β.H m = α.H m := by
        split at h <;> first | (cases h; done) | skip
        split at h <;> first | (cases h; done) | skip
        simp only [Option.some.injEq] at h; subst h
        exact hn m (by simp)
      rw [key]; exact h
  · rename_i e hk1 hk2
    try simp only [hk1, hk2]
    split at h <;> first | (cases h; done) | skip
    rename_i he
    rw [if_pos he, hx]
    have key : β.H nm = α.H nm := by
      split at h <;> first | (cases h; done) | skip
      simp only [Option.some.injEq] at h; subst h
      exact hn nm (by simp)
    rw [key]; exact h
  · rename_i q1 q2
    unfold pConv at *
    rw [hx]; exact h
end Go.AM
