/- The abstract machine, part 11: append, as an operation. -/
import Derived.Test.YtnmhinolpnnkkaaGreatZam10
set_option linter.unusedSimpArgs false
set_option linter.unusedVariables false
namespace Go.AM
open Go.RowKit Go.Lib
variable {P : Program} {T : Tab}

/-- The cells 'us' read as the elements 'xs'. -/
def Els (σ : Sig) (sz : Nat) (xs : List (List D)) (us : List Value) : Prop :=
  us.length = xs.length * sz ∧ (∀ u ∈ us, u.oneCell' = true) ∧ ∀ (i : Nat) (x : List D), xs[i]? = some x → x.length = sz ∧ ∀ (j : Nat) (d : D), x[j]? = some d → Rd σ d (us.getD (i * sz + j) undef)
theorem Els.mono {σ σ' : Sig} {sz : Nat} {xs : List (List D)} {us : List Value} (h : Els σ sz xs us) (hσ : ∀ b o u, σ b o = some u → σ' b o = some u) : Els σ' sz xs us :=
  ⟨h.1, h.2.1, fun i x hx => ⟨(h.2.2 i x hx).1, fun j d hd => ((h.2.2 i x hx).2 j d hd).mono hσ⟩⟩
theorem Els.append {σ : Sig} {sz : Nat} {xs ys : List (List D)} {us vs : List Value} (h : Els σ sz xs us) (k : Els σ sz ys vs) : Els σ sz (xs ++ ys) (us ++ vs) := by
  refine ⟨by rw [List.length_append, List.length_append, h.1, k.1, Nat.add_mul], fun u hu => ?_, fun i x hx => ?_⟩
  · rcases List.mem_append.1 hu with h1 | h1
    · exact h.2.1 u h1
    · exact k.2.1 u h1
  · rw [List.getElem?_append] at hx
    split at hx
    · rename_i hi
      obtain ⟨h1, h2⟩ := h.2.2 i x hx
      refine ⟨h1, fun j d hd => ?_⟩
      have hj := (List.getElem?_eq_some_iff.1 hd).1
      have : (i + 1) * sz ≤ xs.length * sz := Nat.mul_le_mul_right _ hi
      rw [Nat.succ_mul] at this
      have hlt : i * sz + j < us.length := by rw [h.1]; omega
      rw [List.getD_eq_getElem?_getD, List.getElem?_append_left hlt, ← List.getD_eq_getElem?_getD]
      exact h2 j d hd
    · rename_i hi
      obtain ⟨h1, h2⟩ := k.2.2 _ x hx
      refine ⟨h1, fun j d hd => ?_⟩
      have e : i * sz + j = us.length + ((i - xs.length) * sz + j) := by
        rw [h.1, ← Nat.add_assoc, ← Nat.add_mul]
        congr 2
        omega
      rw [e, List.getD_eq_getElem?_getD, List.getElem?_append_right (by omega), Nat.add_sub_cancel_left, ← List.getD_eq_getElem?_getD]
      exact h2 j d hd

theorem firstCells_some (size n : Nat) (b o : Nat) (len cap : Nat) (cs : List Value) (hl : cs.length = n * size) (w : World) (h : ∀ (j : Nat) (v : Value), cs[j]? = some v → w.cell? ⟨b, o + j, none⟩ = some v) :
    (Builtin.firstCells size n (.slice (some ⟨b, o, none⟩) len cap)).run P w = .ok cs.toArray w :=
  run_firstCells_some w size n ⟨b, o, none⟩ len cap cs hl (fun j v hv => by rw [Addr.add_mid]; exact h j v hv)
theorem firstCells_zero (size : Nat) (a : Option Addr) (len cap : Nat) (w : World) : (Builtin.firstCells size 0 (.slice a len cap)).run P w = .ok #[] w := by
  cases a <;> simp [Builtin.firstCells, loadCells, loadCellsFrom]

/-- What a list's slice holds. -/
theorem els_of {σ : Sig} {sz : Nat} {xs : List (List D)} {v : Value} (r : Rd σ (.l sz xs) v) {w : World} (hs : ∀ b o u, σ b o = some u → w.cell? ⟨b, o, none⟩ = some u) :
    ∃ (us : List Value) (a : Option Addr) (c : Nat), v = .slice a xs.length c ∧ xs.length ≤ c ∧ Els σ sz xs us ∧ ∀ w' : World, w'.heap = w.heap → (Builtin.firstCells sz xs.length v).run P w' = .ok us.toArray w' := by
  cases r with
  | nil sz a c => exact ⟨[], a, c, rfl, Nat.zero_le _, ⟨by simp, by simp, fun i x hx => by simp at hx⟩, fun w' _ => firstCells_zero _ _ _ _ _⟩
  | @l _ _ b o c n u hn hc hz h1 ho h2 =>
    subst hn
    have pos : ∀ q, q < xs.length * sz → 0 < sz ∧ q / sz < xs.length ∧ q % sz < sz := by
      intro q hq
      have hsz : 0 < sz := by
        rcases Nat.eq_zero_or_pos sz with h | h
        · rw [h, Nat.mul_zero] at hq; omega
        · exact h
      exact ⟨hsz, (Nat.div_lt_iff_lt_mul hsz).2 hq, Nat.mod_lt _ hsz⟩
    refine ⟨(List.range (xs.length * sz)).map fun q => u (q / sz) (q % sz), _, c, rfl, hc, ⟨by simp, fun v hv => ?_, fun i x hx => ⟨hz i x hx, fun j d hd => ?_⟩⟩, fun w' hw' => ?_⟩
    · obtain ⟨q, hq, rfl⟩ := List.mem_map.1 hv
      obtain ⟨p1, p2, p3⟩ := pos q (by simpa using hq)
      exact ho _ _ p2 p3
    · have hi := (List.getElem?_eq_some_iff.1 hx).1
      have hj := (List.getElem?_eq_some_iff.1 hd).1
      have hl := hz i x hx
      have : (i + 1) * sz ≤ xs.length * sz := Nat.mul_le_mul_right _ hi
      rw [Nat.succ_mul] at this
      have hlt : i * sz + j < xs.length * sz := by omega
      rw [List.getD_eq_getElem?_getD, List.getElem?_map, List.getElem?_range hlt]
      have e1 : (i * sz + j) / sz = i := by
        rw [Nat.mul_comm, Nat.mul_add_div (by omega), Nat.div_eq_of_lt (by omega), Nat.add_zero]
      have e2 : (i * sz + j) % sz = j := by
        rw [Nat.mul_comm, Nat.mul_add_mod, Nat.mod_eq_of_lt (by omega)]
      simp only [Option.map_some, Option.getD_some, e1, e2]
      exact h2 i x hx j d hd
    · refine firstCells_some sz xs.length b o xs.length c _ (by simp) w' fun j v hv => ?_
      simp only [List.getElem?_map, Option.map_eq_some_iff] at hv
      obtain ⟨q, hq, rfl⟩ := hv
      have hlt : j < xs.length * sz := by
        have := (List.getElem?_eq_some_iff.1 hq).1; simpa using this
      rw [List.getElem?_range hlt] at hq
      simp only [Option.some.injEq] at hq; subst hq
      obtain ⟨p1, p2, p3⟩ := pos _ hlt
      have := h1 _ _ p2 p3
      rw [Nat.mul_comm, Nat.div_add_mod] at this
      have := hs _ _ _ this
      simpa [World.cell?, hw'] using this

def strEls (s : ByteArray) : List (List D) := s.data.toList.map fun b => [.c (.int .u8 b.toNat)]
theorem strEls_length (s : ByteArray) : (strEls s).length = s.size := by simp [strEls]
theorem els_str (σ : Sig) (s : ByteArray) : Els σ 1 (strEls s) (strCells s) := by
  refine ⟨by rw [strCells_length, strEls_length, Nat.mul_one], strCells_oneCell s, fun i x hx => ?_⟩
  simp only [strEls, List.getElem?_map, Option.map_eq_some_iff] at hx
  obtain ⟨b, hb, rfl⟩ := hx
  refine ⟨rfl, fun j d hd => ?_⟩
  have hj : j = 0 := by have := (List.getElem?_eq_some_iff.1 hd).1; simpa using this
  subst hj
  simp only [List.getElem?_cons_zero, Option.some.injEq] at hd; subst hd
  have : (strCells s).getD (i * 1 + 0) undef = .int .u8 b.toNat := by
    rw [Nat.mul_one, Nat.add_zero, List.getD_eq_getElem?_getD]
    simp only [strCells, List.getElem?_map, hb, Option.map_some, Option.getD_some]
  rw [this]
  exact .c _ rfl

/-- The second argument of append. -/
def newsOf (T : Tab) (xt e : TypeId) (y : AV) : Option (List (List D)) :=
  match (T xt).k, y with
  | .slice _, .d (.l sz ys) => if sz = (T e).size then some ys else none
  | .slice _, .fl sz ys => if sz = (T e).size then some ys else none
  | .str, .d (.c (.string s)) => if (T e).size = 1 then some (strEls s) else none
  | _, _ => none
theorem newsOf_ok (hT : ∀ t, (T t).size ≠ 0 → TOk P t (T t)) {xt e : TypeId} (hxt : (T xt).size ≠ 0) {y : AV} {ys : List (List D)} (h : newsOf T xt e y = some ys) {σ : Sig} {ρ : Names} {v : Value} (r : RdA σ ρ y v)
    {w : World} (hs : ∀ b o u, σ b o = some u → w.cell? ⟨b, o, none⟩ = some u) : ∃ news, News P w xt (T e).size v ys.length news ∧ Els σ (T e).size ys news := by
  have ht := hT xt hxt
  have mk : ∀ {sz : Nat} {e' : TypeId}, (T xt).k = .slice e' → sz = (T e).size → Rd σ (.l sz ys) v → ∃ news, News P w xt (T e).size v ys.length news ∧ Els σ (T e).size ys news := by
    intro sz e' hk hsz hr
    subst hsz
    obtain ⟨us, a, c, rfl, hc, hE, hf⟩ := els_of (P := P) hr hs
    exact ⟨us, ⟨.inl ⟨_, ht.slice hk⟩, fun w' _ => rfl, hf, hE.1, hE.2.1⟩, hE⟩
  unfold newsOf at h
  split at h <;> first | (cases h; done) | skip
  · rename_i e' sz zs hk
    split at h <;> first | (cases h; done) | skip
    simp only [Option.some.injEq] at h; subst h
    cases r with | d hr => exact mk hk ‹_› hr
  · rename_i e' sz zs hk
    split at h <;> first | (cases h; done) | skip
    simp only [Option.some.injEq] at h; subst h
    cases r with | fl hr => exact mk hk ‹_› hr
  · rename_i s hk
    split at h <;> first | (cases h; done) | skip
    rename_i h1
    simp only [Option.some.injEq] at h; subst h
    have hv := rd_c r
    subst hv
    rw [h1, strEls_length]
    refine ⟨strCells s, ⟨.inr (ht.str hk), fun w' _ => rfl, fun w' _ => run_firstCells_string 1 s (w := w'), by rw [strCells_length, Nat.mul_one], strCells_oneCell s⟩, els_str σ s⟩

/-- A row of one's own goes on. -/
theorem row_app {t xt ty e : TypeId} (ht : P.underlying t = some (.slice e)) (he : TOk P e (T e)) {w : World} {v : Value} {n : Nat} {us : List Value} (hr : RowAt w e (T e).size v n us)
    {x : Value} {m : Nat} {news : List Value} (hx : News P w xt (T e).size x m news) (h63 : n + m ≤ maxLen) (hb : (n + m) * (T e).bytes ≤ 140737488355328) :
    ∃ v' w', (Builtin.append_ #[t, xt] ty #[v, x]).run P w = .ok v' w' ∧ RowAt w' e (T e).size v' (n + m) (us ++ news) ∧ w.grownBy w' (rowBlock v) ∧ ∀ b, rowBlock v' = some b → rowBlock v = some b ∨ w.heap.size ≤ b := by
  have hmax : n + m ≤ 9223372036854775807 := by simp only [maxLen] at h63; omega
  -- the arm that grows
  have grow : ∀ (b : Option Addr) (cap : Nat), v = .slice b n cap → cap < n + m → (∀ w' : World, w'.heap = w.heap → (Builtin.firstCells (T e).size n (.slice b n cap)).run P w' = .ok us.toArray w') →
      ∃ v' w', (Builtin.append_ #[t, xt] ty #[v, x]).run P w = .ok v' w' ∧ RowAt w' e (T e).size v' (n + m) (us ++ news) ∧ w.grownBy w' (rowBlock v) ∧ ∀ b, rowBlock v' = some b → rowBlock v = some b ∨ w.heap.size ≤ b := by
    intro b cap hv hcap hold
    subst hv
    obtain ⟨zs, h1, h2⟩ := run_app_grow (ty := ty) ht he hold hx hcap (by omega) (growslice_fits hcap hb)
    have hge := grownCap_ge w (n + m) cap e
    have hcm := grownCap_le_maxLen w (n + m) cap e h63
    obtain ⟨c', hc'⟩ : ∃ c', grownCap w (n + m) cap e = c' + 1 := ⟨grownCap w (n + m) cap e - 1, by omega⟩
    rw [hc'] at h1 h2 hge hcm
    refine ⟨_, _, h1, ⟨?_, .inr ⟨w.heap.size, c', _, (0, 0), rfl, heap_alloc_new w.drew _, .inl rfl, hge, hcm, ?_, ?_⟩⟩, ⟨rfl, rfl, rfl, by simp, fun k hk _ => by rw [heap_alloc_old w.drew _ hk]; rfl⟩, fun b hb => ?_⟩
    · rw [List.length_append, hr.1, hx.size, Nat.add_mul]
    · simp only [List.size_toArray, List.length_append, h2, hr.1, hx.size, ← Nat.add_mul]
      congr 1
      omega
    · have : (n + m) * (T e).size = (us ++ news).length := by rw [List.length_append, hr.1, hx.size, Nat.add_mul]
      rw [this]
      exact List.take_left
    · simp only [rowBlock, Option.some.injEq] at hb
      exact .inr (by omega)
  rcases hr.2 with ⟨rfl, a, rfl⟩ | ⟨g, cap, cur, fr, rfl, hg, hfr, hnc, hcm, hcs, htake⟩
  · have hu0 : us = [] := List.eq_nil_of_length_eq_zero (by simpa using hr.1)
    rcases Nat.eq_zero_or_pos m with h0 | h0
    · subst h0
      have hn0 : news = [] := List.eq_nil_of_length_eq_zero (by simpa using hx.size)
      subst hu0; subst hn0
      exact ⟨_, _, run_app_none ht he hx (Nat.le_refl _), ⟨by simp, .inl ⟨rfl, a, rfl⟩⟩, ⟨rfl, rfl, rfl, Nat.le_refl _, fun _ _ _ => rfl⟩, fun b hb => .inl hb⟩
    · exact grow a 0 rfl (by omega) (fun w' _ => by rw [hu0]; exact firstCells_zero _ _ _ _ _)
  · by_cases hroom : n + m ≤ cap + 1
    · have hfit : n * (T e).size + news.length ≤ cur.size := by rw [hx.size, hcs, ← Nat.add_mul]; exact Nat.mul_le_mul_right _ hroom
      have hr1 := run_app_room (ty := ty) ht he hx hg (fun j hj => by rcases hfr with rfl | rfl <;> simp only <;> omega) hroom hfit
      refine ⟨_, _, hr1, ⟨by rw [List.length_append, hr.1, hx.size, Nat.add_mul], .inr ⟨g, cap, _, fr, rfl, setRow_heap w g cur _ e _ hg, ?_, hroom, hcm, ?_, ?_⟩⟩, setRow_grown w g _, fun b hb => .inl hb⟩
      · have : (putCells cur.toList (n * (T e).size) news).toArray.size = cur.size := by
          rw [List.size_toArray, putCells_length (by simpa using hfit)]; simp
        rw [this]; exact hfr
      · rw [List.size_toArray, putCells_length (by simpa using hfit)]; simpa using hcs
      · have e1 : (n + m) * (T e).size = (us ++ news).length := by rw [List.length_append, hr.1, hx.size, Nat.add_mul]
        rw [e1]
        show (putCells cur.toList (n * (T e).size) news).take _ = _
        unfold putCells
        rw [htake]
        exact List.take_left
    · refine grow _ _ rfl (by omega) fun w' hw' => firstCells_some _ _ g 0 _ _ _ hr.1 w' fun j u hu => ?_
      have := hr.cells (g := g) rfl j u hu
      rw [Nat.zero_add]
      simpa [World.cell?, hw'] using this
end Go.AM
