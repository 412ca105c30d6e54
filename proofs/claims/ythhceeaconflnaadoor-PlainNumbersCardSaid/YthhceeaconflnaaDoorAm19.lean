/- 'Am': code and calls: what the machine answers, the program answers.
   By the session's AI agent. -/
import Derived.Test.YthhceeaconflnaaDoorAm18
namespace Go.Am
open Go.RowKit (Below)
set_option linter.unusedVariables false
set_option linter.unusedSimpArgs false
set_option linter.unusedSectionVars false

/-- A function of Go's library, taken by what it gives. -/
def PrimOk (P : Program) (I : Nat → World → Prop) (f : Nat) (pg : List PV → Hp → Option (PV × Option (Nat × List PV))) : Prop := ∀ vs h r, pg vs h = some r → ∀ (N0 : Nat) (w0 : World) (g : G) (us : Array Value) (w : World), I N0 w0 → OkH N0 w0 g h w → us.size = vs.length →
  (∀ (j : Nat) (x : PV), vs[j]? = some x → RV N0 g w x (us.getD j Go.undef)) → (callFunc f us).run P w = .ok (.enter f us) w ∧
    Calls P f us w fun en w' => ∃ u g', en = .returned u ∧ Ext N0 g w g' w' ∧ OkH N0 w0 g' (primHeap h r.2) w' ∧ RV N0 g' w' r.1 u

def TableOk (P : Program) (gl : Globs) (I : Nat → World → Prop) (T : Table) : Prop := ∀ f it, T f = some it → match it with
  | .code fn => ∃ an fn0, P.funcs[f]? = some fn0 ∧ cFn P gl an fn0 = some fn
  | .prim pg => PrimOk P I f pg

def exitOf : AEx → Exit
  | .norm => .normal
  | .exit i => .exit i
  | .ret => .ret

theorem wp_cond_eq {P : Program} {Q : Exit → Act → World → Prop} {a : Act} {w : World} {c : Operand} {x y : Code} {t : Bool} (hc : a.eval c = .bool t) (h : (if t then x else y).wp P Q a w) : (Code.cond c x y).wp P Q a w := wp_cond hc h

section
variable {N0 : Nat} {P : Program} {w0 : World}

theorem rv_below {g : G} {w : World} {v : PV} {u : Value} (h : RV N0 g w v u) : below g.n v = true := by
  induction h with
  | undef u hu => rfl
  | bool b => rfl
  | int k n => rfl
  | str l s h => rfl
  | nilp => rfl
  | bnil t => rfl
  | ptr b off h => simpa [below] using h
  | ep cs off c o u hc hr hf ih => simp only [below]; exact belows_of ih
  | nils => rfl
  | sl ow sz es c o cap u hl hfull hsz hc hr hf sp hsp htk ih =>
    simp only [below, Bool.and_eq_true]
    refine ⟨?_, belows_of fun i e he => ?_⟩
    · cases ow with
      | tok t => simpa [Own.below] using (htk t rfl).1
      | _ => rfl
    have : ∀ (j : Nat) (x : PV), e.cells[j]? = some x → below g.n x = true := fun j x hx => ih i j e x he hx
    cases e with
    | agg cs => simp only [below]; exact belows_of this
    | _ => exact this 0 _ rfl
  | bsl f b off len sz cap h hl hfull => simpa [below] using h
  | nilif => rfl
  | iface t v u _ ih => simpa [below] using ih
  | nilf => rfl
  | fn f cap us hs _ ih => simp only [below]; exact belows_of ih
  | agg cs us hs _ ih => simp only [below]; exact belows_of ih
  | tup cs us hs _ ih => simp only [below]; exact belows_of ih
  | it b h => simpa [below] using h

/-- Is a block that of a box at or above n, other than one? -/
def Gone (g : G) (h : Hp) (n : Nat) (kb : Option Nat) (c : Nat) : Prop := ∃ b cs, n ≤ b ∧ kb ≠ some b ∧ getBox h b = some cs ∧ g.ι b = c
def blkSize (w : World) (c : Nat) : Nat := match w.heap[c]? with
  | some (.cells arr _ _) => arr.size
  | _ => 0
open Classical in
/-- Behind a frame: what the boxes that are forgotten hold is fixed. -/
noncomputable def hwEnd (g : G) (h : Hp) (w : World) (n : Nat) (kb : Option Nat) (c : Nat) : Option Nat :=
  if Gone g h n kb c then some (blkSize w c) else g.hw c

theorem hwEnd_old {g : G} {h : Hp} {w : World} (k : OkH N0 w0 g h w) {n : Nat} {kb : Option Nat} {c m : Nat} (hm : g.hw c = some m) : hwEnd g h w n kb c = some m := by
  unfold hwEnd
  rw [if_neg]; exact hm
  rintro ⟨b, cs, _, _, hb, rfl⟩
  rw [(k.cells hb).2.1] at hm
  cases hm
theorem hwEnd_box {g : G} {h : Hp} {w : World} (k : OkH N0 w0 g h w) {n : Nat} {kb : Option Nat} {b : Nat} {x : Box} (hb : box? h b = some x) (hn : b < n ∨ kb = some b) : hwEnd g h w n kb (blk g b x) = g.hw (blk g b x) := by
  unfold hwEnd
  rw [if_neg]
  rintro ⟨b', cs, h1, h2, h3, h4⟩
  have := k.inj b' b (.cells cs) x (box_of_get h3) hb h4
  subst this
  rcases hn with hn | hn
  · omega
  · exact h2 hn
theorem hwEnd_gone {g : G} {h : Hp} {w : World} {n : Nat} {kb : Option Nat} {b : Nat} {cs : List PV} (h1 : n ≤ b) (h2 : kb ≠ some b) (h3 : getBox h b = some cs) : hwEnd g h w n kb (g.ι b) = some (blkSize w (g.ι b)) := by
  unfold hwEnd
  rw [if_pos ⟨b, cs, h1, h2, h3, rfl⟩]

/-- The ghost behind a frame. -/
noncomputable def gEnd (g : G) (h : Hp) (w : World) (n : Nat) (kb : Option Nat) : G := { g with hw := hwEnd g h w n kb }

theorem ext_hwEnd {g : G} {h : Hp} {w : World} (k : OkH N0 w0 g h w) (n : Nat) (kb : Option Nat) : Ext N0 g w (gEnd g h w n kb) w :=
  ⟨Nat.le_refl _, fun _ _ => rfl, fun c m hm => ⟨m, hwEnd_old k hm, Nat.le_refl _⟩, fun _ _ _ _ _ => rfl, fun _ _ _ => rfl, fun _ _ => ⟨Nat.le_refl _, fun _ => rfl⟩⟩

theorem ext_fewer {g g' : G} {w w' : World} (x : Ext N0 g w g' w') {n : Nat} (hn : g.n ≤ n) : Ext N0 g w { g' with n := n } w' := ⟨hn, x.ι, x.hw, x.cell, x.old, x.tk⟩

theorem arr_hwEnd {g : G} {h : Hp} {w : World} (k : OkH N0 w0 g h w) {n : Nat} {kb : Option Nat} : ∀ c m, hwEnd g h w n kb c = some m → N0 ≤ c ∧ c < w.heap.size := by
  intro c m hm
  unfold hwEnd at hm
  split at hm
  · rename_i hg
    obtain ⟨b, cs, _, _, hb, rfl⟩ := hg
    exact (k.box b _ (box_of_get hb)).blk
  · exact k.arr c m hm

/-- Behind a frame: the boxes that were made in it are forgotten. -/
theorem ok_trunc {g : G} {h1 : Hp} {w : World} (k : OkH N0 w0 g h1 w) {n : Nat} (hn : n ≤ size h1) (hclo : Clo n h1) : OkH N0 w0 { gEnd g h1 w n none with n := n } (trunc h1 n) w := by
  have hget : ∀ b x, box? (trunc h1 n) b = some x → b < n ∧ box? h1 b = some x := by
    intro b x hx
    have hb : b < n := by
      rcases Nat.lt_or_ge b n with h' | h'
      · exact h'
      · rw [box_trunc_none h'] at hx; cases hx
    rw [box_trunc hb] at hx
    exact ⟨hb, hx⟩
  refine ⟨by rw [size_trunc hn], k.hN, k.below, fun b c x y hx hy he => ?_, fun b x hx => ?_, arr_hwEnd k, fun t v hv => by simp [look] at hv⟩
  · exact k.inj b c x y (hget b x hx).2 (hget c y hy).2 (by cases x <;> cases y <;> exact he)
  · obtain ⟨hb, hx'⟩ := hget b x hx
    have hbx := k.box b x hx'
    have hhw := hwEnd_box k (n := n) (kb := none) hx' (.inl hb)
    cases x with
    | cells cs =>
      obtain ⟨q1, q2, arr, T, lo, hi, q3, q6, q4, q8, q5⟩ := hbx
      refine ⟨q1, hhw.trans q2, arr, T, lo, hi, q3, q6, q4, q8, fun j x hx2 => ?_⟩
      exact rv_fewer ((q5 j x hx2).mono (ext_hwEnd k n none)) (hclo b cs hb (by rw [getBox, hx']; rfl) j x hx2)
    | tok m T =>
      obtain ⟨q1, q2, q3, q4, q5⟩ := hbx
      exact ⟨q1, q2, q3, hhw.trans q4, q5⟩
    | iter s p =>
      obtain ⟨q1, q2, q3⟩ := hbx
      exact ⟨q1, hhw.trans q2, q3⟩

/-- The same, one box kept as the first new one. -/
theorem ok_trunc1 {g : G} {h1 : Hp} {w : World} (k : OkH N0 w0 g h1 w) {n : Nat} (hn : n ≤ size h1) (hclo : Clo n h1) {b : Nat} (hb : n ≤ b) {x : Box} (hx : box? h1 b = some x) (hbel : ∀ cs, x = .cells cs → belows n cs = true) :
    OkH N0 w0 { gEnd g h1 w n (some b) with n := n + 1, ι := fun i => if i = n then g.ι b else g.ι i, tk := fun i => if i = n then g.tk b else g.tk i } (ext (trunc h1 n) [x]) w := by
  have hst : size (trunc h1 n) = n := size_trunc hn
  have hget : ∀ c y, box? (ext (trunc h1 n) [x]) c = some y → (c < n ∧ box? h1 c = some y) ∨ (c = n ∧ y = x) := by
    intro c y hy
    by_cases hc : c < n
    · rw [box_ext_lt (by rw [hst]; exact hc), box_trunc hc] at hy
      exact .inl ⟨hc, hy⟩
    · right
      have hlt := lt_of_box hy
      rw [size_ext, hst] at hlt
      simp only [List.length_singleton] at hlt
      have hcn : c = n := by omega
      subst hcn
      rw [box_ext_at hst] at hy
      cases hy
      exact ⟨rfl, rfl⟩
  let g' : G := { gEnd g h1 w n (some b) with n := n + 1, ι := fun i => if i = n then g.ι b else g.ι i, tk := fun i => if i = n then g.tk b else g.tk i }
  have hblk : ∀ c y, c < n → blk g' c y = blk g c y := by
    intro c y hc
    have e1 : g'.ι c = g.ι c := by show (if c = n then _ else _) = _; rw [if_neg (by omega)]
    have e2 : g'.tk c = g.tk c := by show (if c = n then _ else _) = _; rw [if_neg (by omega)]
    cases y <;> simp only [blk, e1, e2]
  have hblkn : blk g' n x = blk g b x := by
    have e1 : g'.ι n = g.ι b := by show (if n = n then _ else _) = _; rw [if_pos rfl]
    have e2 : g'.tk n = g.tk b := by show (if n = n then _ else _) = _; rw [if_pos rfl]
    cases x <;> simp only [blk, e1, e2]
  have hrv : ∀ (v : PV) (u : Value), RV N0 g w v u → Go.Am.below n v = true → RV N0 g' w v u := by
    intro v u hv hbl
    have h2 := rv_fewer (hv.mono (ext_hwEnd k n (some b))) hbl
    have hxx : Ext N0 { gEnd g h1 w n (some b) with n := n } w g' w := by
      refine ⟨Nat.le_succ n, fun c hc => ?_, fun c m hm => ⟨m, hm, Nat.le_refl _⟩, fun _ _ _ _ _ => rfl, fun _ _ _ => rfl, fun t ht => ?_⟩
      · have hc' : c < n := hc
        show (if c = n then _ else _) = _; rw [if_neg (by omega)]; rfl
      · have ht' : t < n := ht
        have e2 : g'.tk t = g.tk t := by show (if t = n then _ else _) = _; rw [if_neg (by omega)]
        rw [e2]; exact ⟨Nat.le_refl _, fun _ => rfl⟩
    exact h2.mono hxx
  refine ⟨by rw [size_ext, hst]; rfl, k.hN, k.below, fun c d y z hy hz he => ?_, fun c y hy => ?_, arr_hwEnd k, fun t v hv => by simp [look] at hv⟩
  · rcases hget c y hy with ⟨h2, h3⟩ | ⟨h2, h3⟩
    · rcases hget d z hz with ⟨h4, h5⟩ | ⟨h4, h5⟩
      · have he' : blk g' c y = blk g' d z := he
        rw [hblk c y h2, hblk d z h4] at he'
        exact k.inj c d y z h3 h5 he'
      · subst h4; subst h5
        have he' : blk g' c y = blk g' d z := he
        rw [hblk c y h2, hblkn] at he'
        have := k.inj c b y z h3 hx he'
        omega
    · subst h2; subst h3
      rcases hget d z hz with ⟨h4, h5⟩ | ⟨h4, h5⟩
      · have he' : blk g' c y = blk g' d z := he
        rw [hblk d z h4, hblkn] at he'
        have := k.inj b d y z hx h5 he'
        omega
      · exact h4.symm
  · show BoxOk N0 g' w c y
    rcases hget c y hy with ⟨h2, h3⟩ | ⟨h2, h3⟩
    · have hbx := k.box c y h3
      have hhw := hwEnd_box k (n := n) (kb := some b) h3 (.inl h2)
      have e1 : g'.ι c = g.ι c := by show (if c = n then _ else _) = _; rw [if_neg (by omega)]
      have e2 : g'.tk c = g.tk c := by show (if c = n then _ else _) = _; rw [if_neg (by omega)]
      cases y with
      | cells cs =>
        obtain ⟨q1, q2, arr, T, lo, hi, q3, q6, q4, q8, q5⟩ := hbx
        refine ⟨by rw [e1]; exact q1, by rw [e1]; exact hhw.trans q2, arr, T, lo, hi, by rw [e1]; exact q3, q6, q4, q8, fun j x hx2 => ?_⟩
        exact hrv _ _ (q5 j x hx2) (hclo c cs h2 (by rw [getBox, h3]; rfl) j x hx2)
      | tok m T =>
        simp only [BoxOk, e2]
        obtain ⟨q1, q2, q3, q4, q5⟩ := hbx
        exact ⟨q1, q2, q3, hhw.trans q4, q5⟩
      | iter s p =>
        obtain ⟨q1, q2, s', q3, q4⟩ := hbx
        exact ⟨by rw [e1]; exact q1, by rw [e1]; exact hhw.trans q2, s', q3, by rw [e1]; exact q4⟩
    · subst h2; subst h3
      have hbx := k.box b y hx
      have hhw := hwEnd_box k (n := c) (kb := some b) hx (.inr rfl)
      have e1 : g'.ι c = g.ι b := by show (if c = c then _ else _) = _; rw [if_pos rfl]
      have e2 : g'.tk c = g.tk b := by show (if c = c then _ else _) = _; rw [if_pos rfl]
      cases y with
      | cells cs =>
        obtain ⟨q1, q2, arr, T, lo, hi, q3, q6, q4, q8, q5⟩ := hbx
        refine ⟨by rw [e1]; exact q1, by rw [e1]; exact hhw.trans q2, arr, T, lo, hi, by rw [e1]; exact q3, q6, q4, q8, fun j x hx2 => ?_⟩
        exact hrv _ _ (q5 j x hx2) (belows_mem' (hbel cs rfl) j x hx2)
      | tok m T =>
        simp only [BoxOk, e2]
        obtain ⟨q1, q2, q3, q4, q5⟩ := hbx
        exact ⟨q1, q2, q3, hhw.trans q4, q5⟩
      | iter s p =>
        obtain ⟨q1, q2, s', q3, q4⟩ := hbx
        exact ⟨by rw [e1]; exact q1, by rw [e1]; exact hhw.trans q2, s', q3, by rw [e1]; exact q4⟩

theorem chunks_get (sz : Nat) : ∀ (n : Nat) (cs : List PV), (chunks sz true n cs).length = n ∧ ∀ (i : Nat) (x : PV), (chunks sz true n cs)[i]? = some x → i < n ∧ x = .agg ((cs.drop (i * sz)).take sz)
  | 0, cs => ⟨rfl, fun i x h => by simp [chunks] at h⟩
  | n + 1, cs => by
    obtain ⟨h1, h2⟩ := chunks_get sz n (cs.drop sz)
    refine ⟨by simp [chunks, h1], fun i x h => ?_⟩
    cases i with
    | zero => simp [chunks] at h; subst h; exact ⟨by omega, by simp⟩
    | succ i =>
      simp only [chunks, List.getElem?_cons_succ] at h
      obtain ⟨q1, q2⟩ := h2 i x h
      refine ⟨by omega, ?_⟩
      rw [q2, List.drop_drop, Nat.succ_mul]
      congr 3
      omega

/-- What leaves a frame stands for what it stood for. -/
theorem frz_rv {g : G} {h : Hp} {w : World} (k : OkH N0 w0 g h w) {n : Nat} {v : PV} {u : Value} (hr : RV N0 g w v u) : ∀ v', frz n h v = some v' → RV N0 (gEnd g h w n none) w v' u := by
  have hx := ext_hwEnd k n none
  have many : ∀ (cs : List PV) (us : Array Value), (∀ (j : Nat) (x : PV), cs[j]? = some x → ∀ x', frz n h x = some x' → RV N0 (gEnd g h w n none) w x' (us.getD j Go.undef)) → ∀ cs', frzs n h cs = some cs' →
      cs'.length = cs.length ∧ ∀ (j : Nat) (x : PV), cs'[j]? = some x → RV N0 (gEnd g h w n none) w x (us.getD j Go.undef) := by
    intro cs us
    have : ∀ (cs : List PV) (o : Nat), (∀ (j : Nat) (x : PV), cs[j]? = some x → ∀ x', frz n h x = some x' → RV N0 (gEnd g h w n none) w x' (us.getD (o + j) Go.undef)) → ∀ cs', frzs n h cs = some cs' →
        cs'.length = cs.length ∧ ∀ (j : Nat) (x : PV), cs'[j]? = some x → RV N0 (gEnd g h w n none) w x (us.getD (o + j) Go.undef) := by
      intro cs
      induction cs with
      | nil => intro o _ cs' hc; simp only [frzs, Option.some.injEq] at hc; subst hc; exact ⟨rfl, fun j x hx => by simp at hx⟩
      | cons c cs ih =>
        intro o hj cs' hc
        simp only [frzs, Option.bnd_eq_some_iff, Option.some.injEq] at hc
        obtain ⟨c', hc', cs2, hcs2, rfl⟩ := hc
        obtain ⟨l1, l2⟩ := ih (o + 1) (fun j x hx x' hx' => by rw [show o + 1 + j = o + (j + 1) by omega]; exact hj (j + 1) x (by simpa using hx) x' hx') cs2 hcs2
        refine ⟨by simp [l1], fun j x hx => ?_⟩
        cases j with
        | zero => simp at hx; subst hx; exact hj 0 c rfl _ hc'
        | succ j => have := l2 j x (by simpa using hx); rw [show o + (j + 1) = o + 1 + j by omega]; exact this
    intro hj cs' hc
    have := this cs 0 (fun j x hx => by rw [Nat.zero_add]; exact hj j x hx) cs' hc
    exact ⟨this.1, fun j x hx => by have h2 := this.2 j x hx; rwa [Nat.zero_add] at h2⟩
  induction hr with
  | sl ow sz es c o cap uu q1 q2 q3 q4 q5 q6 sp q8 q9 ih =>
    intro v' hv
    simp only [frz, Option.some.injEq] at hv
    subst hv
    exact rv_strip ((RV.sl ow sz es c o cap uu q1 q2 q3 q4 q5 q6 sp q8 q9).mono hx)
  | bsl f b off len sz cap hb hl hfull =>
    intro v' hv
    simp only [frz] at hv
    split at hv
    · simp only [Option.some.injEq] at hv
      subst hv
      exact (RV.bsl f b off len sz cap hb hl hfull).mono hx
    · rename_i hge
      simp only [Option.bnd_eq_some_iff, Option.some.injEq] at hv
      obtain ⟨cs, hcs, es, hes, rfl⟩ := hv
      obtain ⟨r1, r2, arr, T, lo, hi, r3, r6, r4, r8, r5⟩ := k.cells hcs
      have hgone := hwEnd_gone (g := g) (w := w) (kb := none) (show n ≤ b by omega) (by simp) hcs
      have hbs : blkSize w (g.ι b) = arr.size := by simp [blkSize, r3]
      rw [hbs] at hgone
      have fin : ∀ (es : List PV), es.length = len → (∀ (i : Nat) (e : PV), es[i]? = some e → e.cells.length = sz) → (∀ (i j : Nat) (e x : PV), es[i]? = some e → e.cells[j]? = some x → ∃ y, cs[off + (i * sz + j)]? = some y ∧ x = strip y) →
          (es ≠ [] → off + len * sz ≤ cs.length) → RV N0 (gEnd g h w n none) w (.sl (if f then .full else .no) sz es) (.slice (some ⟨g.ι b, off, none⟩) len cap) := by
        intro es e1 e2 e3 e4
        have := RV.sl (N0 := N0) (g := gEnd g h w n none) (w := w) (if f then .full else .no) sz es (g.ι b) off cap (fun i j => arr.getD (off + (i * sz + j)) Go.undef) (by omega) (fun hf => by
          cases f with
          | true => rw [e1]; exact hfull rfl
          | false => simp at hf) e2 (fun i j hi hj => by
          have hne : es ≠ [] := by rintro rfl; simp at hi
          have hlt := mul_lt_of (show i < len by omega) hj
          have := e4 hne
          have hq : off + (i * sz + j) < arr.size := by omega
          simp [World.cell?, r3, Array.getD_eq_getD_getElem?, hq]) (fun i j e x he hx2 => by
          obtain ⟨y, hy, rfl⟩ := e3 i j e x he hx2
          exact rv_strip ((r5 _ y hy).mono hx)) (fun hne => .inr ⟨arr.size, hgone, by have := e4 hne; rw [e1]; omega⟩) none (fun _ => rfl) (by intro t ht; split at ht <;> cases ht)
        rw [e1] at this
        exact this
      unfold elemsOf at hes
      split at hes
      · rename_i h1
        subst h1
        split at hes
        · rename_i hcond
          obtain ⟨c1, c2⟩ := hcond
          simp only [Option.some.injEq] at hes
          subst hes
          simp only [List.length_drop] at c1
          have hg : ∀ (i : Nat) (e : PV), (strips ((cs.drop off).take len))[i]? = some e → i < len ∧ ∃ y, cs[off + i]? = some y ∧ e = strip y ∧ scalar y = true := by
            intro i e he
            rw [strips_get, Option.map_eq_some_iff] at he
            obtain ⟨y, hy, rfl⟩ := he
            have hmem := List.mem_of_getElem? hy
            have hi : i < len := by have := (List.getElem?_eq_some_iff.1 hy).1; simp at this; omega
            rw [List.getElem?_take, if_pos hi, List.getElem?_drop] at hy
            exact ⟨hi, y, hy, rfl, List.all_eq_true.1 c2 y hmem⟩
          refine fin _ (by rw [strips_length]; simp; omega) (fun i e he => ?_) (fun i j e x he hx2 => ?_) (fun hne => ?_)
          · obtain ⟨_, y, _, rfl, hs⟩ := hg i e he
            rw [strip_cells, elem_of_scalar hs]; rfl
          · obtain ⟨_, y, hy, rfl, hs⟩ := hg i e he
            rw [elem_of_scalar (by rw [scalar_strip]; exact hs)] at hx2
            cases j with
            | zero => simp at hx2; subst hx2; exact ⟨y, by simpa using hy, rfl⟩
            | succ j => simp at hx2
          · have : len ≠ 0 := by rintro rfl; exact hne (by simp [strips])
            omega
        · cases hes
      · rename_i h1
        split at hes
        · rename_i hle
          obtain ⟨hs0, hle⟩ := hle
          simp only [Option.some.injEq] at hes
          subst hes
          rw [List.length_drop] at hle
          obtain ⟨g1, g2⟩ := chunks_get sz len (strips (cs.drop off))
          have hlen : ∀ i, i < len → (((strips (cs.drop off)).drop (i * sz)).take sz).length = sz := by
            intro i hi
            have := Nat.mul_le_mul_right sz hi
            rw [Nat.succ_mul] at this
            simp [strips_length]; omega
          refine fin _ g1 (fun i e he => ?_) (fun i j e x he hx2 => ?_) (fun hne => ?_)
          · obtain ⟨hi, rfl⟩ := g2 i e he
            exact hlen i hi
          · obtain ⟨hi, rfl⟩ := g2 i e he
            simp only [PV.cells] at hx2
            have hj : j < sz := by have := (List.getElem?_eq_some_iff.1 hx2).1; rw [hlen i hi] at this; exact this
            rw [List.getElem?_take, if_pos hj, List.getElem?_drop, strips_get, Option.map_eq_some_iff] at hx2
            obtain ⟨y, hy, rfl⟩ := hx2
            rw [List.getElem?_drop] at hy
            exact ⟨y, hy, rfl⟩
          · by_cases h0 : len = 0
            · exfalso; apply hne; exact List.eq_nil_of_length_eq_zero (by rw [g1]; exact h0)
            · have : 0 < len * sz := Nat.mul_pos (by omega) (by omega)
              omega
        · cases hes
  | agg cs us hs hr ih =>
    intro v' hv
    simp only [frz, Option.bnd_eq_some_iff, Option.some.injEq] at hv
    obtain ⟨cs', hcs', rfl⟩ := hv
    obtain ⟨l1, l2⟩ := many cs us ih cs' hcs'
    exact .agg cs' us (by omega) l2
  | tup cs us hs hr ih =>
    intro v' hv
    simp only [frz, Option.bnd_eq_some_iff, Option.some.injEq] at hv
    obtain ⟨cs', hcs', rfl⟩ := hv
    obtain ⟨l1, l2⟩ := many cs us ih cs' hcs'
    exact .tup cs' us (by omega) l2
  | iface t v u h ih =>
    intro v' hv
    simp only [frz, Option.bnd_eq_some_iff, Option.some.injEq] at hv
    obtain ⟨x, hx', rfl⟩ := hv
    exact .iface t x u (ih x hx')
  | undef u hu => intro v' hv; simp only [frz, Option.some.injEq] at hv; subst hv; exact .undef u hu
  | bool b => intro v' hv; simp only [frz, Option.some.injEq] at hv; subst hv; exact .bool b
  | int k n => intro v' hv; simp only [frz, Option.some.injEq] at hv; subst hv; exact .int k n
  | str l s h => intro v' hv; simp only [frz, Option.some.injEq] at hv; subst hv; exact .str l s h
  | nilp => intro v' hv; simp only [frz, Option.some.injEq] at hv; subst hv; exact .nilp
  | bnil t => intro v' hv; simp only [frz, Option.some.injEq] at hv; subst hv; exact .bnil t
  | ptr b off h => intro v' hv; simp only [frz, Option.some.injEq] at hv; subst hv; exact (RV.ptr b off h).mono hx
  | ep cs off c o u hc hr hf ih => intro v' hv; simp only [frz, Option.some.injEq] at hv; subst hv; exact (RV.ep cs off c o u hc hr hf).mono hx
  | nils => intro v' hv; simp only [frz, Option.some.injEq] at hv; subst hv; exact .nils
  | nilif => intro v' hv; simp only [frz, Option.some.injEq] at hv; subst hv; exact .nilif
  | nilf => intro v' hv; simp only [frz, Option.some.injEq] at hv; subst hv; exact .nilf
  | fn f cap us hs hr ih => intro v' hv; simp only [frz, Option.some.injEq] at hv; subst hv; exact (RV.fn f cap us hs hr).mono hx
  | it b h => intro v' hv; simp only [frz, Option.some.injEq] at hv; subst hv; exact (RV.it b h).mono hx

theorem clo_of {g : G} {h : Hp} {w : World} (k : OkH N0 w0 g h w) : Clo (size h) h := by
  intro b cs hb hcs j x hx
  obtain ⟨_, _, arr, T, lo, hi, _, _, _, _, q5⟩ := k.cells hcs
  rw [← k.n]
  exact rv_below (q5 j x hx)

theorem look_params : ∀ (vs : List PV) (i t : Nat), look (params i vs) t = if i ≤ t then vs[t - i]? else none
  | [], i, t => by simp [params, look]
  | v :: vs, i, t => by
    simp only [params, look, look_params vs (i + 1) t]
    by_cases h1 : i = t
    · subst h1; simp
    · by_cases h2 : i ≤ t
      · rw [if_neg h1, if_pos (by omega), if_pos h2, show t - i = (t - (i + 1)) + 1 by omega, List.getElem?_cons_succ]
      · rw [if_neg h1, if_neg (by omega), if_neg h2]

/-- The results of a frame. -/
def resOne (tm : Array Value) : ResultVar → Sem Value
  | .tmp t => pure (tm.getD t Go.undef)
  | .cell x t => do loadVar t (← asAddr (tm.getD x Go.undef))
theorem result_rv {g : G} {e : Env} {a : Act} {h : Hp} {w : World} (k : Ok (N0 := N0) w0 g e a.tmps h w) {rv : ResultVar} {rs : List (Nat × Option (Nat × Bool))} (hc : cResults P [rv] = some rs) {vs : List PV} (hr : resultsOf e h rs = some vs) :
    ∃ v u, vs = [v] ∧ (resOne a.tmps rv).run P w = .ok u w ∧ RV N0 g w v u := by
  have fin : ∀ v u, RV N0 g w v u → RV N0 g w v u := fun v u hv => hv
  cases rv with
  | tmp t =>
    simp only [cResults, Option.map_some, Option.some.injEq] at hc
    subst hc
    simp only [resultsOf, resultOf, Option.bnd_eq_some_iff, Option.some.injEq] at hr
    obtain ⟨v, hv, _, rfl, rfl⟩ := hr
    exact ⟨_, _, rfl, rfl, fin _ _ (k.env t v hv)⟩
  | cell x t =>
    simp only [cResults, Option.bind_eq_some_iff, Option.map_some] at hc
    obtain ⟨n, hn, gg, hg, hc⟩ := hc
    split at hc
    · rename_i hcond
      simp only [Option.some.injEq] at hc
      subst hc
      simp only [resultsOf, resultOf, Option.bnd_eq_some_iff, Option.some.injEq] at hr
      obtain ⟨r, ⟨p, hp, hr⟩, _, rfl, rfl⟩ := hr
      have hrp := k.env x p hp
      generalize hA : a.tmps.getD x Go.undef = A at hrp
      cases hrp <;> simp only at hr <;> (try cases hr)
      rename_i b off hb
      simp only [Option.bnd_eq_some_iff] at hr
      obtain ⟨cs, hcs, hr⟩ := hr
      obtain ⟨u, h1, h2⟩ := box_cell k hcs
      obtain ⟨v, hv1, hv2⟩ := load_row1 (P := P) (o := 0) hn hg (c := g.ι b) (cs := cs) (u := u) (off := off) (fun j hj => by rw [Nat.zero_add]; exact h1 j hj) h2 (m := n) (fun _ => rfl) hr
      rw [Nat.zero_add] at hv1
      exact ⟨_, v, rfl, by simp only [resOne, hA, asAddr, Sem.run_bind, Sem.run_pure, Result.andThen, hv1], fin _ _ hv2⟩
    · cases hc

theorem results_rv {g : G} {e : Env} {a : Act} {h : Hp} {w : World} (k : Ok (N0 := N0) w0 g e a.tmps h w) : ∀ (rvs : List ResultVar) (rs : List (Nat × Option (Nat × Bool))) (vs : List PV), cResults P rvs = some rs → resultsOf e h rs = some vs →
    ∃ us : List Value, (rvs.mapM (resOne a.tmps)).run P w = .ok us w ∧ us.length = vs.length ∧ ∀ (j : Nat) (x : PV), vs[j]? = some x → RV N0 g w x (us.getD j Go.undef)
  | [], rs, vs, hc, hr => by
    simp [cResults] at hc; subst hc
    simp [resultsOf] at hr; subst hr
    exact ⟨[], by simp, rfl, fun j x hx => by simp at hx⟩
  | rv :: rvs, rs, vs, hc, hr => by
    have hsplit : ∃ r1 rs', cResults P [rv] = some [r1] ∧ cResults P rvs = some rs' ∧ rs = r1 :: rs' := by
      cases rv with
      | tmp t =>
        simp only [cResults, Option.map_eq_some_iff] at hc
        obtain ⟨rs', h1, rfl⟩ := hc
        exact ⟨(t, none), rs', rfl, h1, rfl⟩
      | cell x t =>
        simp only [cResults, Option.bind_eq_some_iff] at hc
        obtain ⟨n, hn, gg, hg, hc⟩ := hc
        split at hc
        · rename_i hcond
          simp only [Option.map_eq_some_iff] at hc
          obtain ⟨rs', h1, rfl⟩ := hc
          exact ⟨(x, some (n, gg)), rs', by simp only [cResults, hn, hg, Option.bind_some, if_pos hcond, Option.map_some], h1, rfl⟩
        · cases hc
    obtain ⟨r1, rs', hc1, hc2, rfl⟩ := hsplit
    simp only [resultsOf, Option.bnd_eq_some_iff, Option.some.injEq] at hr
    obtain ⟨v, hv, vs', hvs', rfl⟩ := hr
    obtain ⟨v', u, hv', hu, hru⟩ := result_rv (P := P) k hc1 (vs := [v]) (by simp only [resultsOf, hv, Option.bnd])
    simp only [List.cons.injEq, and_true] at hv'
    subst hv'
    obtain ⟨us, h1, h2, h3⟩ := results_rv k rvs rs' vs' hc2 hvs'
    refine ⟨u :: us, ?_, by simp [h2], fun j x hx => ?_⟩
    · simp only [List.mapM_cons, Sem.run_bind]
      rw [hu]
      simp only [Result.andThen]
      rw [h1]
      simp only [Result.andThen, Sem.run_pure]
    · cases j with
      | zero => simp at hx; subst hx; simpa using hru
      | succ j => simpa using h3 j x (by simpa using hx)

theorem results_run {g : G} {e : Env} {a : Act} {h : Hp} {w : World} (k : Ok (N0 := N0) w0 g e a.tmps h w) {fn : Func} {rs : List (Nat × Option (Nat × Bool))} {vs : List PV} (hc : cResults P fn.results.toList = some rs) (hr : resultsOf e h rs = some vs) :
    ∃ u, (results fn a.tmps).run P w = .ok u w ∧ RV N0 g w (result1 vs) u := by
  obtain ⟨us, h1, h2, h3⟩ := results_rv k fn.results.toList rs vs hc hr
  have hrun : (results fn a.tmps).run P w = .ok (if hs : us.toArray.size = 1 then us.toArray[0] else .tuple us.toArray) w := by
    have hq : results fn a.tmps = (do let vs ← fn.results.mapM (resOne a.tmps); pure (if h : vs.size = 1 then vs[0] else .tuple vs)) := rfl
    rw [hq, Array.mapM_eq_mapM_toList]
    simp [h1]
  refine ⟨_, hrun, ?_⟩
  match vs, us, h2, h3 with
  | [], [], _, _ => exact .tup [] #[] rfl (fun j x hx => by simp at hx)
  | [v], [u], _, h3 => simpa [result1] using h3 0 v rfl
  | v :: v' :: vs, u :: u' :: us, h2, h3 =>
    rw [dif_neg (by simp)]
    refine .tup (v :: v' :: vs) (u :: u' :: us).toArray (by simpa using h2) fun j x hx => ?_
    simpa [List.getD_eq_getElem?_getD, Array.getD_eq_getD_getElem?] using h3 j x hx

end
end Go.Am
