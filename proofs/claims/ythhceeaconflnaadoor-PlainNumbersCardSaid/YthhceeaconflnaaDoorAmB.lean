/- 'Am': a builder of texts: its check, and its text, as functions of the library.
   By the session's AI agent. -/
import Derived.Test.YthhceeaconflnaaDoorAm20
import Derived.Lib.Builder
import Derived.Lib.UnsafeStr
namespace Go.Am
open Go.RowKit (Below)
set_option linter.unusedVariables false
set_option linter.unusedSimpArgs false
set_option linter.unusedSectionVars false

/-- Of a builder that is new: it notes where it stands. -/
def pCopyCheck (T : Nat) : List PV → Hp → Option (PV × Option (Nat × List PV))
  | [.ptr b 0], h => (getBox h b).bnd fun cs => match cs with
    | [.bnil T', y] => if T' = T then some (.tup [], some (b, [.ptr b 0, y])) else none
    | [.ptr b' 0, y] => if b' = b then some (.tup [], none) else none
    | _ => none
  | _, _ => none

theorem enters_of {P : Program} {f : FuncId} {fn : Func} {c : Code} (hf : P.funcs[f]? = some fn) (hname : (fn.name == "runtime.NumGoroutine") = false) (hb : fn.body = some c) (us : Array Value) (w : World) : (callFunc f us).run P w = .ok (.enter f us) w := by
  have h1 : fn.name ≠ "runtime.NumGoroutine" := by simpa using hname
  simp [callFunc, hf, h1, hb, mark]

def u8s (l : List UInt8) : List PV := l.map fun c => .int .u8 c.toNat

/-- A builder's text. -/
def pString (T5 : Nat) : List PV → Hp → Option (PV × Option (Nat × List PV))
  | [.ptr b 0], h => (getBox h b).bnd fun cs => match cs with
    | [_, .nils] => some (.str [], none)
    | [_, .sl (.tok t) 1 es] => (getTok h t).bnd fun n => if n = (es.length, T5) ∧ es ≠ [] ∧ es.length ≤ lim2 then (bytesOf es).bnd fun l => if es = u8s l then some (.str l, none) else none else none
    | _ => none
  | _, _ => none

section
variable {N0 : Nat} {P : Program} {I : Nat → World → Prop} {w0 : World} {g : G} {e : Env} {a : Act} {h : Hp} {w : World}

theorem freeze_heap (w : World) (c n : Nat) (d : Nat) (hd : d ≠ c) : (w.freeze ⟨c, 0, none⟩ n).heap[d]? = w.heap[d]? := by
  unfold World.freeze
  split
  · rfl
  · simp only [Array.getElem?_modify]
    rw [if_neg (fun hq => hd hq.symm)]

/-- The cells that a token's slice has used are fixed already: to freeze them turns nothing. -/
theorem ok_freeze (k : Ok (N0 := N0) w0 g e a.tmps h w) {t n T : Nat} (ht : getTok h t = some (n, T)) (hsz : (g.tk t).sz = 1) (hn : n ≠ 0) :
    Ext N0 g w g (w.freeze ⟨(g.tk t).c, 0, none⟩ n) ∧ Ok (N0 := N0) w0 g e a.tmps h (w.freeze ⟨(g.tk t).c, 0, none⟩ n) := by
  have hbx := box_of_tok ht
  have hb0 := k.box t _ hbx
  simp only [BoxOk] at hb0
  obtain ⟨b1, b2, b3, b4, b8, arr, lo, hi, b5, b6, b7⟩ := hb0
  generalize hc : (g.tk t).c = c at *
  have hheap : ∀ d, d ≠ c → (w.freeze ⟨c, 0, none⟩ n).heap[d]? = w.heap[d]? := fun d hd => freeze_heap w c n d hd
  have hat : ∃ lo' hi', (w.freeze ⟨c, 0, none⟩ n).heap[c]? = some (.cells arr T (lo', hi')) ∧ hi' ≤ n := by
    unfold World.freeze
    rw [if_neg hn]
    rw [b8, hsz] at b7
    simp only [Array.getElem?_modify, if_true, b5, Option.map_some]
    by_cases hq : lo == hi
    · rw [if_pos hq]; exact ⟨0, 0 + n, rfl, by omega⟩
    · rw [if_neg hq]
      exact ⟨min lo 0, max hi (0 + n), rfl, by omega⟩
  obtain ⟨lo', hi', hat1, hat2⟩ := hat
  have hcell : ∀ d o, (w.freeze ⟨c, 0, none⟩ n).cell? ⟨d, o, none⟩ = w.cell? ⟨d, o, none⟩ := by
    intro d o
    by_cases hd : d = c
    · subst hd; simp only [World.cell?, hat1, b5]
    · simp only [World.cell?, hheap d hd]
  have hx : Ext N0 g w g (w.freeze ⟨c, 0, none⟩ n) := ⟨Nat.le_refl _, fun _ _ => rfl, fun d m hm => ⟨m, hm, Nat.le_refl _⟩, fun d m o _ _ => hcell d o, fun d o _ => hcell d o, fun _ _ => ⟨Nat.le_refl _, fun _ => rfl⟩⟩
  have hsize : (w.freeze ⟨c, 0, none⟩ n).heap.size = w.heap.size := by
    unfold World.freeze
    split
    · rfl
    · simp
  refine ⟨hx, ?_⟩
  have hok := ok_setbox (y := .tok n T) k hbx hx rfl (Go.Lib.below_freeze (Below.refl _ _) b3 n) (.inl rfl) (fun d _ hd => ⟨hheap d (by simpa only [blk, hc] using hd), rfl⟩) (fun _ _ => rfl) ?_ (fun d m hm => ?_)
  · rwa [setBx_self hbx] at hok
  · simp only [BoxOk, hc]
    exact ⟨b1, b2, b3, b4, b8, arr, lo', hi', hat1, b6, by rw [b8, hsz]; omega⟩
  · have := k.arr d m hm
    exact ⟨this.1, by rw [hsize]; exact this.2⟩

theorem primOk_copyCheck {f T : Nat} (henter : ∀ us w, (callFunc f us).run P w = .ok (.enter f us) w)
    (hused : ∀ b w, w.cell? ⟨b, 0, none⟩ = some (.pointer (some ⟨b, 0, none⟩)) → Calls P f #[.pointer (some ⟨b, 0, none⟩)] w fun e w' => e = .returned (.tuple #[]) ∧ w' = w)
    (hfresh : ∀ b w, w.cell? ⟨b, 0, none⟩ = some (.pointer none) → w.shape? b = some (T, 2) → w.frozen? ⟨b, 0, none⟩ = false →
      Calls P f #[.pointer (some ⟨b, 0, none⟩)] w fun e w' => e = .returned (.tuple #[]) ∧ w' = w.setCell ⟨b, 0, none⟩ (.pointer (some ⟨b, 0, none⟩))) : PrimOk P I f (pCopyCheck T) := by
  intro vs h r hr N0 w0 g us w hI k hlen hrel
  refine ⟨henter us w, ?_⟩
  unfold pCopyCheck at hr
  split at hr
  · rename_i b
    obtain ⟨u, rfl⟩ : ∃ u, us = #[u] := by
      cases us with | mk l => match l, hlen with
        | [u], _ => exact ⟨u, rfl⟩
    have h0 := hrel 0 _ rfl
    simp only [Array.getD_eq_getD_getElem?, List.getElem?_toArray, List.getElem?_cons_zero, Option.getD_some] at h0
    cases h0
    rename_i hb
    simp only [Option.bnd_eq_some_iff] at hr
    obtain ⟨cs, hcs, hr⟩ := hr
    obtain ⟨u, hu1, hu2⟩ := box_cell (a := ⟨#[], []⟩) k hcs
    obtain ⟨q1, q2, arr, T0, lo, hi, q3, q6, q4, q8, q5⟩ := k.cells hcs
    split at hr
    · rename_i T' y
      split at hr
      · rename_i hT
        subst hT
        simp only [Option.some.injEq] at hr
        subst hr
        obtain ⟨rfl, hsz⟩ := q8 _ rfl
        obtain ⟨x, hx0, hfz, hext, hok⟩ := ok_write (a := ⟨#[], []⟩) k hcs (off := 0) (by simp) (v := .ptr b 0) (.ptr b 0 hb) (by simp)
        have c0 : w.cell? ⟨g.ι b, 0, none⟩ = some (.pointer none) := by
          rw [hu1 0 (by simp)]
          have := hu2 0 _ rfl
          generalize u 0 = U at this
          cases this; rfl
        refine (hfresh (g.ι b) w c0 (by simp [World.shape?, q3, hsz]) hfz).mono fun en w' hen => ?_
        obtain ⟨rfl, rfl⟩ := hen
        exact ⟨_, g, rfl, hext, hok, .tup [] #[] rfl (fun j x hx => by simp at hx)⟩
      · cases hr
    · rename_i b' y
      split at hr
      · rename_i hbb
        subst hbb
        simp only [Option.some.injEq] at hr
        subst hr
        have c0 : w.cell? ⟨g.ι b', 0, none⟩ = some (.pointer (some ⟨g.ι b', 0, none⟩)) := by
          rw [hu1 0 (by simp)]
          have := hu2 0 _ rfl
          generalize u 0 = U at this
          cases this; rfl
        refine (hused (g.ι b') w c0).mono fun en w' hen => ?_
        obtain ⟨rfl, rfl⟩ := hen
        exact ⟨_, g, rfl, Ext.refl _ _ _, k, .tup [] #[] rfl (fun j x hx => by simp at hx)⟩
      · cases hr
    · cases hr
  · cases hr

theorem u8s_get (l : List UInt8) (j : Nat) : (u8s l)[j]? = (l[j]?).map fun c => .int .u8 c.toNat := by simp [u8s]

theorem primOk_string {f T5 : Nat} (henter : ∀ us w, (callFunc f us).run P w = .ok (.enter f us) w)
    (hnil : ∀ b w, w.cell? ⟨b, 1, none⟩ = some (.slice none 0 0) → Calls P f #[.pointer (some ⟨b, 0, none⟩)] w fun e w' => e = .returned (.string ⟨#[]⟩) ∧ w' = w.drew)
    (hrow : ∀ b c cap cells (l : List UInt8) w, w.cell? ⟨b, 1, none⟩ = some (.slice (some ⟨c, 0, none⟩) l.length cap) → l ≠ [] → l.length ≤ cap → w.shape? c = some (T5, cells) → l.length ≤ cells → l.length ≤ 17179869184 →
      (∀ j x, l[j]? = some x → w.cell? ((⟨c, 0, none⟩ : Addr).add j) = some (.int .u8 x.toNat)) →
      Calls P f #[.pointer (some ⟨b, 0, none⟩)] w fun e w' => e = .returned (.string ⟨l.toArray⟩) ∧ w' = w.drew.freeze ⟨c, 0, none⟩ l.length) : PrimOk P I f (pString T5) := by
  intro vs h r hr N0 w0 g us w hI k hlen hrel
  refine ⟨henter us w, ?_⟩
  unfold pString at hr
  split at hr
  · rename_i b
    obtain ⟨u, rfl⟩ : ∃ u, us = #[u] := by
      cases us with | mk l => match l, hlen with
        | [u], _ => exact ⟨u, rfl⟩
    have h0 := hrel 0 _ rfl
    simp only [Array.getD_eq_getD_getElem?, List.getElem?_toArray, List.getElem?_cons_zero, Option.getD_some] at h0
    cases h0
    rename_i hb
    simp only [Option.bnd_eq_some_iff] at hr
    obtain ⟨cs, hcs, hr⟩ := hr
    obtain ⟨u, hu1, hu2⟩ := box_cell (a := ⟨#[], []⟩) k hcs
    split at hr
    · rename_i y
      simp only [Option.some.injEq] at hr
      subst hr
      have c1 : w.cell? ⟨g.ι b, 1, none⟩ = some (.slice none 0 0) := by
        rw [hu1 1 (by simp)]
        have := hu2 1 _ rfl
        generalize u 1 = U at this
        cases this; rfl
      refine (hnil (g.ι b) w c1).mono fun en w' hen => ?_
      obtain ⟨rfl, rfl⟩ := hen
      exact ⟨_, g, rfl, ext_drew g w, ok_drew (a := ⟨#[], []⟩) k, .str _ _ rfl⟩
    · rename_i y t es
      simp only [Option.bnd_eq_some_iff] at hr
      obtain ⟨n, hn, hr⟩ := hr
      split at hr
      · rename_i hc
        obtain ⟨rfl, hne, hlim⟩ := hc
        simp only [Option.bnd_eq_some_iff] at hr
        obtain ⟨l, hl, hr⟩ := hr
        split at hr
        · rename_i hes
          simp only [Option.some.injEq] at hr
          subst hr
          have c1 := hu1 1 (by simp)
          have hrv := hu2 1 _ rfl
          generalize u 1 = U at hrv c1
          cases hrv
          rename_i c o cap uu sp p1 p5 p7 p2 p3 p4 p6 p8
          have hb0 := k.box t _ (box_of_tok hn)
          simp only [BoxOk] at hb0
          obtain ⟨b1, b2, b3, b4, b8, arr, lo, hi, b5, b6, b7⟩ := hb0
          obtain ⟨t1, t2, t3⟩ := p8 t rfl
          obtain ⟨t4, rfl⟩ := t3 b1
          have hll : es.length = l.length := by rw [hes]; simp [u8s]
          have hl0 : l ≠ [] := by rintro rfl; rw [hes] at hne; simp [u8s] at hne
          rw [t4] at b8 b5 b6
          simp only at b8 b5 b6
          subst b8
          rw [hll] at c1 p1
          unfold lim2 at hlim
          refine (hrow (g.ι b) c cap arr.size l w c1 hl0 p1 (by simp [World.shape?, b5]) (by omega) (by omega) fun j x hx => ?_).mono fun en w' hen => ?_
          · have hj : j < l.length := (List.getElem?_eq_some_iff.1 hx).1
            rw [add_addr, Nat.zero_add]
            have := p4 j 0 (by omega) (by omega)
            rw [Nat.mul_one, Nat.add_zero, Nat.zero_add] at this
            rw [this]
            have hr := p5 j 0 (.int .u8 x.toNat) (.int .u8 x.toNat) (by rw [hes, u8s_get, hx]; rfl) rfl
            generalize uu j 0 = V at hr
            cases hr; rfl
          · obtain ⟨rfl, rfl⟩ := hen
            have kd : OkH N0 w0 g h w.drew := ok_drew (a := ⟨#[], []⟩) k
            have hfr := ok_freeze (a := ⟨#[], []⟩) kd hn (by rw [t4]) (by rw [hll]; simpa using hl0)
            rw [t4] at hfr
            simp only [hll] at hfr
            exact ⟨_, g, rfl, (ext_drew g w).trans hfr.1, hfr.2, .str _ _ rfl⟩
        · cases hr
      · cases hr
    · cases hr
  · cases hr

/-- The world goes on beside all that was there. -/
theorem ok_below (k : OkH N0 w0 g h w) {w' : World} (hb : Below w.heap.size w w') : Ext N0 g w g w' ∧ OkH N0 w0 g h w' := by
  have hN := ok_size k
  have hcell : ∀ c o, c < w.heap.size → w'.cell? ⟨c, o, none⟩ = w.cell? ⟨c, o, none⟩ := fun c o hc => below_cell hb hc o
  have hx : Ext N0 g w g w' := ⟨Nat.le_refl _, fun _ _ => rfl, fun c m hm => ⟨m, hm, Nat.le_refl _⟩, fun c m o hm _ => hcell c o (k.arr c m hm).2, fun c o hc => hcell c o (by omega), fun _ _ => ⟨Nat.le_refl _, fun _ => rfl⟩⟩
  refine ⟨hx, k.world hx rfl (hb.mono hN) (fun b bx hbx => ⟨hb.block _ (blk_lt (a := ⟨#[], []⟩) k hbx).2, rfl⟩) (fun _ _ => rfl) fun c m hm => ?_⟩
  have := k.arr c m hm
  exact ⟨this.1, Nat.lt_of_lt_of_le this.2 hb.size⟩

/-- A function of the library that looks at its arguments alone. -/
theorem primOk_flat {f : Nat} {pg : List PV → Option PV} (henter : ∀ us w, (callFunc f us).run P w = .ok (.enter f us) w)
    (hc : ∀ vs r, pg vs = some r → ∀ (N0 : Nat) (w0 : World) (g : G) (us : Array Value) (w : World), I N0 w0 → Below N0 w0 w → us.size = vs.length → (∀ (j : Nat) (x : PV), vs[j]? = some x → RV N0 g w x (us.getD j Go.undef)) →
      Calls P f us w fun e w' => ∃ u, e = .returned u ∧ Below w.heap.size w w' ∧ ∀ g w, RV N0 g w r u) : PrimOk P I f (fun vs h => (pg vs).map fun r => (r, none)) := by
  intro vs h r hr N0 w0 g us w hI k hlen hrel
  refine ⟨henter us w, ?_⟩
  simp only [Option.map_eq_some_iff] at hr
  obtain ⟨r', hr', rfl⟩ := hr
  refine (hc vs r' hr' N0 w0 g us w hI k.below hlen hrel).mono fun en w' hen => ?_
  obtain ⟨u, rfl, hb, hv⟩ := hen
  obtain ⟨hx, hok⟩ := ok_below k hb
  exact ⟨u, g, rfl, hx, hok, hv _ _⟩
end
end Go.Am
