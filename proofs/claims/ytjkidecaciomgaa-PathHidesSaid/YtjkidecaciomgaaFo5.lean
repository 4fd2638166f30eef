/- The forest: what is only read may be lent; at, above, Name, Want. -/
import Derived.Test.YtjkidecaciomgaaFo4
namespace Go.Proofs.Ytjkidecaciomgaa
set_option linter.unusedVariables false
set_option linter.unusedSimpArgs false
set_option maxRecDepth 100000
open Go.RowKit

/-- A forest that is being made may be read as if it were left as it is, where a plain value comes back. -/
theorem lend {P : Program} {f : FuncId} {l : List Nd} {bs : List AV} {u : Value} (g : Nat) (hg : Nat.beq 0 g = false) (has : AV.noRefs bs = true) (h : Fun P f (forA l :: bs) [] (.v u) []) : Fun P f (.ptr 0 0 :: bs) (forR g l) (.v u) (forR g l) := fun ι F S w vals hh hv => by
  have hg0 : (0 : Nat) ≠ g := fun e => by subst e; simp at hg
  have l0 : look (forR g l) 0 = some (.box 53 [.res g]) := rfl
  have l1 : look (forR g l) g = some (.obj (ownS 33 nodeE l)) := by simp only [forR, look_cons, if_neg hg0, if_pos]
  obtain ⟨b, e1, e2, cs, e3, e4⟩ := hh.bx 0 _ _ l0
  have hob := hh.ob g _ l1
  let S2 : Bl := fun k => S k ∨ F 0 k ∨ F g k
  have hF : Fut S w S2 w := ⟨fun _ h => .inl h, fun _ _ _ => rfl⟩
  simp only [AVRs, AVR] at hv e4
  obtain ⟨p, vs, rfl, ⟨b', hb', rfl⟩, hvs⟩ := hv
  rw [e1] at hb'
  obtain rfl : b = b' := by simpa [baseOf] using hb'
  obtain ⟨c, cr, ec, ⟨ec1, ec2⟩, rfl⟩ := e4
  have hlist : (listS nodeE l).R w S2 c := by
    rw [ec1]
    exact ownS_list hob (fun k hk => .inl hk) (fun k hk => .inr (.inr hk))
  have hadr : AVR ι S2 w (forA l) (.pointer (some ⟨b, 0, none⟩)) := by
    simp only [AVR]
    refine ⟨b, 0, rfl, .inr (.inl ((e2 b).2 rfl)), [c], ⟨c, [], rfl, by simpa [AVR] using hlist, rfl⟩, fun j u hj => ?_⟩
    rw [Addr.add_lit, Nat.zero_add, cell_of_row w b _ cs _ (0, 0) e3, ← Array.getElem?_toList, ec]
    exact hj
  have hbnd : ∀ k, S2 k → k < w.heap.size := fun k hk => by
    rcases hk with hk | hk | hk
    · exact hh.bnd k hk
    · exact hh.lt l0 rfl hk
    · exact hh.lt l1 rfl hk
  refine (h ι F S2 w (_ :: vs) ⟨fun _ _ _ h => (by cases h), fun _ _ h => (by cases h), fun _ _ _ _ h => (by cases h), fun _ _ h => (by cases h), hbnd⟩ ⟨_, vs, rfl, hadr, hvs.fut hF fun _ _ => rfl⟩).mono fun e w' hh2 => ?_
  obtain ⟨ι', F', S', u', rfl, h1, h2, h3, h4, h5, h6, h7⟩ := hh2
  have hb : Below w.heap.size w w' := ⟨h5.os, h5.tape, h5.output, h5.size, fun k hk => h5.block k hk (fun ⟨_, _, h, _⟩ => by cases h)⟩
  have hF' : Fut S w S w' := ⟨fun _ h => h, fun k _ hk => hb.block k hk⟩
  simp only [AVR] at h2
  subst h2
  refine ⟨ι, F, S, u', rfl, hh.step hF' (fun g x hg hx k hk => hb.block k (hh.lt hg hx hk)) hh.out (fun k hk => Nat.lt_of_lt_of_le (hh.bnd k hk) hb.size), by simp [AVR], hF', fun _ _ _ _ => rfl, But.of_below hb, fun k hk => .inl hk, fun g x hg hx k hk => .inr ⟨g, x, hg, hx, hk⟩⟩

theorem at_m {l : List Nd} {id : Int} {x : Nd} (h : nodeAt l id = some x) (hm : l.length ≤ 1000000) : Fun Try.prog 138 [.ptr 0 0, .v (.int .i64 id)] (forR 1 l) (.ptr 1 ((id - 1).toNat * 9)) (forR 1 l) := by
  obtain ⟨h0, h1, hx⟩ := nodeAt_some h
  refine fun_intro 27 Try.func138 rfl rfl rfl (fun ι F S w => ?_)
  (repeat (first | (apply v_move; exact rfl; exact rfl) | (apply v_assign; exact rfl; exact rfl) | refine run_seq ?_ | refine run_region ?_ | refine runL_nil ?_ | (apply v_on; exact rfl) | (apply v_pick_f; exact rfl; exact rfl; exact rfl) | (apply v_lss; exact rfl; exact rfl; exact rfl) | (apply v_eqlNil; exact ptA rfl; exact rfl; exact NN.ptr; exact rfl)))
  refine v_is 11 false rfl (by simp; omega) ?_
  (repeat (first | (apply v_move; exact rfl; exact rfl) | refine runL_nil ?_ | (apply v_fldP; exact flA rfl; exact rfl; exact rfl; exact rfl) | (apply v_loadB; exact tyA rfl; exact rfl; exact rfl; exact rfl; exact rfl; exact rfl; exact rfl) | (apply v_on; exact rfl) | (apply v_pick_f; exact rfl; exact rfl; exact rfl) | (apply v_gtr; exact rfl; exact rfl; exact rfl) | (apply v_lenO; exact slA rfl; exact rfl; exact rfl; exact rfl) | (apply v_nilCheck; exact rfl; exact NN.ptr; exact rfl)))
  refine run_condN rfl (by simp; omega) ?_
  (repeat (first | (apply v_move; exact rfl; exact rfl) | refine run_seq ?_ | refine run_region ?_ | refine run_skip ?_ | (apply v_fldP; exact flA rfl; exact rfl; exact rfl; exact rfl) | (apply v_loadB; exact tyA rfl; exact rfl; exact rfl; exact rfl; exact rfl; exact rfl; exact rfl) | (apply v_nilCheck; exact rfl; exact NN.ptr; exact rfl) | (apply v_sub; exact rfl; exact rfl; exact rfl; exact (by omega))))
  refine v_idxO (slA rfl) (tyA rfl) rfl rfl rfl rfl (by omega) (by omega) rfl ?_
  (repeat (first | (apply v_assign; exact rfl; exact rfl) | refine runL_nil ?_))
  exact run_ret idN _ Try.func138 ⟨_, _, rfl, rfl, rfl⟩ rfl ⟨rfl, rfl, trivial⟩ ⟨rfl, rfl, trivial⟩ rfl
theorem at_mn {l : List Nd} {id : Int} (h : nodeAt l id = none) (hm : l.length ≤ 1000000) : Fun Try.prog 138 [.ptr 0 0, .v (.int .i64 id)] (forR 1 l) (.v (.pointer none)) (forR 1 l) := lend 1 rfl rfl (at_none h hm)

def upX (x : Nd) : Int := if x.parent = 0 then x.host else x.parent
/-- a is b, or above it. -/
inductive Abv (l : List Nd) (a : Int) : Int → Prop where
  | here {b : Int} {x : Nd} : nodeAt l b = some x → b = a → Abv l a b
  | up {b : Int} {x : Nd} : nodeAt l b = some x → Abv l a (upX x) → Abv l a b
theorem abv_iff {l : List Nd} {a b : Int} {x : Nd} (h : nodeAt l b = some x) : Abv l a b ↔ b = a ∨ Abv l a (upX x) := by
  constructor
  · intro h1
    cases h1 with
    | here h2 e => exact .inl e
    | up h2 h3 => rw [h] at h2; cases h2; exact .inr h3
  · rintro (e | h1)
    · exact .here h e
    · exact .up h h1
theorem abv_not {l : List Nd} {a b : Int} (h : nodeAt l b = none) : ¬ Abv l a b := fun h1 => by
  cases h1 with
  | here h2 _ => rw [h] at h2; cases h2
  | up h2 _ => rw [h] at h2; cases h2
/-- Who is above is there, and above there are fewer and fewer. -/
structure Ups (l : List Nd) : Prop where
  there : ∀ {b x}, nodeAt l b = some x → upX x = 0 ∨ ∃ y, nodeAt l (upX x) = some y
  rank : ∃ rk : Int → Nat, ∀ b x, nodeAt l b = some x → upX x ≠ 0 → rk (upX x) < rk b
theorem nodeAt_zero {l : List Nd} : nodeAt l 0 = none := by simp [nodeAt]
open Classical in
noncomputable def aboveB (l : List Nd) (a b : Int) : Bool := decide (Abv l a b)
theorem aboveB_true {l : List Nd} {a b : Int} : aboveB l a b = true ↔ Abv l a b := by simp [aboveB]
theorem above_f {l : List Nd} (hu : Ups l) (a b : Int) (hm : l.length ≤ 1000000) (hb : b = 0 ∨ ∃ y, nodeAt l b = some y) : Fun Try.prog 143 [forA l, .v (.int .i64 a), .v (.int .i64 b)] [] (.v (.bool (aboveB l a b))) [] := by
  obtain ⟨rk, hrk⟩ := hu.rank
  refine fun_intro 26 Try.func143 rfl rfl rfl (fun ι F S w => ?_)
  (repeat (first | (apply v_assign; exact rfl; exact rfl) | refine run_seq ?_ | refine run_region ?_ | refine runL_nil ?_ | refine run_block ?_))
  refine v_loop (fun c : Int => ⟨[(0, forA l), (1, .v (.int .i64 a)), (2, .v (.int .i64 c))], []⟩) (fun c => (c = 0 ∨ ∃ y, nodeAt l c = some y) ∧ aboveB l a b = aboveB l a c) (fun c => if c = 0 then 0 else rk c + 1) b idN trivial (by repeat (first | exact trivial | refine ⟨rfl, ?_⟩)) (by repeat (first | exact trivial | refine ⟨rfl, ?_⟩)) rfl ⟨hb, rfl⟩ fun c ⟨hc, he⟩ ih => ?_
  (repeat (first | (apply v_move; exact rfl; exact rfl) | refine run_seq ?_ | refine run_region ?_ | refine runL_nil ?_ | (apply v_gtr; exact rfl; exact rfl; exact rfl)))
  rcases hc with rfl | ⟨y, hy⟩
  · refine run_condN rfl (by simp) ?_
    have hf : aboveB l a b = false := by rw [he, ← Bool.not_eq_true, aboveB_true]; exact abv_not nodeAt_zero
    (repeat (first | (apply v_assign; exact rfl; exact rfl) | refine run_seq ?_ | refine run_region ?_ | refine runL_nil ?_ | (apply run_exit; exact rfl)))
    exact run_ret idN _ Try.func143 ⟨_, _, rfl, rfl, rfl⟩ (by rw [hf]; rfl) trivial trivial rfl
  · have h1 := nodeAt_some hy
    refine run_condY rfl (by simp; omega) ?_
    (repeat (first | (apply v_move; exact rfl; exact rfl) | refine run_seq ?_ | refine run_region ?_ | refine runL_nil ?_ | refine run_skip ?_ | refine run_block ?_ | (apply v_eql; exact rfl; exact rfl; exact rfl)))
    refine run_cond rfl (fun h => ?_) (fun h => ?_)
    · have hac : a = c := by simpa using h
      have hf : aboveB l a b = true := by rw [he, aboveB_true]; exact .here hy hac.symm
      (repeat (first | (apply v_assign; exact rfl; exact rfl) | refine run_seq ?_ | refine run_region ?_ | refine runL_nil ?_))
      exact run_ret idN _ Try.func143 ⟨_, _, rfl, rfl, rfl⟩ (by rw [hf]; rfl) trivial trivial rfl
    · have hac : a ≠ c := by simpa using h
      have hst : aboveB l a c = aboveB l a (upX y) := by
        rw [Bool.eq_iff_iff, aboveB_true, aboveB_true, abv_iff hy]
        exact ⟨fun h => h.resolve_left (Ne.symm hac), .inr⟩
      have hup := hu.there hy
      have hrk' := hrk c y hy
      have hc0 : c ≠ 0 := by omega
      (repeat (first | (apply v_cx; exact rfl; exact cbA rfl; (first | exact at_some hy hm); exact rfl; exact rfl) | (apply v_move; exact rfl; exact rfl) | (apply v_assign; exact rfl; exact rfl) | refine run_seq ?_ | refine run_region ?_ | refine runL_nil ?_ | refine run_skip ?_ | (apply v_fldA; exact flA rfl; exact rfl; exact rfl; exact rfl) | (apply v_loadA; exact tyA rfl; exact rfl; exact rfl; exact rfl; exact rfl; exact rfl; exact rfl) | (apply v_eql; exact rfl; exact rfl; exact rfl) | (apply v_nilCheck; exact rfl; exact NN.adr; exact rfl)))
      refine run_cond rfl (fun h => ?_) (fun h => ?_)
      · have hp : y.parent = 0 := by simpa using h
        have hux : upX y = y.host := by simp [upX, hp]
        rw [hux] at hst hup hrk'
        (repeat (first | (apply v_move; exact rfl; exact rfl) | (apply v_assign; exact rfl; exact rfl) | refine run_region ?_ | refine runL_nil ?_ | refine run_inBlock ?_ | (apply v_fldA; exact flA rfl; exact rfl; exact rfl; exact rfl) | (apply v_loadA; exact tyA rfl; exact rfl; exact rfl; exact rfl; exact rfl; exact rfl; exact rfl) | (apply v_nilCheck; exact rfl; exact NN.adr; exact rfl)))
        exact v_again ih y.host idN trivial (by repeat (first | exact trivial | refine ⟨rfl, ?_⟩)) (by repeat (first | exact trivial | refine ⟨rfl, ?_⟩)) rfl ⟨hup, he.trans hst⟩ (by simp only [if_neg hc0]; split <;> rename_i hz <;> first | omega | (have := hrk' hz; omega))
      · have hp : y.parent ≠ 0 := by simpa using h
        have hux : upX y = y.parent := by simp [upX, hp]
        rw [hux] at hst hup hrk'
        (repeat (first | refine run_skip ?_ | refine run_inBlock ?_))
        exact v_again ih y.parent idN trivial (by repeat (first | exact trivial | refine ⟨rfl, ?_⟩)) (by repeat (first | exact trivial | refine ⟨rfl, ?_⟩)) rfl ⟨hup, he.trans hst⟩ (by simp only [if_neg hc0]; split <;> rename_i hz <;> first | omega | (have := hrk' hz; omega))
end Go.Proofs.Ytjkidecaciomgaa
