/-
  Objects in memory, side by side: what each of them is, which blocks it has; a call that turns some of them leaves the others. No condition.
-/
import Derived.Test.YtkcimjcmlibgpaaHead
namespace Go.Proofs.Ytkcimjcmlibgpaa
open Go.RowKit

/-- Something in memory, in just these blocks. -/
structure HP where
  on : World → (Nat → Prop) → Prop
  lt : ∀ w F, on w F → ∀ k, F k → k < w.heap.size
  keep : ∀ w w' F, on w F → (∀ k, F k → w'.heap[k]? = w.heap[k]?) → on w' F

theorem HP.ext {P Q : HP} (h : ∀ w F, P.on w F ↔ Q.on w F) : P = Q := by
  obtain ⟨p, _, _⟩ := P
  obtain ⟨q, _, _⟩ := Q
  have e : p = q := funext fun w => funext fun F => propext (h w F)
  subst e
  rfl

def HP.star (P Q : HP) : HP where
  on w F := ∃ A B, P.on w A ∧ Q.on w B ∧ (∀ x, A x → ¬ B x) ∧ F = fun x => A x ∨ B x
  lt := by
    rintro w F ⟨A, B, h1, h2, _, rfl⟩ k (h | h)
    · exact P.lt w A h1 k h
    · exact Q.lt w B h2 k h
  keep := by
    rintro w w' F ⟨A, B, h1, h2, h3, rfl⟩ hs
    exact ⟨A, B, P.keep w w' A h1 (fun k hk => hs k (.inl hk)), Q.keep w w' B h2 (fun k hk => hs k (.inr hk)), h3, rfl⟩
instance : Mul HP := ⟨HP.star⟩

def HP.emp : HP where
  on _ F := F = fun _ => False
  lt := by rintro w F rfl k h; exact h.elim
  keep := by rintro w w' F rfl _; rfl

theorem HP.star_comm (P Q : HP) : P * Q = Q * P := by
  have one : ∀ (P Q : HP) w F, (P * Q).on w F → (Q * P).on w F := by
    rintro P Q w F ⟨A, B, h1, h2, h3, rfl⟩
    exact ⟨B, A, h2, h1, fun x hb ha => h3 x ha hb, funext fun x => propext or_comm⟩
  exact HP.ext fun w F => ⟨one P Q w F, one Q P w F⟩

theorem HP.star_assoc (P Q R : HP) : P * Q * R = P * (Q * R) := by
  apply HP.ext
  intro w F
  constructor
  · rintro ⟨AB, C, ⟨A, B, h1, h2, h3, rfl⟩, h4, h5, rfl⟩
    exact ⟨A, fun x => B x ∨ C x, h1, ⟨B, C, h2, h4, fun x hb => h5 x (.inr hb), rfl⟩, fun x ha hbc => hbc.elim (h3 x ha) (h5 x (.inl ha)), funext fun x => propext or_assoc⟩
  · rintro ⟨A, BC, h1, ⟨B, C, h2, h4, h5, rfl⟩, h3, rfl⟩
    exact ⟨fun x => A x ∨ B x, C, ⟨A, B, h1, h2, fun x ha hb => h3 x ha (.inl hb), rfl⟩, h4, fun x hab hc => hab.elim (fun ha => h3 x ha (.inr hc)) (fun hb => h5 x hb hc), funext fun x => propext or_assoc.symm⟩

theorem HP.star_emp (P : HP) : P * HP.emp = P := by
  apply HP.ext
  intro w F
  constructor
  · rintro ⟨A, B, h1, rfl, h3, rfl⟩
    have : (fun x => A x ∨ False) = A := funext fun x => by simp
    rw [this]; exact h1
  · intro h
    exact ⟨F, fun _ => False, h, rfl, fun _ _ h => h, funext fun x => by simp⟩

instance : Std.Commutative (α := HP) (· * ·) := ⟨HP.star_comm⟩
instance : Std.Associative (α := HP) (· * ·) := ⟨HP.star_assoc⟩

def HP.ex {α : Type} (f : α → HP) : HP where
  on w F := ∃ a, (f a).on w F
  lt := by rintro w F ⟨a, h⟩; exact (f a).lt w F h
  keep := by rintro w w' F ⟨a, h⟩ hs; exact ⟨a, (f a).keep w w' F h hs⟩
/-- A fact that needs no memory, beside something. -/
def HP.fact (p : Prop) (P : HP) : HP where
  on w F := p ∧ P.on w F
  lt := by rintro w F ⟨_, h⟩; exact P.lt w F h
  keep := by rintro w w' F ⟨a, h⟩ hs; exact ⟨a, P.keep w w' F h hs⟩

theorem HP.ex_star {α : Type} (f : α → HP) (R : HP) : HP.ex f * R = HP.ex fun a => f a * R := by
  apply HP.ext
  intro w F
  constructor
  · rintro ⟨A, B, ⟨a, h1⟩, h2, h3, rfl⟩
    exact ⟨a, A, B, h1, h2, h3, rfl⟩
  · rintro ⟨a, A, B, h1, h2, h3, rfl⟩
    exact ⟨A, B, ⟨a, h1⟩, h2, h3, rfl⟩
theorem HP.fact_star (p : Prop) (P R : HP) : HP.fact p P * R = HP.fact p (P * R) := by
  apply HP.ext
  intro w F
  constructor
  · rintro ⟨A, B, ⟨a, h1⟩, h2, h3, rfl⟩
    exact ⟨a, A, B, h1, h2, h3, rfl⟩
  · rintro ⟨a, A, B, h1, h2, h3, rfl⟩
    exact ⟨A, B, ⟨a, h1⟩, h2, h3, rfl⟩

/-- All of them, side by side. -/
def HP.all : List HP → HP
  | [] => HP.emp
  | P :: l => P * HP.all l

/-- Of the blocks F come the blocks F'; all that lies outside stays. -/
structure UpdS (F F' : Nat → Prop) (w w' : World) : Prop where
  os : w'.os = w.os
  tape : w'.tape = w.tape
  output : w'.output = w.output
  size : w.heap.size ≤ w'.heap.size
  block : ∀ k, k < w.heap.size → ¬ F k → w'.heap[k]? = w.heap[k]?
  grows : ∀ k, F' k → F k ∨ w.heap.size ≤ k

theorem Upd.toS {F F' : List Nat} {w w' : World} (h : Upd F F' w w') : UpdS (· ∈ F) (· ∈ F') w w' := ⟨h.os, h.tape, h.output, h.size, h.block, h.grows⟩
theorem UpdS.cast {F F' G G' : Nat → Prop} {w w' : World} (h : UpdS F F' w w') (e : F = G) (e' : F' = G') : UpdS G G' w w' := by subst e e'; exact h
theorem UpdS.trans {F G H : Nat → Prop} {a b c : World} (h : UpdS F G a b) (k : UpdS G H b c) : UpdS F H a c := by
  refine ⟨k.os.trans h.os, k.tape.trans h.tape, k.output.trans h.output, Nat.le_trans h.size k.size, fun i hi hF => ?_, fun i hi => ?_⟩
  · have hG : ¬ G i := fun hg => by
      rcases h.grows i hg with h1 | h1
      · exact hF h1
      · omega
    exact (k.block i (Nat.lt_of_lt_of_le hi h.size) hG).trans (h.block i hi hF)
  · rcases k.grows i hi with h1 | h1
    · exact h.grows i h1
    · exact .inr (Nat.le_trans h.size h1)
theorem UpdS.of_frm (F : Nat → Prop) {a b : World} (h : Frm [] a b) : UpdS F F a b := ⟨h.os, h.tape, h.output, h.size, fun k hk _ => h.block k hk (by simp), fun _ hk => .inl hk⟩

/-- The call, where P lies in memory: it leaves something else there, and nothing besides is turned. -/
def Tri (w : World) (f : Nat) (args : Array Value) (P : HP) (Q : Ending → HP → Prop) : Prop :=
  ∀ F, P.on w F → Calls Try.prog f args w fun e w' => ∃ P' F', Q e P' ∧ P'.on w' F' ∧ UpdS F F' w w'

/-- Behind W0 memory was made in which R lies; what was there ahead is as it was. -/
def St (W0 w : World) (R : HP) : Prop := ∃ F, R.on w F ∧ (∀ k, F k → W0.heap.size ≤ k) ∧ Frm [] W0 w

theorem St.frm {W0 w : World} {R : HP} (h : St W0 w R) : Frm [] W0 w := by obtain ⟨_, _, _, h⟩ := h; exact h
theorem St.mono {W0 w : World} {R S : HP} (h : St W0 w R) (hs : ∀ w F, R.on w F → S.on w F) : St W0 w S := by
  obtain ⟨F, h1, h2, h3⟩ := h; exact ⟨F, hs w F h1, h2, h3⟩
theorem St.cast {W0 w : World} {R S : HP} (h : St W0 w R) (e : R = S) : St W0 w S := e ▸ h
theorem St.ext {W0 w w' : World} {R : HP} (h : St W0 w R) (q : Frm [] w w') : St W0 w' R := by
  obtain ⟨F, h1, h2, h3⟩ := h
  exact ⟨F, R.keep w w' F h1 (fun k hk => q.block k (R.lt w F h1 k hk) (by simp)), h2, h3.tr q⟩
theorem St.ex {W0 w : World} {α : Type} {f : α → HP} (h : St W0 w (HP.ex f)) : ∃ a, St W0 w (f a) := by
  obtain ⟨F, ⟨a, h1⟩, h2, h3⟩ := h; exact ⟨a, F, h1, h2, h3⟩
theorem St.fact {W0 w : World} {p : Prop} {P : HP} (h : St W0 w (HP.fact p P)) : p ∧ St W0 w P := by
  obtain ⟨F, ⟨a, h1⟩, h2, h3⟩ := h; exact ⟨a, F, h1, h2, h3⟩
theorem St.drop {W0 w : World} {P R : HP} (h : St W0 w (P * R)) : St W0 w R := by
  obtain ⟨F, ⟨A, B, h1, h2, h3, rfl⟩, h4, h5⟩ := h
  exact ⟨B, h2, fun k hk => h4 k (.inr hk), h5⟩
theorem St.dropR {W0 w : World} {P R : HP} (h : St W0 w (P * R)) : St W0 w P := (h.cast (HP.star_comm P R)).drop
theorem St.emp {W0 w : World} (q : Frm [] W0 w) : St W0 w HP.emp := ⟨fun _ => False, rfl, fun _ h => h.elim, q⟩

theorem St.call {W0 w : World} {f : Nat} {args : Array Value} {P R : HP} {Q : Ending → HP → Prop} (h : St W0 w (P * R)) (hc : Tri w f args P Q) :
    Calls Try.prog f args w fun e w' => ∃ P', Q e P' ∧ St W0 w' (P' * R) := by
  obtain ⟨F, ⟨A, B, h1, h2, h3, rfl⟩, h4, h5⟩ := h
  refine (hc A h1).mono ?_
  rintro e w' ⟨P', A', hq, hp, hu⟩
  refine ⟨P', hq, fun x => A' x ∨ B x, ⟨A', B, hp, R.keep w w' B h2 (fun k hk => hu.block k (R.lt w B h2 k hk) (fun ha => h3 k ha hk)), fun x ha hb => ?_, rfl⟩, fun k hk => ?_, ?_⟩
  · rcases hu.grows x ha with h | h
    · exact h3 x h hb
    · have := R.lt w B h2 x hb; omega
  · rcases hk with hk | hk
    · rcases hu.grows k hk with h | h
      · exact h4 k (.inl h)
      · exact Nat.le_trans h5.size h
    · exact h4 k (.inr hk)
  · exact ⟨hu.os.trans h5.os, hu.tape.trans h5.tape, hu.output.trans h5.output, Nat.le_trans h5.size hu.size, fun k hk hn => (hu.block k (Nat.lt_of_lt_of_le hk h5.size) (fun ha => by have := h4 k (.inl ha); omega)).trans (h5.block k hk hn)⟩

/-- The same, all of it. -/
theorem St.call1 {W0 w : World} {f : Nat} {args : Array Value} {P : HP} {Q : Ending → HP → Prop} (h : St W0 w P) (hc : Tri w f args P Q) :
    Calls Try.prog f args w fun e w' => ∃ P', Q e P' ∧ St W0 w' P' := by
  refine ((h.cast (HP.star_emp P).symm).call hc).mono ?_
  rintro e w' ⟨P', hq, hs⟩
  exact ⟨P', hq, hs.cast (HP.star_emp P')⟩

/-- A contract out of a walk whose world begins with just the call's own things. -/
theorem Tri.of {w : World} {f : Nat} {args : Array Value} {P : HP} {Q : Ending → HP → Prop}
    (h : ∀ F, P.on w F → Calls Try.prog f args w fun e w' => ∃ P' F', Q e P' ∧ P'.on w' F' ∧ UpdS F F' w w') : Tri w f args P Q := h

theorem Tri.mono {w : World} {f : Nat} {args : Array Value} {P : HP} {Q Q' : Ending → HP → Prop} (h : Tri w f args P Q) (hq : ∀ e R, Q e R → ∃ R', Q' e R' ∧ ∀ w F, R.on w F → R'.on w F) : Tri w f args P Q' := by
  intro F hF
  refine (h F hF).mono ?_
  rintro e w' ⟨P', F', h1, h2, h3⟩
  obtain ⟨R', h4, h5⟩ := hq e P' h1
  exact ⟨R', F', h4, h5 _ _ h2, h3⟩

/-- What was there and what was made, from a new place on: a call that owns nothing. -/
theorem St.make {W0 w w' : World} {P R : HP} {A : Nat → Prop} (h : St W0 w R) (q : Frm [] w w') (hp : P.on w' A) (ha : ∀ k, A k → w.heap.size ≤ k) : St W0 w' (P * R) := by
  obtain ⟨F, h1, h2, h3⟩ := h
  refine ⟨fun x => A x ∨ F x, ⟨A, F, hp, R.keep w w' F h1 (fun k hk => q.block k (R.lt w F h1 k hk) (by simp)), fun x hx hf => ?_, rfl⟩, fun k hk => ?_, h3.tr q⟩
  · have := ha x hx; have := R.lt w F h1 x hf; omega
  · rcases hk with hk | hk
    · exact Nat.le_trans h3.size (ha k hk)
    · exact h2 k hk

def blkP (b : Nat) (c : Array Value) (t : TypeId) : HP where
  on w F := Blk w b c t ∧ F = fun x => x = b
  lt := by rintro w F ⟨h, rfl⟩ k rfl; exact blk_lt h
  keep := by rintro w w' F ⟨h, rfl⟩ hs; exact ⟨blk_same h (hs b rfl), rfl⟩
def memP (p : Nat) (m : MemS) : HP where
  on w F := ∃ G, IsMem w p G m ∧ F = fun x => x ∈ G
  lt := by rintro w F ⟨G, h, rfl⟩ k hk; exact h.lt k hk
  keep := by rintro w w' F ⟨G, h, rfl⟩ hs; exact ⟨G, h.keep (fun k hk => hs k hk), rfl⟩
def getP (gb : Nat) (g : GetS) : HP where
  on w F := ∃ G, IsGet w gb G g ∧ F = fun x => x ∈ G
  lt := by rintro w F ⟨G, h, rfl⟩ k hk; exact h.lt k hk
  keep := by rintro w w' F ⟨G, h, rfl⟩ hs; exact ⟨G, h.kept (fun k hk => hs k hk), rfl⟩
def takeP (tb : Nat) (t : TakeS) : HP := blkP tb t.row 113
def snapP (sb : Nat) (s : SnapS) : HP := HP.ex fun wb => blkP sb (s.row wb) 110 * blkP wb (wrow s.words) 43

theorem St.blk {W0 w : World} {b : Nat} {c : Array Value} {t : TypeId} {R : HP} (h : St W0 w (blkP b c t * R)) : Blk w b c t := by
  obtain ⟨F, ⟨A, B, ⟨h1, _⟩, _⟩, _⟩ := h; exact h1
theorem St.u64 {W0 w : World} {p : Nat} {m : MemS} {R : HP} (h : St W0 w (memP p m * R)) : ∀ k, U64 (m.at k) := by
  obtain ⟨F, ⟨A, B, ⟨G, h1, _⟩, _⟩, _⟩ := h; exact U64_at h1
theorem St.al {W0 w : World} {R : HP} (h : St W0 w R) (c : Array Value) (t : TypeId) : St W0 (w.alloc (.cells c t)) (blkP w.heap.size c t * R) :=
  h.make (A := fun x => x = w.heap.size) (Frm.alloc _ _ _) ⟨blk_new w c t, rfl⟩ (by rintro k rfl; exact Nat.le_refl _)
theorem St.set {W0 w : World} {b : Nat} {c : Array Value} {t : TypeId} {R : HP} (h : St W0 w (blkP b c t * R)) (o : Nat) (v : Value) : St W0 (w.setCell ⟨b, o, none⟩ v) (blkP b (c.setIfInBounds o v) t * R) := by
  obtain ⟨F, ⟨A, B, ⟨h1, rfl⟩, h2, h3, rfl⟩, h4, h5⟩ := h
  have hf := Frm.setCell (F := [b]) w (a := ⟨b, o, none⟩) v (by simp)
  refine ⟨_, ⟨fun x => x = b, B, ⟨blk_set h1 o v, rfl⟩, R.keep w _ B h2 (fun k hk => hf.block k (R.lt w B h2 k hk) (by simp; rintro rfl; exact h3 _ rfl hk)), h3, rfl⟩, h4, ?_⟩
  exact h5.trans hf (fun _ _ h => h) (fun x hx _ hm => by simp at hm; subst hm; have := h4 x (.inl rfl); omega)
theorem St.drew {W0 w : World} {R : HP} (h : St W0 w R) : St W0 w.drew R := h.ext (Frm.drew _ _)

/-- A method of a Get, on its cells. -/
theorem get_tri (w : World) (gb p n : Nat) (g : GetS) (m : MemS) (ho : g.Ok n m) (hlog : m.log.length < 1099511627775) :
    Tri w 21 #[.pointer (some ⟨gb, 0, none⟩), .pointer (some ⟨p, 0, none⟩)] (getP gb g * memP p m)
      fun e R => e = .returned (.int .i64 (g.step n m).1.phase) ∧ R = getP gb (g.step n m).1 * memP p (g.step n m).2 := by
  rintro F ⟨_, _, ⟨G, hg, rfl⟩, ⟨M, hm, rfl⟩, hd, rfl⟩
  refine (get_step w gb p n M G m g hg hm (fun x hx => hd x hx) ho hlog).mono ?_
  rintro e w' ⟨he, F', G', h1, h2, h3, h4⟩
  refine ⟨_, fun x => x ∈ G' ∨ x ∈ F', ⟨he, rfl⟩, ⟨_, _, ⟨G', h1, rfl⟩, ⟨F', h2, rfl⟩, fun x hx => h4 x hx, rfl⟩, h3.toS.cast (funext fun x => by simp) (funext fun x => by simp)⟩

theorem snapP_on {w : World} {sb : Nat} {s : SnapS} {F : Nat → Prop} : (snapP sb s).on w F ↔ ∃ wb, IsSnap w sb wb s ∧ F = fun x => x = sb ∨ x = wb := by
  constructor
  · rintro ⟨wb, _, _, ⟨h1, rfl⟩, ⟨h2, rfl⟩, h3, rfl⟩
    exact ⟨wb, ⟨h1, h2, fun e => h3 sb rfl e⟩, rfl⟩
  · rintro ⟨wb, ⟨h1, h2, h3⟩, rfl⟩
    exact ⟨wb, _, _, ⟨h1, rfl⟩, ⟨h2, rfl⟩, by rintro x rfl; exact h3, rfl⟩

theorem snap_tri (w : World) (sb p n : Nat) (s : SnapS) (m : MemS) (hi : SnapIn s n m) (ho : s.Ok n) :
    Tri w 38 #[.pointer (some ⟨sb, 0, none⟩), .pointer (some ⟨p, 0, none⟩)] (snapP sb s * memP p m)
      fun e R => e = .returned (.int .i64 (s.step n m).1.phase) ∧ R = snapP sb (s.step n m).1 * memP p (s.step n m).2 := by
  rintro F ⟨_, _, hs, ⟨M, hm, rfl⟩, hd, rfl⟩
  obtain ⟨wb, hS, rfl⟩ := snapP_on.1 hs
  refine (snap_step w sb wb p n M m s hS hm (hd sb (.inl rfl)) (hd wb (.inr rfl)) hi ho).mono ?_
  rintro e w' ⟨he, F', h1, h2, h3, h4, h5⟩
  refine ⟨_, fun x => (x = sb ∨ x = wb) ∨ x ∈ F', ⟨he, rfl⟩, ⟨_, _, snapP_on.2 ⟨wb, h1, rfl⟩, ⟨F', h2, rfl⟩, ?_, rfl⟩, h3.toS.cast (funext fun x => by simp [or_assoc]) (funext fun x => by simp [or_assoc])⟩
  rintro x (rfl | rfl)
  · exact h4
  · exact h5

theorem take_tri (w : World) (tb p n : Nat) (t : TakeS) (m : MemS) (hi : TakeIn t n m) (ho : t.Ok) :
    Tri w 41 #[.pointer (some ⟨tb, 0, none⟩), .pointer (some ⟨p, 0, none⟩)] (takeP tb t * memP p m)
      fun e R => e = .returned (.int .i64 (t.step n m).1.phase) ∧ R = takeP tb (t.step n m).1 * memP p (t.step n m).2 := by
  rintro F ⟨_, _, ⟨ht, rfl⟩, ⟨M, hm, rfl⟩, hd, rfl⟩
  refine (take_step w tb p n M m t ht hm (hd tb rfl) hi ho).mono ?_
  rintro e w' ⟨he, F', h1, h2, h3, h4⟩
  exact ⟨_, fun x => x = tb ∨ x ∈ F', ⟨he, rfl⟩, ⟨_, _, ⟨h1, rfl⟩, ⟨F', h2, rfl⟩, by rintro x rfl; exact h4, rfl⟩, h3.toS.cast (funext fun x => by simp) (funext fun x => by simp)⟩

/-- A cell is stored. -/
theorem store_tri (w : World) (p : Nat) (m : MemS) (who x : Int) (k : Nat) (hk : k < m.cells.length) (hlog : m.log.length < 1099511627776) (hx : U64 x) :
    Tri w 31 #[.pointer (some ⟨p, 0, none⟩), .int .i64 who, .int .i64 k, .int .u64 x] (memP p m)
      fun e R => e = .returned (.tuple #[]) ∧ R = memP p (m.put who 1 k x true) := by
  rintro F ⟨M, hm, rfl⟩
  refine (mem_store w p M m who x k hm hk hlog hx).mono ?_
  rintro e w' ⟨he, F', h1, h2⟩
  exact ⟨_, _, ⟨he, rfl⟩, ⟨F', h1, rfl⟩, h2.toS⟩

theorem St.get {W0 w : World} {gb : Nat} {g : GetS} {R : HP} (h : St W0 w (getP gb g * R)) : ∃ G, IsGet w gb G g := by
  obtain ⟨F, ⟨A, B, ⟨G, h1, _⟩, _⟩, _⟩ := h; exact ⟨G, h1⟩
theorem St.mem {W0 w : World} {p : Nat} {m : MemS} {R : HP} (h : St W0 w (memP p m * R)) : ∃ G, IsMem w p G m := by
  obtain ⟨F, ⟨A, B, ⟨G, h1, _⟩, _⟩, _⟩ := h; exact ⟨G, h1⟩

end Go.Proofs.Ytkcimjcmlibgpaa
