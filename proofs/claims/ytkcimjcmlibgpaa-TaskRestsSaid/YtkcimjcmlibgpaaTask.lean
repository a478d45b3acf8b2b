/-
  Package task: what a Task is; its steps; what it tells. Conditions: the cells fit the layout; the thread is there; the log is short.
-/
import Derived.Test.YtkcimjcmlibgpaaPutC
namespace Go.Proofs.Ytkcimjcmlibgpaa
open Go.RowKit

inductive WorkS where
  | put (P : PutS)
  | get (g : GetS)

structure TaskS where
  kind : Int
  en : Int
  value : Int
  start : Int
  work : WorkS

def WorkS.phase : WorkS → Int
  | .put P => P.phase
  | .get g => g.phase
def TaskS.row (T : TaskS) (v : Value) : Array Value := #[.int .i64 T.kind, .int .i64 T.en, .int .u64 T.value, .int .i64 T.start, v]
def putV (pb : Nat) : Value := .iface 94 (.pointer (some ⟨pb, 0, none⟩))
def getV (gb : Nat) : Value := .iface 35 (.pointer (some ⟨gb, 0, none⟩))
/-- What does the work, in memory. -/
def workP (b : Nat) : WorkS → HP
  | .put P => putP b P
  | .get g => getP b g
def workV (b : Nat) : WorkS → Value
  | .put _ => putV b
  | .get _ => getV b
def taskP (kb : Nat) (T : TaskS) : HP := HP.ex fun b : Nat => blkP kb (T.row (workV b T.work)) 120 * workP b T.work

def WorkS.step (n : Nat) (now : Int) (m : MemS) : WorkS → WorkS × MemS
  | .put P => (.put (P.step n now m).1, (P.step n now m).2)
  | .get g => (.get (g.step n m).1, (g.step n m).2)
/-- A step of a call, at a time. -/
def TaskS.step (n : Nat) (now : Int) (T : TaskS) (m : MemS) : TaskS × MemS := ({ T with work := (T.work.step n now m).1 }, (T.work.step n now m).2)
def WorkS.Ok (cf : Cf) (n : Nat) (m : MemS) : WorkS → Prop
  | .put P => P.Ok n ∧ P.cf = cf
  | .get g => g.Ok n m ∧ g.cf = cf
def TaskS.over (T : TaskS) : Bool := T.work.phase != 0

theorem Try.asPP (b : Nat) (w : World) : (Instr.typeAssert (.iface 94 (.pointer (some ⟨b, 0, none⟩))) 118 94 true).run Try.prog w = .ok (.tuple #[.pointer (some ⟨b, 0, none⟩), .bool true]) w := by kernel_rfl
theorem Try.asGP (b : Nat) (w : World) : (Instr.typeAssert (.iface 35 (.pointer (some ⟨b, 0, none⟩))) 118 94 true).run Try.prog w = .ok (.tuple #[.pointer none, .bool false]) w := by kernel_rfl
theorem Try.asGG (b : Nat) (w : World) : (Instr.typeAssert (.iface 35 (.pointer (some ⟨b, 0, none⟩))) 118 35 true).run Try.prog w = .ok (.tuple #[.pointer (some ⟨b, 0, none⟩), .bool true]) w := by kernel_rfl
theorem Try.asG (b : Nat) (w : World) : (Instr.typeAssert (.iface 35 (.pointer (some ⟨b, 0, none⟩))) 118 35 false).run Try.prog w = .ok (.pointer (some ⟨b, 0, none⟩)) w := by kernel_rfl

set_option maxRecDepth 100000 in
theorem task_step (w : World) (kb p n : Nat) (cf : Cf) (T : TaskS) (m : MemS) (now : Int) (hf : Fits cf n m) (ho : T.work.Ok cf n m) (hlog : m.log.length < 1099511627775) :
    Tri w 49 #[.pointer (some ⟨kb, 0, none⟩), .pointer (some ⟨p, 0, none⟩), .int .i64 now] (taskP kb T * memP p m)
      fun e R => e = .returned (.bool (T.step n now m).1.over) ∧ R = taskP kb (T.step n now m).1 * memP p (T.step n now m).2 := by
  refine Tri.walk fun F S0 => ?_
  obtain ⟨b, S1⟩ := Sx.exL S0
  have S2 := S1.cast (HP.star_assoc _ _ _)
  obtain ⟨hrc, hrf⟩ := blk_S (S2).blk; have hbt := blk_lt (S2).blk
  obtain ⟨kind, en, value, start, work⟩ := T
  have ha1 := Try.asPP
  have ha2 := Try.asGP
  have ha3 := Try.asG
  cases work with
  | put P =>
    obtain ⟨h1, h2⟩ := ho
    have HC := Lib.hid (fun w' => put_step w' b p n P m now (by rw [h2]; exact hf) h1 (by omega))
    have S3 : Sx w F w (blkP kb (TaskS.row ⟨kind, en, value, start, .put P⟩ (putV b)) 120 * (putP b P * memP p m)) := S2
    have HS1 := Lib.hid (S3.cast (HP.star_comm _ _))
    unfold TaskS.step TaskS.over WorkS.step WorkS.phase
    simp only
    generalize P.step n now m = r at *
    obtain ⟨P', m'⟩ := r
    simp only [TaskS.row, workV, putV] at hrc HC HS1 ⊢
    generalize hph : P'.phase = ph at HC
    clear S0 S1 S2 S3
    go_enter Try.func49, Try.ntmps49
    go_wp2_with (go_at_call 56; refine (HS1.out.call (HC.out _)).mono ?_; rintro e w2 ⟨_, ⟨rfl, rfl⟩, S3⟩; have HS3 := Lib.hid S3; clear S3)
    go_ret
    refine ⟨_, ⟨rfl, rfl⟩, Sx.mkL b (HS3.out.cast ?_)⟩
    show _ = blkP kb _ _ * putP b P' * memP p m'
    ac_rfl
  | get g =>
    obtain ⟨h1, h2⟩ := ho
    have HC := Lib.hid (fun w' => get_tri w' b p n g m h1 hlog)
    have S3 : Sx w F w (blkP kb (TaskS.row ⟨kind, en, value, start, .get g⟩ (getV b)) 120 * (getP b g * memP p m)) := S2
    have HS1 := Lib.hid (S3.cast (HP.star_comm _ _))
    unfold TaskS.step TaskS.over WorkS.step WorkS.phase
    simp only
    generalize g.step n m = r at *
    obtain ⟨g', m'⟩ := r
    simp only [TaskS.row, workV, getV] at hrc HC HS1 ⊢
    generalize hph : g'.phase = ph at HC
    clear S0 S1 S2 S3
    go_enter Try.func49, Try.ntmps49
    go_wp2_with (go_at_call 21; refine (HS1.out.call (HC.out _)).mono ?_; rintro e w2 ⟨_, ⟨rfl, rfl⟩, S3⟩; have HS3 := Lib.hid S3; clear S3)
    go_ret
    refine ⟨_, ⟨rfl, rfl⟩, Sx.mkL b (HS3.out.cast ?_)⟩
    show _ = blkP kb _ _ * getP b g' * memP p m'
    ac_rfl

end Go.Proofs.Ytkcimjcmlibgpaa
