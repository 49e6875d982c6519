/- SaneTurned by hand: single operations. -/
import Derived.Test.YtibkgmpfncacpaaPliAt06B
namespace Go.Pli
open Go Go.PM Go.Proofs
section
variable {P : Program} {o : Oper} {a : Act} {W : World}
theorem rMove {t : Nat} (ho : o.op = .move (.tmp t)) : (execOp a.eval o).run P W = .ok (.value (a.tmps.getD t undef)) W := by simp [execOp, ho, Act.eval]
theorem rAssign {t : Nat} (ho : o.op = .assign (.tmp t)) : (execOp a.eval o).run P W = .ok (.value (a.tmps.getD t undef)) W := by simp [execOp, ho, Act.eval]
theorem rNil {t : Nat} {ad : Addr} (ho : o.op = .nilCheck (.tmp t)) (h : a.tmps.getD t undef = .pointer (some ad)) : (execOp a.eval o).run P W = .ok (.value (.pointer (some ad))) W := by simp [execOp, ho, Act.eval, h]
theorem rField {t : Nat} {ty : TypeId} {T ft : Ty} {f off b p : Nat} (ho : o.op = .fieldAddr ty (.tmp t) f) (hT : TyOk P ty T) (hf : T.fld f = some (off, ft)) (h : a.tmps.getD t undef = .pointer (some ⟨b, p, none⟩)) :
  (execOp a.eval o).run P W = .ok (.value (.pointer (some ⟨b, p + off, none⟩))) W := by
 simp [execOp, ho, Act.eval, h, run_fieldAt hT hf (ad := ⟨b, p, none⟩) rfl]
theorem rLoad {t : Nat} {ty e : TypeId} {r : Ty} {b p : Nat} {u : Value} (ho : o.op = .load ty (.tmp t)) (hT : TyOk P ty (.sl e r)) (h : a.tmps.getD t undef = .pointer (some ⟨b, p, none⟩)) (hc : W.cell? ⟨b, p, none⟩ = some u) :
  (execOp a.eval o).run P W = .ok (.value u) W := by
 have hag : (Ty.sl e r).isAgg = false := rfl
 have hrun : (Instr.loadAt ty (.pointer (some ⟨b, p, none⟩))).run P W = .ok u W := by
  simp only [Instr.loadAt, Instr.sureAddr, Sem.run_bind, Sem.run_pure, Result.andThen_ok, loadVar, hT.run_isAgg, hag, Bool.false_eq_true, if_false, run_load]
  rw [hc]
 simp [execOp, ho, Act.eval, h, hrun]
theorem rConv {t : Nat} {s d : TypeId} {k k' : IntKind} {x : Int} (ho : o.op = .convert s d (.tmp t)) (hs : TyOk P s (.int k')) (hd : TyOk P d (.int k)) (h : a.tmps.getD t undef = .int k' x) : (execOp a.eval o).run P W = .ok (.value (.int k (k.wrap x))) W := by
 simp [execOp, ho, Act.eval, h, convert, run_underlying hs.int_und, run_underlying hd.int_und, Conv.intToInt]
theorem rLen {t : Nat} {c : Call} {ty e : TypeId} {r : Ty} {A : Option Addr} {m cp : Nat} (ho : o.op = .call c) (hc : c.callee = .builtin .len) (hx : c.args.toList = [.tmp t]) (htt : c.argTypes.toList = [ty]) (hT : TyOk P ty (.sl e r)) (h : a.tmps.getD t undef = .slice A m cp) :
  (execOp a.eval o).run P W = .ok (.value (.int .i64 m)) W := by
 have h' : a.eval (.tmp t) = .slice A m cp := h
 simp [execOp, ho, resolve, hc, args_one hx, types_one htt, invoke, builtin, h', Builtin.len_, run_underlying hT.sl_und, goInt]
theorem rRem {t u : Nat} {ty ty' : TypeId} {x y : Int} (ho : o.op = .binOp .rem ty (.tmp t) (.tmp u) ty') (h1 : a.tmps.getD t undef = .int .i64 x) (h2 : a.tmps.getD u undef = .int .i64 y) (hy : y ≠ 0) :
  (execOp a.eval o).run P W = .ok (.value (.int .i64 (x.tmod y))) W := by
 have := run_intBin (P := P) (op := .rem) (t := ty) (k := .i64) (a := x) (b := y) (ok := !decide (y = 0)) (r := x.tmod y) rfl (by simp [hy]) W
 simp [execOp, ho, Act.eval, h1, h2, this, eqGuard]
theorem rIndex {t u : Nat} {ty e : TypeId} {r : Ty} {b off m c q : Nat} (ho : o.op = .indexAddr ty (.tmp t) (.tmp u)) (hT : TyOk P ty (.sl e r)) (h1 : a.tmps.getD t undef = .slice (some ⟨b, off, none⟩) m c) (h2 : a.tmps.getD u undef = .int .i64 (q : Int)) (hq : q < m) :
  (execOp a.eval o).run P W = .ok (.value (.pointer (some ⟨b, off + q * r.sz, none⟩))) W := by
 have hu := hT.sl_und
 have hel : P.elem ty = e := by simp [Program.elem, hu]
 have e1 : a.eval (.tmp t) = .slice (some ⟨b, off, none⟩) m c := h1
 have e2 : a.eval (.tmp u) = .int .i64 (q : Int) := h2
 simp only [execOp, ho, e1, e2, Sem.run_bind, Sem.run_pure]
 rw [run_indexAt_slice W ty ⟨b, off, none⟩ m c .i64 q (by rw [hel]; exact hu), if_pos ⟨by omega, by omega⟩, hel, hT.sl_row.run_size]
 simp [add_none]
theorem rStore {t u : Nat} {ty e : TypeId} {r : Ty} {b p : Nat} {A : Option Addr} {m c : Nat} {v0 : Value} (ho : o.op = .store ty (.tmp t) (.tmp u)) (hT : TyOk P ty (.sl e r)) (h1 : a.tmps.getD t undef = .pointer (some ⟨b, p, none⟩)) (h2 : a.tmps.getD u undef = .slice A m c) (hc : W.cell? ⟨b, p, none⟩ = some v0) (hz : W.frozen? ⟨b, p, none⟩ = false) :
  (execOp a.eval o).run P W = .ok .skip (W.setCell ⟨b, p, none⟩ (.slice A m c)) := by
 have e1 : a.eval (.tmp t) = .pointer (some ⟨b, p, none⟩) := h1
 have e2 : a.eval (.tmp u) = .slice A m c := h2
 have e1' : a.tmps[t]?.getD undef = .pointer (some ⟨b, p, none⟩) := by simpa [Array.getD_eq_getD_getElem?] using h1
 have e2' : a.tmps[u]?.getD undef = .slice A m c := by simpa [Array.getD_eq_getD_getElem?] using h2
 simp [execOp, ho, e1, e2, e1', e2', Instr.storeAt, Instr.sureAddr, storeVar, hT.run_size, Ty.sz, Value.cells, go_sem, hc, hz]
end
end Go.Pli
