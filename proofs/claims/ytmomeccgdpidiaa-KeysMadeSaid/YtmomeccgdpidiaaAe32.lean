import Derived.Test.YtmomeccgdpidiaaAe31
/-! What an operation looks at: all operations. -/
namespace Go.AE
variable {P : Program} {eqs : TypeId → Option (List SK)}
theorem Loc.aop (o : Oper) (ρ : Operand → Option AV) : Loc (fun l g => AE.aop P eqs o ρ l g) := by
  obtain ⟨dst, op, type, pos, after, guard⟩ := o
  cases op with
  | move x => exact Loc.ret1 _
  | assign x => exact Loc.ret1 _
  | pick c a b =>
    refine Loc.bindO (ρ c) fun v => ?_
    cases v <;> first | exact Loc.ret1 _ | exact Loc.none
  | alloc t => exact Loc.bindO _ fun z => Loc.ite Loc.none (Loc.new1 _ _ _)
  | box t x => exact Loc.bindO _ fun z => Loc.ite (Loc.new1 _ _ _) Loc.none
  | build t ps => exact Loc.bindO _ fun qs => Loc.ret1 _
  | buildSlice t n ps =>
    simp only [AE.aop]
    split
    · exact Loc.bindO _ fun qs => Loc.bindO _ fun z => Loc.bindO _ fun k => Loc.ite (Loc.bindO _ fun xs => Loc.new1 _ _ _) Loc.none
    · exact Loc.none
  | load t a => exact Loc.bindO _ fun s => Loc.bindO _ fun ag => Loc.bindO _ fun a => Loc.ret2 (RdL.loadA s ag a)
  | store t a x => exact Loc.bindO _ fun s => Loc.bindO _ fun a => Loc.bindO _ fun x => Loc.storeA s a x
  | nilCheck x =>
    refine Loc.bindO (ρ x) fun v => ?_
    cases v <;> first | exact Loc.ret1 (some _) | exact Loc.none
  | binOp op t x y yt => exact Loc.bindO _ fun a => Loc.bindO _ fun b => Loc.ret1 _
  | unOp op t x => exact Loc.bindO _ fun a => Loc.ret1 _
  | convert s d x => exact Loc.bindO _ fun a => Loc.ret2 (RdL.convA s d a)
  | makeFunc fn first cap =>
    cases fn <;> first
      | exact Loc.none
      | exact Loc.bindO _ fun fs => Loc.bindO _ fun cs => Loc.ite (Loc.ret1 (some _)) Loc.none
  | makeSlice t n c =>
    simp only [AE.aop]
    split
    · exact Loc.bindO _ fun n => Loc.bindO _ fun c => Loc.bindO _ fun n => Loc.bindO _ fun c => Loc.bindO _ fun z => Loc.bindO _ fun k => Loc.bindO _ fun b => Loc.ite (Loc.new1 _ _ _) Loc.none
    · exact Loc.none
  | slice t x a b c =>
    cases c with
    | none => exact Loc.bindO _ fun x => Loc.bindO _ fun a => Loc.bindO _ fun b => Loc.ret2 (RdL.sliceA t x a b)
    | some _ => exact Loc.none
  | fieldAddr t x f => exact Loc.bindO _ fun a => Loc.ret1 _
  | field t x f => exact Loc.bindO _ fun a => Loc.ret1 _
  | indexAddr t x i => exact Loc.bindO _ fun a => Loc.bindO _ fun b => Loc.ret2 (RdL.indexAddrA t a b)
  | index t x i => exact Loc.bindO _ fun a => Loc.bindO _ fun b => Loc.ret1 _
  | extract x i =>
    refine Loc.bindO (ρ x) fun v => ?_
    cases v <;> first | exact Loc.ret1 _ | exact Loc.none
  | call c =>
    simp only [AE.aop]
    split
    · split
      · exact Loc.bindO _ fun x => Loc.ret1 _
      · exact Loc.none
    · split
      · exact Loc.ite (Loc.bindO _ fun s => Loc.bindO _ fun x => Loc.appendA _ _ s x _) Loc.none
      · exact Loc.none
    · split
      · exact Loc.ret1 _
      · exact Loc.none
    · split
      · exact Loc.ret1 _
      · exact Loc.none
    · exact Loc.none
  | _ => exact Loc.none
end Go.AE
