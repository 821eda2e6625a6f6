/- The contracts of the functions, over the loaded program. -/
import Derived.Test.YtlmdhmieiejkfaaPic
import Derived.Test.YtlmdhmieiejkfaaRows
import Derived.KernelRfl
set_option linter.unusedVariables false
set_option maxRecDepth 100000
namespace Go.Proofs.Ytlmdhmieiejkfaa
open Go Go.Eng Go.Proofs
def tab : List (Option Ty) := [none, some (.opq .fn), some (.int .i64), some (.int .i64), some .bool, some (.int .u8), some (.int .u8), some (.pair (.int .i64) (.pair (.int .i64) (.pair .bool (.pair (.int .u8) .unit)))), some (.pair (.int .i64) (.pair (.int .i64) (.pair .bool (.pair (.int .u8) .unit)))), some .str, some .str, some .str, some (.int .u64), none, none, some (.opq .ptr), some (.opq .ptr), some (.opq .ptr), none, none, some (.opq .ifc), some (.int .i32), some T_api_Pic, some T_api_Pic, some (.sl (.int .u8)), some T_api_Unit, some T_api_Unit, some (.int .i64), none, some (.opq .fn), some (.opq .fn), none, some (.opq .fn), some (.opq .fn), some (.opq .fn), some T_api_Rat, some T_api_Rat, some (.arr 64 (.int .u8)), some T_api_Seq, some T_api_Seq, some (.opq .fn), some (.opq .fn), some (.opq .fn), some (.sl T_api_Entry), some T_api_Index, some T_api_Index, some (.sl (.int .i64)), none, some (.sl T_api_Index), none, none, some (.opq .fn), some (.sl T_api_Seq), some (.sl (.int .i64)), some (.opq .fn), some (.opq .fn), some (.opq .fn), some (.opq .ptr), some T_cutroomfilm_Tape, some T_cutroomfilm_Tape, some (.opq .fn), some (.opq .fn), some (.opq .fn), some (.sl .bool), some (.opq .fn), some (.opq .fn), some (.opq .fn), some (.int .u64), some (.opq .fn), some (.sl T_api_Part), some T_api_Plan, some T_api_Plan, none, some (.opq .fn), some (.opq .fn), some (.opq .fn), some T_api_Part, some T_api_Part, some (.opq .fn), some (.opq .fn), none, none, some (.opq .fn), some (.opq .fn), some (.opq .ptr), some (.sl T_api_Plan), some (.opq .fn), some (.opq .fn), some T_api_Entry, some T_api_Entry, some (.opq .fn), some (.opq .fn), some (.opq .ptr), some (.opq .fn), some (.int .u32), some (.pair (.int .u32) (.pair (.int .i64) .unit)), some (.opq .fn), some (.sl (.pair (.int .u32) (.pair (.int .i64) .unit))), some (.opq .fn), some (.opq .fn), some (.opq .fn), some (.opq .fn), some (.opq .fn), some (.opq .ptr), none, some (.opq .fn), none, some (.opq .fn), some (.opq .ptr), none, some (.opq .fn), some (.opq .fn), some (.opq .fn), some (.opq .fn), some (.opq .fn), some (.opq .fn), some (.opq .fn), none, some (.opq .fn), some (.opq .fn), some (.opq .fn), some (.opq .fn), none, some (.opq .fn), some (.opq .fn), some (.opq .fn), some T_bitio_Writer, some T_bitio_Writer, some (.int .u64), some T_bitio_Reader, some T_bitio_Reader, some T_bitio_Writer, some T_bitio_Writer, some (.opq .fn), some (.opq .fn), some (.opq .fn), some (.sl .str), some (.opq .fn), some (.opq .fn), some (.opq .fn), some (.opq .fn), none, some (.opq .fn), some (.sl T_api_Run), some (.opq .fn), some T_api_Run, some T_api_Run, some (.opq .fn), some (.opq .fn), none, none, some (.arr 0 (.opq .ptr)), none, none, some (.int .u8), some (.int .u8), some (.opq .fn), some (.opq .ptr), some (.int .i32), some (.int .i32), none, none, none]
def ebs : List Nat := [0, 0, 0, 0, 0, 0, 0, 0, 0, 0, 0, 0, 0, 0, 0, 0, 0, 0, 0, 0, 0, 0, 0, 0, 1, 0, 0, 0, 0, 0, 0, 0, 0, 0, 0, 0, 0, 0, 0, 0, 0, 0, 0, 32, 0, 0, 8, 0, 224, 0, 0, 0, 184, 8, 0, 0, 0, 0, 0, 0, 0, 0, 0, 1, 0, 0, 0, 0, 0, 48, 0, 0, 0, 0, 0, 0, 0, 0, 0, 0, 0, 0, 0, 0, 0, 24, 0, 0, 0, 0, 0, 0, 0, 0, 0, 0, 0, 16, 0, 0, 0, 0, 0, 0, 0, 0, 0, 0, 0, 0, 0, 0, 0, 0, 0, 0, 0, 0, 0, 0, 0, 0, 0, 0, 0, 0, 0, 0, 0, 0, 0, 0, 0, 0, 0, 0, 16, 0, 0, 0, 0, 0, 0, 40, 0, 0, 0, 0, 0, 0, 0, 0, 0, 0, 0, 0, 0, 0, 0, 0, 0, 0, 0]
theorem tabOk : tabB Try.prog tab ebs = true := by kernel_rfl
noncomputable def C0 : Ctx := { TT := tabT tab, EB := fun T => ebs.getD T 0, CT := fun _ => none, LD := fun _ => [], OW := fun T => [127].contains T }
theorem C0_ok : CtxOK Try.prog C0 := CtxOK.of (ctxT_tab tabOk rfl rfl) fun _ => rfl
def picture_coded_mt : List (Nat × Nat × List Nat) := [(1, 2, [80]), (999999, 4, [])]
def picture_coded_M : Masks := maskOf picture_coded_mt
noncomputable def picture_coded_LP : Loops := noLoops
theorem picture_coded_lok (_h : CtxOK Try.prog C0) : LOK Try.prog picture_coded_LP (Try.f48.body.getD .skip) := LOK_list (l := []) (by kernel_rfl) trivial
abbrev picture_coded_r0 : List SD × OSh := ([.v true .bool], [])
abbrev picture_coded_rs : RSh := [picture_coded_r0]
noncomputable def picture_coded : FnK C0 picture_coded_M picture_coded_LP [none] Try.f48 where
  sh := [.v true T_api_Pic]
  osh := []
  rs := picture_coded_rs
  X := Bool
  inX := fun x => ((x, ()), ())
  outX := fun y => y.1.1
  go := fun x k => k (mkRes picture_coded_r0.1 (x, ())) (mkOL picture_coded_r0.2 ())
  hgo := fun _ _ _ => rfl
  hio := fun _ => rfl
  pre := fun d o => picture_coded_pre d.1
  S := fun d o => picture_coded_S d.1
  F := fun k d o => picture_coded_F (fun v0 => k v0) d.1
  hn := rfl
  hF := fun _ _ _ _ => by kernel_rfl
  hS := fun d o hd ho hp R k => picture_coded_ok d.1 hd.1 hp (fun v0 => k v0) (fun z => z = k (picture_coded_S d.1)) rfl
theorem picture_coded_snd (h : CtxOK Try.prog C0) : Sound Try.prog 48 picture_coded.G := picture_coded.sound h rfl (body_LOK (picture_coded_lok h))
noncomputable def C1 : Ctx := addF C0 48 picture_coded.G
theorem C1_ok : CtxOK Try.prog C1 := C0_ok.add (picture_coded_snd C0_ok) Try.f48 rfl (by kernel_rfl) rfl

def bitio_NewWriter_mt : List (Nat × Nat × List Nat) := [(1, 0, []), (999999, 1, [96, 97])]
def bitio_NewWriter_M : Masks := maskOf bitio_NewWriter_mt
noncomputable def bitio_NewWriter_LP : Loops := noLoops
theorem bitio_NewWriter_lok (_h : CtxOK Try.prog C1) : LOK Try.prog bitio_NewWriter_LP (Try.f49.body.getD .skip) := LOK_list (l := []) (by kernel_rfl) trivial
abbrev bitio_NewWriter_r0 : List SD × OSh := ([.pb 0 []], [(0, .box T_bitio_Writer (.ag (.cons (.sl 1) (.cons (.v true (.int .i64)) (.nil))))), (1, .arr true (.int .u8))])
abbrev bitio_NewWriter_rs : RSh := [bitio_NewWriter_r0]
noncomputable def bitio_NewWriter : FnK C1 bitio_NewWriter_M bitio_NewWriter_LP [none] Try.f49 where
  sh := []
  osh := []
  rs := bitio_NewWriter_rs
  X := Int × List Int
  inX := fun x => (((), ()), (((), (x.1, ())), (x.2, ())))
  outX := fun y => (y.2.1.2.1, y.2.2.1)
  go := fun x k => k (mkRes bitio_NewWriter_r0.1 ((), ())) (mkOL bitio_NewWriter_r0.2 (((), (x.1, ())), (x.2, ())))
  hgo := fun _ _ _ => rfl
  hio := fun _ => rfl
  pre := fun d o => bitio_NewWriter_pre
  S := fun d o => bitio_NewWriter_S
  F := fun k d o => bitio_NewWriter_F (fun v0 v1 => k (v0, v1)) 
  hn := rfl
  hF := fun _ _ _ _ => by kernel_rfl
  hS := fun d o hd ho hp R k => bitio_NewWriter_ok   hp (fun v0 v1 => k (v0, v1)) (fun z => z = k (bitio_NewWriter_S)) rfl
theorem bitio_NewWriter_snd (h : CtxOK Try.prog C1) : Sound Try.prog 49 bitio_NewWriter.G := bitio_NewWriter.sound h rfl (body_LOK (bitio_NewWriter_lok h))
noncomputable def C2 : Ctx := addF C1 49 bitio_NewWriter.G
theorem C2_ok : CtxOK Try.prog C2 := C1_ok.add (bitio_NewWriter_snd C1_ok) Try.f49 rfl (by kernel_rfl) rfl

def picture_bit_mt : List (Nat × Nat × List Nat) := [(1, 1, []), (3, 0, []), (999999, 4, [])]
def picture_bit_M : Masks := maskOf picture_bit_mt
noncomputable def picture_bit_LP : Loops := noLoops
theorem picture_bit_lok (_h : CtxOK Try.prog C2) : LOK Try.prog picture_bit_LP (Try.f50.body.getD .skip) := LOK_list (l := []) (by kernel_rfl) trivial
abbrev picture_bit_r0 : List SD × OSh := ([.v true (.int .u32)], [])
abbrev picture_bit_rs : RSh := [picture_bit_r0]
noncomputable def picture_bit : FnK C2 picture_bit_M picture_bit_LP [none] Try.f50 where
  sh := [.v true .bool]
  osh := []
  rs := picture_bit_rs
  X := Int
  inX := fun x => ((x, ()), ())
  outX := fun y => y.1.1
  go := fun x k => k (mkRes picture_bit_r0.1 (x, ())) (mkOL picture_bit_r0.2 ())
  hgo := fun _ _ _ => rfl
  hio := fun _ => rfl
  pre := fun d o => picture_bit_pre d.1
  S := fun d o => picture_bit_S d.1
  F := fun k d o => picture_bit_F (fun v0 => k v0) d.1
  hn := rfl
  hF := fun _ _ _ _ => by kernel_rfl
  hS := fun d o hd ho hp R k => picture_bit_ok d.1 hd.1 hp (fun v0 => k v0) (fun z => z = k (picture_bit_S d.1)) rfl
theorem picture_bit_snd (h : CtxOK Try.prog C2) : Sound Try.prog 50 picture_bit.G := picture_bit.sound h rfl (body_LOK (picture_bit_lok h))
noncomputable def C3 : Ctx := addF C2 50 picture_bit.G
theorem C3_ok : CtxOK Try.prog C3 := C2_ok.add (picture_bit_snd C2_ok) Try.f50 rfl (by kernel_rfl) rfl

def bitio_Writer_Put_mt : List (Nat × Nat × List Nat) := [(1, 7, [0, 1]), (5, 7, [0, 1]), (6, 201326599, [0, 1]), (7, 201326599, [0, 1]), (8, 201326727, [0, 1]), (10, 201326727, [0, 1]), (11, 201326855, [0, 1]), (12, 201326599, [0, 1]), (13, 201326599, [0, 1]), (14, 0, [0, 1]), (999999, 64, [0, 1]), (1000001, 0, [0, 1]), (2000011, 0, [])]
def bitio_Writer_Put_M : Masks := maskOf bitio_Writer_Put_mt
noncomputable def bitio_Writer_Put_L6_LP : Loops := noLoops
theorem bitio_Writer_Put_L6_lok (_h : CtxOK Try.prog C3) : LOK Try.prog bitio_Writer_Put_L6_LP (getLoop Try.f51 6) := LOK_list (l := []) (by kernel_rfl) trivial
abbrev bitio_Writer_Put_L6_sh : List SD × OSh := ([.pb 0 [], .v true (.int .u32), .v true (.int .i64), .dead, .dead, .dead, .dead, .dead, .dead, .dead, .dead, .dead, .dead, .dead, .dead, .dead, .dead, .dead, .dead, .dead, .dead, .dead, .dead, .dead, .dead, .dead, .v true (.int .i64), .v true (.int .i64), .dead, .dead, .dead, .dead, .dead, .dead, .dead, .dead, .dead, .dead, .dead, .dead, .dead, .dead, .dead, .dead, .dead, .dead, .dead, .dead, .dead, .dead, .dead, .dead, .dead, .dead, .dead, .dead, .dead, .dead, .dead, .dead, .dead, .dead, .dead, .dead, .dead, .dead, .dead, .dead, .dead, .dead, .dead, .dead, .dead, .dead, .dead, .dead, .dead, .dead, .dead, .dead, .dead, .dead], [(0, .box T_bitio_Writer (.ag (.cons (.sl 1) (.cons (.v true (.int .i64)) (.nil))))), (1, .arr true (.int .u8))])
abbrev bitio_Writer_Put_L6_x0 : List SD × OSh := ([.dead, .dead, .dead, .dead, .dead, .dead, .dead, .dead, .dead, .dead, .dead, .dead, .dead, .dead, .dead, .dead, .dead, .dead, .dead, .dead, .dead, .dead, .dead, .dead, .dead, .dead, .dead, .dead, .dead, .dead, .dead, .dead, .dead, .dead, .dead, .dead, .dead, .dead, .dead, .dead, .dead, .dead, .dead, .dead, .dead, .dead, .dead, .dead, .dead, .dead, .dead, .dead, .dead, .dead, .dead, .dead, .dead, .dead, .dead, .dead, .dead, .dead, .dead, .dead, .dead, .dead, .dead, .dead, .dead, .dead, .dead, .dead, .dead, .dead, .dead, .dead, .dead, .dead, .dead, .dead, .dead, .dead], [(0, .box T_bitio_Writer (.ag (.cons (.sl 1) (.cons (.v true (.int .i64)) (.nil))))), (1, .arr true (.int .u8))])
noncomputable def bitio_Writer_Put_L6 : LoopK C3 bitio_Writer_Put_M bitio_Writer_Put_L6_LP (getLoop Try.f51 6) where
  sh := bitio_Writer_Put_L6_sh
  X := Int × List Int
  go := fun d o x k => k (.exit 1) (mkS bitio_Writer_Put_L6_x0 ((), ((), ((), ((), ((), ((), ((), ((), ((), ((), ((), ((), ((), ((), ((), ((), ((), ((), ((), ((), ((), ((), ((), ((), ((), ((), ((), ((), ((), ((), ((), ((), ((), ((), ((), ((), ((), ((), ((), ((), ((), ((), ((), ((), ((), ((), ((), ((), ((), ((), ((), ((), ((), ((), ((), ((), ((), ((), ((), ((), ((), ((), ((), ((), ((), ((), ((), ((), ((), ((), ((), ((), ((), ((), ((), ((), ((), ((), ((), ((), ((), ((), ())))))))))))))))))))))))))))))))))))))))))))))))))))))))))))))))))))))))))))))))))) (((), (x.1, ())), (x.2, ())))
  pre := fun d o => bitio_Writer_Put_L6_pre d.2.1 d.2.2.1 d.2.2.2.2.2.2.2.2.2.2.2.2.2.2.2.2.2.2.2.2.2.2.2.2.2.2.1 d.2.2.2.2.2.2.2.2.2.2.2.2.2.2.2.2.2.2.2.2.2.2.2.2.2.2.2.1 o.1.2.1 o.2.1
  mu := fun d o => bitio_Writer_Put_L6_mu d.2.1 d.2.2.1 d.2.2.2.2.2.2.2.2.2.2.2.2.2.2.2.2.2.2.2.2.2.2.2.2.2.2.1 d.2.2.2.2.2.2.2.2.2.2.2.2.2.2.2.2.2.2.2.2.2.2.2.2.2.2.2.1 o.1.2.1 o.2.1
  S := fun d o => bitio_Writer_Put_L6_S d.2.1 d.2.2.1 d.2.2.2.2.2.2.2.2.2.2.2.2.2.2.2.2.2.2.2.2.2.2.2.2.2.2.1 d.2.2.2.2.2.2.2.2.2.2.2.2.2.2.2.2.2.2.2.2.2.2.2.2.2.2.2.1 o.1.2.1 o.2.1
  T := fun rec ex d o => bitio_Writer_Put_L6_T d.2.1 d.2.2.1 d.2.2.2.2.2.2.2.2.2.2.2.2.2.2.2.2.2.2.2.2.2.2.2.2.2.2.1 (fun v0 v1 v2 => rec ((), (d.2.1, (d.2.2.1, ((), ((), ((), ((), ((), ((), ((), ((), ((), ((), ((), ((), ((), ((), ((), ((), ((), ((), ((), ((), ((), ((), ((), (d.2.2.2.2.2.2.2.2.2.2.2.2.2.2.2.2.2.2.2.2.2.2.2.2.2.2.1, (v0, ((), ((), ((), ((), ((), ((), ((), ((), ((), ((), ((), ((), ((), ((), ((), ((), ((), ((), ((), ((), ((), ((), ((), ((), ((), ((), ((), ((), ((), ((), ((), ((), ((), ((), ((), ((), ((), ((), ((), ((), ((), ((), ((), ((), ((), ((), ((), ((), ((), ((), ((), ((), ((), ((), ())))))))))))))))))))))))))))))))))))))))))))))))))))))))))))))))))))))))))))))))))) (((), (v1, ())), (v2, ()))) (fun e0 e1 => ex (e0, e1)) d.2.2.2.2.2.2.2.2.2.2.2.2.2.2.2.2.2.2.2.2.2.2.2.2.2.2.2.1 o.1.2.1 o.2.1
  hn := rfl
  hT := fun _ _ _ _ => by kernel_rfl
  hx := fun d o x => ⟨(.exit 1), _, nofun, fun _ _ => rfl⟩
  hS := fun d o hd ho hp R rec ex Good hr hx => bitio_Writer_Put_L6_ok d.2.1 d.2.2.1 d.2.2.2.2.2.2.2.2.2.2.2.2.2.2.2.2.2.2.2.2.2.2.2.2.2.2.1 d.2.2.2.2.2.2.2.2.2.2.2.2.2.2.2.2.2.2.2.2.2.2.2.2.2.2.2.1 o.1.2.1 o.2.1 hd.2.1 hd.2.2.1 hd.2.2.2.2.2.2.2.2.2.2.2.2.2.2.2.2.2.2.2.2.2.2.2.2.2.2.1 hd.2.2.2.2.2.2.2.2.2.2.2.2.2.2.2.2.2.2.2.2.2.2.2.2.2.2.2.1 ho.1.2.1 ho.2.1 hp (fun v0 v1 v2 => rec ((), (d.2.1, (d.2.2.1, ((), ((), ((), ((), ((), ((), ((), ((), ((), ((), ((), ((), ((), ((), ((), ((), ((), ((), ((), ((), ((), ((), ((), (d.2.2.2.2.2.2.2.2.2.2.2.2.2.2.2.2.2.2.2.2.2.2.2.2.2.2.1, (v0, ((), ((), ((), ((), ((), ((), ((), ((), ((), ((), ((), ((), ((), ((), ((), ((), ((), ((), ((), ((), ((), ((), ((), ((), ((), ((), ((), ((), ((), ((), ((), ((), ((), ((), ((), ((), ((), ((), ((), ((), ((), ((), ((), ((), ((), ((), ((), ((), ((), ((), ((), ((), ((), ((), ())))))))))))))))))))))))))))))))))))))))))))))))))))))))))))))))))))))))))))))))))) (((), (v1, ())), (v2, ()))) (fun e0 e1 => ex (e0, e1)) Good
    (fun v0 v1 v2 h1 h2 h3 => hr ((), (d.2.1, (d.2.2.1, ((), ((), ((), ((), ((), ((), ((), ((), ((), ((), ((), ((), ((), ((), ((), ((), ((), ((), ((), ((), ((), ((), ((), (d.2.2.2.2.2.2.2.2.2.2.2.2.2.2.2.2.2.2.2.2.2.2.2.2.2.2.1, (v0, ((), ((), ((), ((), ((), ((), ((), ((), ((), ((), ((), ((), ((), ((), ((), ((), ((), ((), ((), ((), ((), ((), ((), ((), ((), ((), ((), ((), ((), ((), ((), ((), ((), ((), ((), ((), ((), ((), ((), ((), ((), ((), ((), ((), ((), ((), ((), ((), ((), ((), ((), ((), ((), ((), ())))))))))))))))))))))))))))))))))))))))))))))))))))))))))))))))))))))))))))))))))) (((), (v1, ())), (v2, ())) (fun _ _ _ => by kernel_rfl) (cast (by kernel_rfl) h1) (cast (by kernel_rfl) h2) (cast (by kernel_rfl) h3))
    (fun e0 e1 he => (show Good (ex (e0, e1)) from he ▸ hx))
theorem bitio_Writer_Put_L6_snd (h : CtxOK Try.prog C3) : LoopS Try.prog (getLoop Try.f51 6) bitio_Writer_Put_L6.G := bitio_Writer_Put_L6.sound h (bitio_Writer_Put_L6_lok h)
noncomputable def bitio_Writer_Put_LP : Loops := (addL noLoops 6 bitio_Writer_Put_L6.G)
theorem bitio_Writer_Put_lok (h : CtxOK Try.prog C3) : LOK Try.prog bitio_Writer_Put_LP (Try.f51.body.getD .skip) := LOK_list (l := [(false, getLoop Try.f51 6, bitio_Writer_Put_L6.G)]) (by kernel_rfl) ⟨bitio_Writer_Put_L6_snd h, trivial⟩
abbrev bitio_Writer_Put_r0 : List SD × OSh := ([.v true (.int .i64)], [(0, .box T_bitio_Writer (.ag (.cons (.sl 1) (.cons (.v true (.int .i64)) (.nil))))), (1, .arr true (.int .u8))])
abbrev bitio_Writer_Put_rs : RSh := [bitio_Writer_Put_r0]
noncomputable def bitio_Writer_Put : FnK C3 bitio_Writer_Put_M bitio_Writer_Put_LP [none] Try.f51 where
  sh := [.pb 0 [], .v true (.int .u32), .v true (.int .i64)]
  osh := [(0, .box T_bitio_Writer (.ag (.cons (.sl 1) (.cons (.v true (.int .i64)) (.nil))))), (1, .arr true (.int .u8))]
  rs := bitio_Writer_Put_rs
  X := Int × Int × List Int
  inX := fun x => ((x.1, ()), (((), (x.2.1, ())), (x.2.2, ())))
  outX := fun y => (y.1.1, y.2.1.2.1, y.2.2.1)
  go := fun x k => k (mkRes bitio_Writer_Put_r0.1 (x.1, ())) (mkOL bitio_Writer_Put_r0.2 (((), (x.2.1, ())), (x.2.2, ())))
  hgo := fun _ _ _ => rfl
  hio := fun _ => rfl
  pre := fun d o => bitio_Writer_Put_pre d.2.1 d.2.2.1 o.1.2.1 o.2.1
  S := fun d o => bitio_Writer_Put_S d.2.1 d.2.2.1 o.1.2.1 o.2.1
  F := fun k d o => bitio_Writer_Put_F (fun v0 v1 v2 => k (v0, v1, v2)) d.2.1 d.2.2.1 o.1.2.1 o.2.1
  hn := rfl
  hF := fun _ _ _ _ => by kernel_rfl
  hS := fun d o hd ho hp R k => bitio_Writer_Put_ok d.2.1 d.2.2.1 o.1.2.1 o.2.1 hd.2.1 hd.2.2.1 ho.1.2.1 ho.2.1 hp (fun v0 v1 v2 => k (v0, v1, v2)) (fun z => z = k (bitio_Writer_Put_S d.2.1 d.2.2.1 o.1.2.1 o.2.1)) rfl
theorem bitio_Writer_Put_snd (h : CtxOK Try.prog C3) : Sound Try.prog 51 bitio_Writer_Put.G := bitio_Writer_Put.sound h rfl (body_LOK (bitio_Writer_Put_lok h))
noncomputable def C4 : Ctx := addF C3 51 bitio_Writer_Put.G
theorem C4_ok : CtxOK Try.prog C4 := C3_ok.add (bitio_Writer_Put_snd C3_ok) Try.f51 rfl (by kernel_rfl) rfl

noncomputable def slices_Clone_byte_byte : CloneK C4 Try.f80 (.int .u8) false 1 where
  R0 := cR0 Try.f80
  A := cA Try.f80
  B := cB Try.f80
  id1 := cId Try.f80
  o0 := (cOps Try.f80).getD 0 default
  o1 := (cOps Try.f80).getD 1 default
  T := 24
  T' := 24
  hbody := rfl
  h0 := rfl
  h1 := ⟨rfl, rfl, rfl⟩
  hT := by kernel_rfl
  hl0 := rfl
  hlA := rfl
  hlB := rfl
  s2 := fun l => ⟨[.v false (.sl (.int .u8)) l, .dead, .sl 96, .v false (.sl (.int .u8)) l, .dead, .dead, .dead, .dead], [(96, .arr true (.int .u8) [])]⟩
  hs2 := fun _ => of_decide_eq_true rfl
  h2 := fun _ _ _ => by kernel_rfl
  ev3 := fun _ => by kernel_rfl
  hA := fun _ _ _ => by kernel_rfl
  hB := fun _ _ _ => by kernel_rfl
theorem slices_Clone_byte_byte_snd (h : CtxOK Try.prog C4) : Sound Try.prog 80 slices_Clone_byte_byte.G := slices_Clone_byte_byte.sound h rfl (by decide)
noncomputable def C5 : Ctx := addF C4 80 slices_Clone_byte_byte.G
theorem C5_ok : CtxOK Try.prog C5 := C4_ok.add (slices_Clone_byte_byte_snd C4_ok) Try.f80 rfl (by kernel_rfl) rfl

def bitio_Writer_Payload_mt : List (Nat × Nat × List Nat) := [(1, 1, [0, 1]), (3, 1, [0, 1]), (5, 1, [0, 1]), (6, 9, [0, 1, 432]), (7, 8, [0, 1, 432]), (999999, 4, [0, 1, 320, 432]), (2000006, 0, [])]
def bitio_Writer_Payload_M : Masks := maskOf bitio_Writer_Payload_mt
noncomputable def bitio_Writer_Payload_LP : Loops := noLoops
theorem bitio_Writer_Payload_lok (_h : CtxOK Try.prog C5) : LOK Try.prog bitio_Writer_Payload_LP (Try.f52.body.getD .skip) := LOK_list (l := []) (by kernel_rfl) trivial
abbrev bitio_Writer_Payload_r0 : List SD × OSh := ([.sl 2], [(0, .box T_bitio_Writer (.ag (.cons (.sl 1) (.cons (.v true (.int .i64)) (.nil))))), (1, .arr true (.int .u8)), (2, .arr true (.int .u8))])
abbrev bitio_Writer_Payload_rs : RSh := [bitio_Writer_Payload_r0]
noncomputable def bitio_Writer_Payload : FnK C5 bitio_Writer_Payload_M bitio_Writer_Payload_LP [none] Try.f52 where
  sh := [.pb 0 []]
  osh := [(0, .box T_bitio_Writer (.ag (.cons (.sl 1) (.cons (.v true (.int .i64)) (.nil))))), (1, .arr true (.int .u8))]
  rs := bitio_Writer_Payload_rs
  X := Int × List Int × List Int
  inX := fun x => (((), ()), (((), (x.1, ())), (x.2.1, (x.2.2, ()))))
  outX := fun y => (y.2.1.2.1, y.2.2.1, y.2.2.2.1)
  go := fun x k => k (mkRes bitio_Writer_Payload_r0.1 ((), ())) (mkOL bitio_Writer_Payload_r0.2 (((), (x.1, ())), (x.2.1, (x.2.2, ()))))
  hgo := fun _ _ _ => rfl
  hio := fun _ => rfl
  pre := fun d o => bitio_Writer_Payload_pre o.1.2.1 o.2.1
  S := fun d o => bitio_Writer_Payload_S o.1.2.1 o.2.1
  F := fun k d o => bitio_Writer_Payload_F (fun v0 v1 v2 => k (v0, v1, v2)) o.1.2.1 o.2.1
  hn := rfl
  hF := fun _ _ _ _ => by kernel_rfl
  hS := fun d o hd ho hp R k => bitio_Writer_Payload_ok o.1.2.1 o.2.1 ho.1.2.1 ho.2.1 hp (fun v0 v1 v2 => k (v0, v1, v2)) (fun z => z = k (bitio_Writer_Payload_S o.1.2.1 o.2.1)) rfl
theorem bitio_Writer_Payload_snd (h : CtxOK Try.prog C5) : Sound Try.prog 52 bitio_Writer_Payload.G := bitio_Writer_Payload.sound h rfl (body_LOK (bitio_Writer_Payload_lok h))
noncomputable def C6 : Ctx := addF C5 52 bitio_Writer_Payload.G
theorem C6_ok : CtxOK Try.prog C6 := C5_ok.add (bitio_Writer_Payload_snd C5_ok) Try.f52 rfl (by kernel_rfl) rfl

def picture_PutHeader_mt : List (Nat × Nat × List Nat) := [(1, 6, [80, 96]), (3, 6, [80, 96]), (4, 22, [80, 96, 256, 257]), (5, 962072674324, [96, 256, 257, 656]), (6, 962072674324, [96, 256, 257, 656]), (7, 962072674388, [96, 160, 256, 257, 656]), (8, 962072674452, [96, 256, 257, 656]), (10, 962072674324, [96, 256, 257, 656]), (11, 20, [96, 256, 257]), (999999, 12, [96, 946]), (1000000, 20, [96, 256, 257])]
def picture_PutHeader_M : Masks := maskOf picture_PutHeader_mt
noncomputable def picture_PutHeader_L5_LP : Loops := noLoops
theorem picture_PutHeader_L5_lok (_h : CtxOK Try.prog C6) : LOK Try.prog picture_PutHeader_L5_LP (getLoop Try.f13 5) := LOK_list (l := []) (by kernel_rfl) trivial
abbrev picture_PutHeader_L5_sh : List SD × OSh := ([.dead, .dead, .pb 96 [], .dead, .pb 256 [], .dead, .dead, .dead, .dead, .dead, .dead, .dead, .dead, .dead, .dead, .dead, .dead, .dead, .dead, .dead, .dead, .dead, .dead, .dead, .dead, .dead, .dead, .dead, .dead, .dead, .dead, .dead, .dead, .dead, .dead, .dead, .dead, .sl 656, .v true (.int .i64), .v true (.int .i64), .dead, .dead, .dead, .dead, .dead, .dead, .dead, .dead, .dead, .dead, .dead, .dead, .dead, .dead, .dead, .dead, .dead], [(96, .box T_api_Unit (.v true T_api_Unit)), (256, .box T_bitio_Writer (.ag (.cons (.sl 257) (.cons (.v true (.int .i64)) (.nil))))), (257, .arr true (.int .u8)), (656, .arr true (.pair (.int .u32) (.pair (.int .i64) .unit)))])
abbrev picture_PutHeader_L5_x0 : List SD × OSh := ([.dead, .dead, .pb 96 [], .v true (.int .i64), .dead, .dead, .dead, .dead, .dead, .dead, .dead, .dead, .dead, .dead, .dead, .dead, .dead, .dead, .dead, .dead, .dead, .dead, .dead, .dead, .dead, .dead, .dead, .dead, .dead, .dead, .dead, .dead, .dead, .dead, .dead, .dead, .dead, .dead, .dead, .dead, .dead, .dead, .dead, .dead, .dead, .dead, .dead, .dead, .dead, .dead, .dead, .dead, .dead, .dead, .dead, .dead, .dead], [(96, .box T_api_Unit (.v true T_api_Unit))])
abbrev picture_PutHeader_L5_x1 : List SD × OSh := ([.dead, .dead, .pb 96 [], .dead, .pb 256 [], .dead, .dead, .dead, .dead, .dead, .dead, .dead, .dead, .dead, .dead, .dead, .dead, .dead, .dead, .dead, .dead, .dead, .dead, .dead, .dead, .dead, .dead, .dead, .dead, .dead, .dead, .dead, .dead, .dead, .dead, .dead, .dead, .dead, .dead, .dead, .dead, .dead, .dead, .dead, .dead, .dead, .dead, .dead, .dead, .dead, .dead, .dead, .dead, .dead, .dead, .dead, .dead], [(96, .box T_api_Unit (.v true T_api_Unit)), (256, .box T_bitio_Writer (.ag (.cons (.sl 257) (.cons (.v true (.int .i64)) (.nil))))), (257, .arr true (.int .u8))])
noncomputable def picture_PutHeader_L5 : LoopK C6 picture_PutHeader_M picture_PutHeader_L5_LP (getLoop Try.f13 5) where
  sh := picture_PutHeader_L5_sh
  X := (Int × D_api_Unit) ⊕ (Int × List Int)
  go := fun d o x k => caseS x (fun a0 => k .ret (mkS picture_PutHeader_L5_x0 ((), ((), ((), (a0.1, ((), ((), ((), ((), ((), ((), ((), ((), ((), ((), ((), ((), ((), ((), ((), ((), ((), ((), ((), ((), ((), ((), ((), ((), ((), ((), ((), ((), ((), ((), ((), ((), ((), ((), ((), ((), ((), ((), ((), ((), ((), ((), ((), ((), ((), ((), ((), ((), ((), ((), ((), ((), ((), ()))))))))))))))))))))))))))))))))))))))))))))))))))))))))) (a0.2, ()))) (fun b0 => k (.exit 0) (mkS picture_PutHeader_L5_x1 ((), ((), ((), ((), ((), ((), ((), ((), ((), ((), ((), ((), ((), ((), ((), ((), ((), ((), ((), ((), ((), ((), ((), ((), ((), ((), ((), ((), ((), ((), ((), ((), ((), ((), ((), ((), ((), ((), ((), ((), ((), ((), ((), ((), ((), ((), ((), ((), ((), ((), ((), ((), ((), ((), ((), ((), ((), ()))))))))))))))))))))))))))))))))))))))))))))))))))))))))) (o.1, (((), (b0.1, ())), (b0.2, ())))))
  pre := fun d o => picture_PutHeader_L5_pre d.2.2.2.2.2.2.2.2.2.2.2.2.2.2.2.2.2.2.2.2.2.2.2.2.2.2.2.2.2.2.2.2.2.2.2.2.2.2.1 o.1 o.2.2.2.1 d.2.2.2.2.2.2.2.2.2.2.2.2.2.2.2.2.2.2.2.2.2.2.2.2.2.2.2.2.2.2.2.2.2.2.2.2.2.2.2.1 o.2.1.2.1 o.2.2.1
  mu := fun d o => picture_PutHeader_L5_mu d.2.2.2.2.2.2.2.2.2.2.2.2.2.2.2.2.2.2.2.2.2.2.2.2.2.2.2.2.2.2.2.2.2.2.2.2.2.2.1 o.1 o.2.2.2.1 d.2.2.2.2.2.2.2.2.2.2.2.2.2.2.2.2.2.2.2.2.2.2.2.2.2.2.2.2.2.2.2.2.2.2.2.2.2.2.2.1 o.2.1.2.1 o.2.2.1
  S := fun d o => picture_PutHeader_L5_S d.2.2.2.2.2.2.2.2.2.2.2.2.2.2.2.2.2.2.2.2.2.2.2.2.2.2.2.2.2.2.2.2.2.2.2.2.2.2.1 o.1 o.2.2.2.1 d.2.2.2.2.2.2.2.2.2.2.2.2.2.2.2.2.2.2.2.2.2.2.2.2.2.2.2.2.2.2.2.2.2.2.2.2.2.2.2.1 o.2.1.2.1 o.2.2.1
  T := fun rec ex d o => picture_PutHeader_L5_T d.2.2.2.2.2.2.2.2.2.2.2.2.2.2.2.2.2.2.2.2.2.2.2.2.2.2.2.2.2.2.2.2.2.2.2.2.2.2.1 o.1 o.2.2.2.1 (fun v0 v1 v2 => rec ((), ((), ((), ((), ((), ((), ((), ((), ((), ((), ((), ((), ((), ((), ((), ((), ((), ((), ((), ((), ((), ((), ((), ((), ((), ((), ((), ((), ((), ((), ((), ((), ((), ((), ((), ((), ((), ((), (d.2.2.2.2.2.2.2.2.2.2.2.2.2.2.2.2.2.2.2.2.2.2.2.2.2.2.2.2.2.2.2.2.2.2.2.2.2.2.1, (v0, ((), ((), ((), ((), ((), ((), ((), ((), ((), ((), ((), ((), ((), ((), ((), ((), ((), ()))))))))))))))))))))))))))))))))))))))))))))))))))))))))) (o.1, (((), (v1, ())), (v2, (o.2.2.2.1, ()))))) (fun e0 e1 => ex (.inl (e0, e1))) (fun e0 e1 => ex (.inr (e0, e1))) d.2.2.2.2.2.2.2.2.2.2.2.2.2.2.2.2.2.2.2.2.2.2.2.2.2.2.2.2.2.2.2.2.2.2.2.2.2.2.2.1 o.2.1.2.1 o.2.2.1
  hn := rfl
  hT := fun _ _ _ _ => by kernel_rfl
  hx := fun d o x => match x with | .inl z => ⟨.ret, _, nofun, fun _ _ => rfl⟩ | .inr z => ⟨(.exit 0), _, nofun, fun _ _ => rfl⟩
  hS := fun d o hd ho hp R rec ex Good hr hx => picture_PutHeader_L5_ok d.2.2.2.2.2.2.2.2.2.2.2.2.2.2.2.2.2.2.2.2.2.2.2.2.2.2.2.2.2.2.2.2.2.2.2.2.2.2.1 o.1 o.2.2.2.1 d.2.2.2.2.2.2.2.2.2.2.2.2.2.2.2.2.2.2.2.2.2.2.2.2.2.2.2.2.2.2.2.2.2.2.2.2.2.2.2.1 o.2.1.2.1 o.2.2.1 hd.2.2.2.2.2.2.2.2.2.2.2.2.2.2.2.2.2.2.2.2.2.2.2.2.2.2.2.2.2.2.2.2.2.2.2.2.2.2.1 hd.2.2.2.2.2.2.2.2.2.2.2.2.2.2.2.2.2.2.2.2.2.2.2.2.2.2.2.2.2.2.2.2.2.2.2.2.2.2.2.1 ho.1 ho.2.1.2.1 ho.2.2.1 ho.2.2.2.1 hp (fun v0 v1 v2 => rec ((), ((), ((), ((), ((), ((), ((), ((), ((), ((), ((), ((), ((), ((), ((), ((), ((), ((), ((), ((), ((), ((), ((), ((), ((), ((), ((), ((), ((), ((), ((), ((), ((), ((), ((), ((), ((), ((), (d.2.2.2.2.2.2.2.2.2.2.2.2.2.2.2.2.2.2.2.2.2.2.2.2.2.2.2.2.2.2.2.2.2.2.2.2.2.2.1, (v0, ((), ((), ((), ((), ((), ((), ((), ((), ((), ((), ((), ((), ((), ((), ((), ((), ((), ()))))))))))))))))))))))))))))))))))))))))))))))))))))))))) (o.1, (((), (v1, ())), (v2, (o.2.2.2.1, ()))))) (fun e0 e1 => ex (.inl (e0, e1))) (fun e0 e1 => ex (.inr (e0, e1))) Good
    (fun v0 v1 v2 h1 h2 h3 => hr ((), ((), ((), ((), ((), ((), ((), ((), ((), ((), ((), ((), ((), ((), ((), ((), ((), ((), ((), ((), ((), ((), ((), ((), ((), ((), ((), ((), ((), ((), ((), ((), ((), ((), ((), ((), ((), ((), (d.2.2.2.2.2.2.2.2.2.2.2.2.2.2.2.2.2.2.2.2.2.2.2.2.2.2.2.2.2.2.2.2.2.2.2.2.2.2.1, (v0, ((), ((), ((), ((), ((), ((), ((), ((), ((), ((), ((), ((), ((), ((), ((), ((), ((), ()))))))))))))))))))))))))))))))))))))))))))))))))))))))))) (o.1, (((), (v1, ())), (v2, (o.2.2.2.1, ())))) (fun _ _ _ => by kernel_rfl) (cast (by kernel_rfl) h1) (cast (by kernel_rfl) h2) (cast (by kernel_rfl) h3))
    (fun e0 e1 he => (show Good (ex (.inl (e0, e1))) from he ▸ hx))
    (fun e0 e1 he => (show Good (ex (.inr (e0, e1))) from he ▸ hx))
theorem picture_PutHeader_L5_snd (h : CtxOK Try.prog C6) : LoopS Try.prog (getLoop Try.f13 5) picture_PutHeader_L5.G := picture_PutHeader_L5.sound h (picture_PutHeader_L5_lok h)
noncomputable def picture_PutHeader_LP : Loops := (addL noLoops 5 picture_PutHeader_L5.G)
theorem picture_PutHeader_lok (h : CtxOK Try.prog C6) : LOK Try.prog picture_PutHeader_LP (Try.f13.body.getD .skip) := LOK_list (l := [(false, getLoop Try.f13 5, picture_PutHeader_L5.G)]) (by kernel_rfl) ⟨picture_PutHeader_L5_snd h, trivial⟩
abbrev picture_PutHeader_r0 : List SD × OSh := ([.v true T_api_Unit, .v true (.int .i64)], [])
abbrev picture_PutHeader_rs : RSh := [picture_PutHeader_r0]
noncomputable def picture_PutHeader : FnK C6 picture_PutHeader_M picture_PutHeader_LP [some T_api_Unit, none] Try.f13 where
  sh := [.v true T_api_Pic]
  osh := []
  rs := picture_PutHeader_rs
  X := D_api_Unit × Int
  inX := fun x => ((x.1, (x.2, ())), ())
  outX := fun y => (y.1.1, y.1.2.1)
  go := fun x k => k (mkRes picture_PutHeader_r0.1 (x.1, (x.2, ()))) (mkOL picture_PutHeader_r0.2 ())
  hgo := fun _ _ _ => rfl
  hio := fun _ => rfl
  pre := fun d o => picture_PutHeader_pre d.1
  S := fun d o => picture_PutHeader_S d.1
  F := fun k d o => picture_PutHeader_F (fun v0 v1 => k (v0, v1)) d.1
  hn := rfl
  hF := fun _ _ _ _ => by kernel_rfl
  hS := fun d o hd ho hp R k => picture_PutHeader_ok d.1 hd.1 hp (fun v0 v1 => k (v0, v1)) (fun z => z = k (picture_PutHeader_S d.1)) rfl
theorem picture_PutHeader_snd (h : CtxOK Try.prog C6) : Sound Try.prog 13 picture_PutHeader.G := picture_PutHeader.sound h rfl (body_LOK (picture_PutHeader_lok h))
noncomputable def C7 : Ctx := addF C6 13 picture_PutHeader.G
theorem C7_ok : CtxOK Try.prog C7 := C6_ok.add (picture_PutHeader_snd C6_ok) Try.f13 rfl (by kernel_rfl) rfl

def cutroomref11_header_mt : List (Nat × Nat × List Nat) := [(1, 2, [80]), (999999, 4, [])]
def cutroomref11_header_M : Masks := maskOf cutroomref11_header_mt
noncomputable def cutroomref11_header_LP : Loops := noLoops
theorem cutroomref11_header_lok (_h : CtxOK Try.prog C7) : LOK Try.prog cutroomref11_header_LP (Try.f53.body.getD .skip) := LOK_list (l := []) (by kernel_rfl) trivial
abbrev cutroomref11_header_r0 : List SD × OSh := ([.v true .bool], [])
abbrev cutroomref11_header_rs : RSh := [cutroomref11_header_r0]
noncomputable def cutroomref11_header : FnK C7 cutroomref11_header_M cutroomref11_header_LP [none] Try.f53 where
  sh := [.v true T_api_Pic]
  osh := []
  rs := cutroomref11_header_rs
  X := Bool
  inX := fun x => ((x, ()), ())
  outX := fun y => y.1.1
  go := fun x k => k (mkRes cutroomref11_header_r0.1 (x, ())) (mkOL cutroomref11_header_r0.2 ())
  hgo := fun _ _ _ => rfl
  hio := fun _ => rfl
  pre := fun d o => cutroomref11_header_pre d.1
  S := fun d o => cutroomref11_header_S d.1
  F := fun k d o => cutroomref11_header_F (fun v0 => k v0) d.1
  hn := rfl
  hF := fun _ _ _ _ => by kernel_rfl
  hS := fun d o hd ho hp R k => cutroomref11_header_ok d.1 hd.1 hp (fun v0 => k v0) (fun z => z = k (cutroomref11_header_S d.1)) rfl
theorem cutroomref11_header_snd (h : CtxOK Try.prog C7) : Sound Try.prog 53 cutroomref11_header.G := cutroomref11_header.sound h rfl (body_LOK (cutroomref11_header_lok h))
noncomputable def C8 : Ctx := addF C7 53 cutroomref11_header.G
theorem C8_ok : CtxOK Try.prog C8 := C7_ok.add (cutroomref11_header_snd C7_ok) Try.f53 rfl (by kernel_rfl) rfl

def cutroomref02_Bits_mt : List (Nat × Nat × List Nat) := [(1, 3, []), (2, 35, [144]), (3, 97, [144]), (4, 97, [144]), (5, 97, [144]), (6, 32, [144]), (999999, 16, [144]), (1000000, 32, [144])]
def cutroomref02_Bits_M : Masks := maskOf cutroomref02_Bits_mt
noncomputable def cutroomref02_Bits_L3_LP : Loops := noLoops
theorem cutroomref02_Bits_L3_lok (_h : CtxOK Try.prog C8) : LOK Try.prog cutroomref02_Bits_L3_LP (getLoop Try.f54 3) := LOK_list (l := []) (by kernel_rfl) trivial
abbrev cutroomref02_Bits_L3_sh : List SD × OSh := ([.v true (.int .u32), .dead, .dead, .dead, .dead, .sl 144, .v true (.int .i64), .dead, .dead, .dead, .dead, .dead, .dead, .dead, .dead, .dead, .dead, .dead, .dead, .dead, .dead, .dead, .dead], [(144, .arr true (.int .u8))])
abbrev cutroomref02_Bits_L3_x0 : List SD × OSh := ([.dead, .dead, .dead, .dead, .dead, .sl 144, .dead, .dead, .dead, .dead, .dead, .dead, .dead, .dead, .dead, .dead, .dead, .dead, .dead, .dead, .dead, .dead, .dead], [(144, .arr true (.int .u8))])
noncomputable def cutroomref02_Bits_L3 : LoopK C8 cutroomref02_Bits_M cutroomref02_Bits_L3_LP (getLoop Try.f54 3) where
  sh := cutroomref02_Bits_L3_sh
  X := List Int
  go := fun d o x k => k (.exit 0) (mkS cutroomref02_Bits_L3_x0 ((), ((), ((), ((), ((), ((), ((), ((), ((), ((), ((), ((), ((), ((), ((), ((), ((), ((), ((), ((), ((), ((), ((), ()))))))))))))))))))))))) (x, ()))
  pre := fun d o => cutroomref02_Bits_L3_pre d.1 d.2.2.2.2.2.2.1 o.1
  mu := fun d o => cutroomref02_Bits_L3_mu d.1 d.2.2.2.2.2.2.1 o.1
  S := fun d o => cutroomref02_Bits_L3_S d.1 d.2.2.2.2.2.2.1 o.1
  T := fun rec ex d o => cutroomref02_Bits_L3_T d.1 (fun v0 v1 => rec (d.1, ((), ((), ((), ((), ((), (v0, ((), ((), ((), ((), ((), ((), ((), ((), ((), ((), ((), ((), ((), ((), ((), ((), ()))))))))))))))))))))))) (v1, ())) (fun e0 => ex e0) d.2.2.2.2.2.2.1 o.1
  hn := rfl
  hT := fun _ _ _ _ => by kernel_rfl
  hx := fun d o x => ⟨(.exit 0), _, nofun, fun _ _ => rfl⟩
  hS := fun d o hd ho hp R rec ex Good hr hx => cutroomref02_Bits_L3_ok d.1 d.2.2.2.2.2.2.1 o.1 hd.1 hd.2.2.2.2.2.2.1 ho.1 hp (fun v0 v1 => rec (d.1, ((), ((), ((), ((), ((), (v0, ((), ((), ((), ((), ((), ((), ((), ((), ((), ((), ((), ((), ((), ((), ((), ((), ()))))))))))))))))))))))) (v1, ())) (fun e0 => ex e0) Good
    (fun v0 v1 h1 h2 h3 => hr (d.1, ((), ((), ((), ((), ((), (v0, ((), ((), ((), ((), ((), ((), ((), ((), ((), ((), ((), ((), ((), ((), ((), ((), ()))))))))))))))))))))))) (v1, ()) (fun _ _ _ => by kernel_rfl) (cast (by kernel_rfl) h1) (cast (by kernel_rfl) h2) (cast (by kernel_rfl) h3))
    (fun e0 he => (show Good (ex e0) from he ▸ hx))
theorem cutroomref02_Bits_L3_snd (h : CtxOK Try.prog C8) : LoopS Try.prog (getLoop Try.f54 3) cutroomref02_Bits_L3.G := cutroomref02_Bits_L3.sound h (cutroomref02_Bits_L3_lok h)
noncomputable def cutroomref02_Bits_LP : Loops := (addL noLoops 3 cutroomref02_Bits_L3.G)
theorem cutroomref02_Bits_lok (h : CtxOK Try.prog C8) : LOK Try.prog cutroomref02_Bits_LP (Try.f54.body.getD .skip) := LOK_list (l := [(false, getLoop Try.f54 3, cutroomref02_Bits_L3.G)]) (by kernel_rfl) ⟨cutroomref02_Bits_L3_snd h, trivial⟩
abbrev cutroomref02_Bits_r0 : List SD × OSh := ([.sl 0], [(0, .arr true (.int .u8))])
abbrev cutroomref02_Bits_rs : RSh := [cutroomref02_Bits_r0]
noncomputable def cutroomref02_Bits : FnK C8 cutroomref02_Bits_M cutroomref02_Bits_LP [none] Try.f54 where
  sh := [.v true (.int .u32), .v true (.int .i64)]
  osh := []
  rs := cutroomref02_Bits_rs
  X := List Int
  inX := fun x => (((), ()), (x, ()))
  outX := fun y => y.2.1
  go := fun x k => k (mkRes cutroomref02_Bits_r0.1 ((), ())) (mkOL cutroomref02_Bits_r0.2 (x, ()))
  hgo := fun _ _ _ => rfl
  hio := fun _ => rfl
  pre := fun d o => cutroomref02_Bits_pre d.1 d.2.1
  S := fun d o => cutroomref02_Bits_S d.1 d.2.1
  F := fun k d o => cutroomref02_Bits_F (fun v0 => k v0) d.1 d.2.1
  hn := rfl
  hF := fun _ _ _ _ => by kernel_rfl
  hS := fun d o hd ho hp R k => cutroomref02_Bits_ok d.1 d.2.1 hd.1 hd.2.1 hp (fun v0 => k v0) (fun z => z = k (cutroomref02_Bits_S d.1 d.2.1)) rfl
theorem cutroomref02_Bits_snd (h : CtxOK Try.prog C8) : Sound Try.prog 54 cutroomref02_Bits.G := cutroomref02_Bits.sound h rfl (body_LOK (cutroomref02_Bits_lok h))
noncomputable def C9 : Ctx := addF C8 54 cutroomref02_Bits.G
theorem C9_ok : CtxOK Try.prog C9 := C8_ok.add (cutroomref02_Bits_snd C8_ok) Try.f54 rfl (by kernel_rfl) rfl

def cutroomref11_bit_mt : List (Nat × Nat × List Nat) := [(1, 1, []), (3, 0, []), (999999, 4, [])]
def cutroomref11_bit_M : Masks := maskOf cutroomref11_bit_mt
noncomputable def cutroomref11_bit_LP : Loops := noLoops
theorem cutroomref11_bit_lok (_h : CtxOK Try.prog C9) : LOK Try.prog cutroomref11_bit_LP (Try.f55.body.getD .skip) := LOK_list (l := []) (by kernel_rfl) trivial
abbrev cutroomref11_bit_r0 : List SD × OSh := ([.v true (.int .u32)], [])
abbrev cutroomref11_bit_rs : RSh := [cutroomref11_bit_r0]
noncomputable def cutroomref11_bit : FnK C9 cutroomref11_bit_M cutroomref11_bit_LP [none] Try.f55 where
  sh := [.v true .bool]
  osh := []
  rs := cutroomref11_bit_rs
  X := Int
  inX := fun x => ((x, ()), ())
  outX := fun y => y.1.1
  go := fun x k => k (mkRes cutroomref11_bit_r0.1 (x, ())) (mkOL cutroomref11_bit_r0.2 ())
  hgo := fun _ _ _ => rfl
  hio := fun _ => rfl
  pre := fun d o => cutroomref11_bit_pre d.1
  S := fun d o => cutroomref11_bit_S d.1
  F := fun k d o => cutroomref11_bit_F (fun v0 => k v0) d.1
  hn := rfl
  hF := fun _ _ _ _ => by kernel_rfl
  hS := fun d o hd ho hp R k => cutroomref11_bit_ok d.1 hd.1 hp (fun v0 => k v0) (fun z => z = k (cutroomref11_bit_S d.1)) rfl
theorem cutroomref11_bit_snd (h : CtxOK Try.prog C9) : Sound Try.prog 55 cutroomref11_bit.G := cutroomref11_bit.sound h rfl (body_LOK (cutroomref11_bit_lok h))
noncomputable def C10 : Ctx := addF C9 55 cutroomref11_bit.G
theorem C10_ok : CtxOK Try.prog C10 := C9_ok.add (cutroomref11_bit_snd C9_ok) Try.f55 rfl (by kernel_rfl) rfl

def cutroomref02_Payload_mt : List (Nat × Nat × List Nat) := [(1, 1, []), (2, 9, [208]), (3, 25, [208]), (4, 25, [208]), (5, 25, [208]), (7, 8, [208]), (999999, 4, [208]), (1000000, 8, [208])]
def cutroomref02_Payload_M : Masks := maskOf cutroomref02_Payload_mt
noncomputable def cutroomref02_Payload_L3_LP : Loops := noLoops
theorem cutroomref02_Payload_L3_lok (_h : CtxOK Try.prog C10) : LOK Try.prog cutroomref02_Payload_L3_LP (getLoop Try.f56 3) := LOK_list (l := []) (by kernel_rfl) trivial
abbrev cutroomref02_Payload_L3_sh : List SD × OSh := ([.v false (.sl (.int .u8)), .dead, .dead, .sl 208, .v true (.int .i64), .dead, .dead, .dead, .dead, .dead, .dead, .dead, .dead, .dead, .dead, .dead, .dead, .dead, .dead, .dead, .dead, .dead, .dead, .dead, .dead, .dead, .dead, .dead, .dead, .dead, .dead, .dead, .dead, .dead, .dead, .dead, .dead, .dead, .dead], [(208, .arr true (.int .u8))])
abbrev cutroomref02_Payload_L3_x0 : List SD × OSh := ([.dead, .dead, .dead, .sl 208, .dead, .dead, .dead, .dead, .dead, .dead, .dead, .dead, .dead, .dead, .dead, .dead, .dead, .dead, .dead, .dead, .dead, .dead, .dead, .dead, .dead, .dead, .dead, .dead, .dead, .dead, .dead, .dead, .dead, .dead, .dead, .dead, .dead, .dead, .dead], [(208, .arr true (.int .u8))])
noncomputable def cutroomref02_Payload_L3 : LoopK C10 cutroomref02_Payload_M cutroomref02_Payload_L3_LP (getLoop Try.f56 3) where
  sh := cutroomref02_Payload_L3_sh
  X := List Int
  go := fun d o x k => k (.exit 0) (mkS cutroomref02_Payload_L3_x0 ((), ((), ((), ((), ((), ((), ((), ((), ((), ((), ((), ((), ((), ((), ((), ((), ((), ((), ((), ((), ((), ((), ((), ((), ((), ((), ((), ((), ((), ((), ((), ((), ((), ((), ((), ((), ((), ((), ((), ()))))))))))))))))))))))))))))))))))))))) (x, ()))
  pre := fun d o => cutroomref02_Payload_L3_pre d.1 d.2.2.2.2.1 o.1
  mu := fun d o => cutroomref02_Payload_L3_mu d.1 d.2.2.2.2.1 o.1
  S := fun d o => cutroomref02_Payload_L3_S d.1 d.2.2.2.2.1 o.1
  T := fun rec ex d o => cutroomref02_Payload_L3_T d.1 (fun v0 v1 => rec (d.1, ((), ((), ((), (v0, ((), ((), ((), ((), ((), ((), ((), ((), ((), ((), ((), ((), ((), ((), ((), ((), ((), ((), ((), ((), ((), ((), ((), ((), ((), ((), ((), ((), ((), ((), ((), ((), ((), ((), ()))))))))))))))))))))))))))))))))))))))) (v1, ())) (fun e0 => ex e0) d.2.2.2.2.1 o.1
  hn := rfl
  hT := fun _ _ _ _ => by kernel_rfl
  hx := fun d o x => ⟨(.exit 0), _, nofun, fun _ _ => rfl⟩
  hS := fun d o hd ho hp R rec ex Good hr hx => cutroomref02_Payload_L3_ok d.1 d.2.2.2.2.1 o.1 hd.1 hd.2.2.2.2.1 ho.1 hp (fun v0 v1 => rec (d.1, ((), ((), ((), (v0, ((), ((), ((), ((), ((), ((), ((), ((), ((), ((), ((), ((), ((), ((), ((), ((), ((), ((), ((), ((), ((), ((), ((), ((), ((), ((), ((), ((), ((), ((), ((), ((), ((), ((), ()))))))))))))))))))))))))))))))))))))))) (v1, ())) (fun e0 => ex e0) Good
    (fun v0 v1 h1 h2 h3 => hr (d.1, ((), ((), ((), (v0, ((), ((), ((), ((), ((), ((), ((), ((), ((), ((), ((), ((), ((), ((), ((), ((), ((), ((), ((), ((), ((), ((), ((), ((), ((), ((), ((), ((), ((), ((), ((), ((), ((), ((), ()))))))))))))))))))))))))))))))))))))))) (v1, ()) (fun _ _ _ => by kernel_rfl) (cast (by kernel_rfl) h1) (cast (by kernel_rfl) h2) (cast (by kernel_rfl) h3))
    (fun e0 he => (show Good (ex e0) from he ▸ hx))
theorem cutroomref02_Payload_L3_snd (h : CtxOK Try.prog C10) : LoopS Try.prog (getLoop Try.f56 3) cutroomref02_Payload_L3.G := cutroomref02_Payload_L3.sound h (cutroomref02_Payload_L3_lok h)
noncomputable def cutroomref02_Payload_LP : Loops := (addL noLoops 3 cutroomref02_Payload_L3.G)
theorem cutroomref02_Payload_lok (h : CtxOK Try.prog C10) : LOK Try.prog cutroomref02_Payload_LP (Try.f56.body.getD .skip) := LOK_list (l := [(false, getLoop Try.f56 3, cutroomref02_Payload_L3.G)]) (by kernel_rfl) ⟨cutroomref02_Payload_L3_snd h, trivial⟩
abbrev cutroomref02_Payload_r0 : List SD × OSh := ([.sl 0], [(0, .arr true (.int .u8))])
abbrev cutroomref02_Payload_rs : RSh := [cutroomref02_Payload_r0]
noncomputable def cutroomref02_Payload : FnK C10 cutroomref02_Payload_M cutroomref02_Payload_LP [none] Try.f56 where
  sh := [.v false (.sl (.int .u8))]
  osh := []
  rs := cutroomref02_Payload_rs
  X := List Int
  inX := fun x => (((), ()), (x, ()))
  outX := fun y => y.2.1
  go := fun x k => k (mkRes cutroomref02_Payload_r0.1 ((), ())) (mkOL cutroomref02_Payload_r0.2 (x, ()))
  hgo := fun _ _ _ => rfl
  hio := fun _ => rfl
  pre := fun d o => cutroomref02_Payload_pre d.1
  S := fun d o => cutroomref02_Payload_S d.1
  F := fun k d o => cutroomref02_Payload_F (fun v0 => k v0) d.1
  hn := rfl
  hF := fun _ _ _ _ => by kernel_rfl
  hS := fun d o hd ho hp R k => cutroomref02_Payload_ok d.1 hd.1 hp (fun v0 => k v0) (fun z => z = k (cutroomref02_Payload_S d.1)) rfl
theorem cutroomref02_Payload_snd (h : CtxOK Try.prog C10) : Sound Try.prog 56 cutroomref02_Payload.G := cutroomref02_Payload.sound h rfl (body_LOK (cutroomref02_Payload_lok h))
noncomputable def C11 : Ctx := addF C10 56 cutroomref02_Payload.G
theorem C11_ok : CtxOK Try.prog C11 := C10_ok.add (cutroomref02_Payload_snd C10_ok) Try.f56 rfl (by kernel_rfl) rfl

def cutroomref11_PutHeader_mt : List (Nat × Nat × List Nat) := [(1, 6, [80, 96]), (3, 6, [80, 96]), (4, 22, [80, 96, 256]), (5, 22, [80, 96, 256]), (6, 22, [80, 96, 256]), (7, 20, [96, 256]), (999999, 12, [96, 720]), (2000006, 0, [])]
def cutroomref11_PutHeader_M : Masks := maskOf cutroomref11_PutHeader_mt
noncomputable def cutroomref11_PutHeader_LP : Loops := noLoops
theorem cutroomref11_PutHeader_lok (_h : CtxOK Try.prog C11) : LOK Try.prog cutroomref11_PutHeader_LP (Try.f14.body.getD .skip) := LOK_list (l := []) (by kernel_rfl) trivial
abbrev cutroomref11_PutHeader_r0 : List SD × OSh := ([.v true T_api_Unit, .v true (.int .i64)], [])
abbrev cutroomref11_PutHeader_rs : RSh := [cutroomref11_PutHeader_r0]
noncomputable def cutroomref11_PutHeader : FnK C11 cutroomref11_PutHeader_M cutroomref11_PutHeader_LP [some T_api_Unit, none] Try.f14 where
  sh := [.v true T_api_Pic]
  osh := []
  rs := cutroomref11_PutHeader_rs
  X := D_api_Unit × Int
  inX := fun x => ((x.1, (x.2, ())), ())
  outX := fun y => (y.1.1, y.1.2.1)
  go := fun x k => k (mkRes cutroomref11_PutHeader_r0.1 (x.1, (x.2, ()))) (mkOL cutroomref11_PutHeader_r0.2 ())
  hgo := fun _ _ _ => rfl
  hio := fun _ => rfl
  pre := fun d o => cutroomref11_PutHeader_pre d.1
  S := fun d o => cutroomref11_PutHeader_S d.1
  F := fun k d o => cutroomref11_PutHeader_F (fun v0 v1 => k (v0, v1)) d.1
  hn := rfl
  hF := fun _ _ _ _ => by kernel_rfl
  hS := fun d o hd ho hp R k => cutroomref11_PutHeader_ok d.1 hd.1 hp (fun v0 v1 => k (v0, v1)) (fun z => z = k (cutroomref11_PutHeader_S d.1)) rfl
theorem cutroomref11_PutHeader_snd (h : CtxOK Try.prog C11) : Sound Try.prog 14 cutroomref11_PutHeader.G := cutroomref11_PutHeader.sound h rfl (body_LOK (cutroomref11_PutHeader_lok h))
noncomputable def C12 : Ctx := addF C11 14 cutroomref11_PutHeader.G
theorem C12_ok : CtxOK Try.prog C12 := C11_ok.add (cutroomref11_PutHeader_snd C11_ok) Try.f14 rfl (by kernel_rfl) rfl

def cutroomref02_SameBytes_mt : List (Nat × Nat × List Nat) := [(1, 3, []), (999999, 16, [])]
def cutroomref02_SameBytes_M : Masks := maskOf cutroomref02_SameBytes_mt
noncomputable def cutroomref02_SameBytes_LP : Loops := noLoops
theorem cutroomref02_SameBytes_lok (_h : CtxOK Try.prog C12) : LOK Try.prog cutroomref02_SameBytes_LP (Try.f57.body.getD .skip) := LOK_list (l := []) (by kernel_rfl) trivial
abbrev cutroomref02_SameBytes_r0 : List SD × OSh := ([.v true .bool], [])
abbrev cutroomref02_SameBytes_rs : RSh := [cutroomref02_SameBytes_r0]
noncomputable def cutroomref02_SameBytes : FnK C12 cutroomref02_SameBytes_M cutroomref02_SameBytes_LP [none] Try.f57 where
  sh := [.v false (.sl (.int .u8)), .v false (.sl (.int .u8))]
  osh := []
  rs := cutroomref02_SameBytes_rs
  X := Bool
  inX := fun x => ((x, ()), ())
  outX := fun y => y.1.1
  go := fun x k => k (mkRes cutroomref02_SameBytes_r0.1 (x, ())) (mkOL cutroomref02_SameBytes_r0.2 ())
  hgo := fun _ _ _ => rfl
  hio := fun _ => rfl
  pre := fun d o => cutroomref02_SameBytes_pre d.1 d.2.1
  S := fun d o => cutroomref02_SameBytes_S d.1 d.2.1
  F := fun k d o => cutroomref02_SameBytes_F (fun v0 => k v0) d.1 d.2.1
  hn := rfl
  hF := fun _ _ _ _ => by kernel_rfl
  hS := fun d o hd ho hp R k => cutroomref02_SameBytes_ok d.1 d.2.1 hd.1 hd.2.1 hp (fun v0 => k v0) (fun z => z = k (cutroomref02_SameBytes_S d.1 d.2.1)) rfl
theorem cutroomref02_SameBytes_snd (h : CtxOK Try.prog C12) : Sound Try.prog 57 cutroomref02_SameBytes.G := cutroomref02_SameBytes.sound h rfl (body_LOK (cutroomref02_SameBytes_lok h))
noncomputable def C13 : Ctx := addF C12 57 cutroomref02_SameBytes.G
theorem C13_ok : CtxOK Try.prog C13 := C12_ok.add (cutroomref02_SameBytes_snd C12_ok) Try.f57 rfl (by kernel_rfl) rfl

def cutroomref03_SameUnit_mt : List (Nat × Nat × List Nat) := [(1, 12, [96, 112]), (999999, 16, [])]
def cutroomref03_SameUnit_M : Masks := maskOf cutroomref03_SameUnit_mt
noncomputable def cutroomref03_SameUnit_LP : Loops := noLoops
theorem cutroomref03_SameUnit_lok (_h : CtxOK Try.prog C13) : LOK Try.prog cutroomref03_SameUnit_LP (Try.f15.body.getD .skip) := LOK_list (l := []) (by kernel_rfl) trivial
abbrev cutroomref03_SameUnit_r0 : List SD × OSh := ([.v true .bool], [])
abbrev cutroomref03_SameUnit_rs : RSh := [cutroomref03_SameUnit_r0]
noncomputable def cutroomref03_SameUnit : FnK C13 cutroomref03_SameUnit_M cutroomref03_SameUnit_LP [none] Try.f15 where
  sh := [.v false T_api_Unit, .v false T_api_Unit]
  osh := []
  rs := cutroomref03_SameUnit_rs
  X := Bool
  inX := fun x => ((x, ()), ())
  outX := fun y => y.1.1
  go := fun x k => k (mkRes cutroomref03_SameUnit_r0.1 (x, ())) (mkOL cutroomref03_SameUnit_r0.2 ())
  hgo := fun _ _ _ => rfl
  hio := fun _ => rfl
  pre := fun d o => cutroomref03_SameUnit_pre d.1 d.2.1
  S := fun d o => cutroomref03_SameUnit_S d.1 d.2.1
  F := fun k d o => cutroomref03_SameUnit_F (fun v0 => k v0) d.1 d.2.1
  hn := rfl
  hF := fun _ _ _ _ => by kernel_rfl
  hS := fun d o hd ho hp R k => cutroomref03_SameUnit_ok d.1 d.2.1 hd.1 hd.2.1 hp (fun v0 => k v0) (fun z => z = k (cutroomref03_SameUnit_S d.1 d.2.1)) rfl
theorem cutroomref03_SameUnit_snd (h : CtxOK Try.prog C13) : Sound Try.prog 15 cutroomref03_SameUnit.G := cutroomref03_SameUnit.sound h rfl (body_LOK (cutroomref03_SameUnit_lok h))
noncomputable def C14 : Ctx := addF C13 15 cutroomref03_SameUnit.G
theorem C14_ok : CtxOK Try.prog C14 := C13_ok.add (cutroomref03_SameUnit_snd C13_ok) Try.f15 rfl (by kernel_rfl) rfl

def bitio_NewReader_mt : List (Nat × Nat × List Nat) := [(1, 1, []), (2, 17, []), (4, 17, []), (5, 49, []), (6, 97, []), (7, 97, []), (8, 97, []), (9, 33, []), (999999, 12, [624, 672]), (1000000, 33, [])]
def bitio_NewReader_M : Masks := maskOf bitio_NewReader_mt
noncomputable def bitio_NewReader_L6_LP : Loops := noLoops
theorem bitio_NewReader_L6_lok (_h : CtxOK Try.prog C14) : LOK Try.prog bitio_NewReader_L6_LP (getLoop Try.f58 6) := LOK_list (l := []) (by kernel_rfl) trivial
abbrev bitio_NewReader_L6_sh : List SD × OSh := ([.v false (.sl (.int .u8)), .dead, .dead, .dead, .dead, .v true (.int .i64), .v true (.int .u8), .dead, .dead, .dead, .dead, .dead, .dead, .dead, .dead, .dead, .dead, .dead, .dead, .dead, .dead, .dead, .dead, .dead, .dead, .dead, .dead, .dead, .dead, .dead, .dead, .dead, .dead, .dead, .dead, .dead, .dead, .dead, .dead], [])
abbrev bitio_NewReader_L6_x0 : List SD × OSh := ([.v false (.sl (.int .u8)), .dead, .dead, .dead, .dead, .v true (.int .i64), .dead, .dead, .dead, .dead, .dead, .dead, .dead, .dead, .dead, .dead, .dead, .dead, .dead, .dead, .dead, .dead, .dead, .dead, .dead, .dead, .dead, .dead, .dead, .dead, .dead, .dead, .dead, .dead, .dead, .dead, .dead, .dead, .dead], [])
noncomputable def bitio_NewReader_L6 : LoopK C14 bitio_NewReader_M bitio_NewReader_L6_LP (getLoop Try.f58 6) where
  sh := bitio_NewReader_L6_sh
  X := Int
  go := fun d o x k => k (.exit 0) (mkS bitio_NewReader_L6_x0 (d.1, ((), ((), ((), ((), (x, ((), ((), ((), ((), ((), ((), ((), ((), ((), ((), ((), ((), ((), ((), ((), ((), ((), ((), ((), ((), ((), ((), ((), ((), ((), ((), ((), ((), ((), ((), ((), ((), ((), ()))))))))))))))))))))))))))))))))))))))) ())
  pre := fun d o => bitio_NewReader_L6_pre d.1 d.2.2.2.2.2.1 d.2.2.2.2.2.2.1
  mu := fun d o => bitio_NewReader_L6_mu d.1 d.2.2.2.2.2.1 d.2.2.2.2.2.2.1
  S := fun d o => bitio_NewReader_L6_S d.1 d.2.2.2.2.2.1 d.2.2.2.2.2.2.1
  T := fun rec ex d o => bitio_NewReader_L6_T d.1 (fun v0 v1 => rec (d.1, ((), ((), ((), ((), (v0, (v1, ((), ((), ((), ((), ((), ((), ((), ((), ((), ((), ((), ((), ((), ((), ((), ((), ((), ((), ((), ((), ((), ((), ((), ((), ((), ((), ((), ((), ((), ((), ((), ((), ()))))))))))))))))))))))))))))))))))))))) ()) (fun e0 => ex e0) d.2.2.2.2.2.1 d.2.2.2.2.2.2.1
  hn := rfl
  hT := fun _ _ _ _ => by kernel_rfl
  hx := fun d o x => ⟨(.exit 0), _, nofun, fun _ _ => rfl⟩
  hS := fun d o hd ho hp R rec ex Good hr hx => bitio_NewReader_L6_ok d.1 d.2.2.2.2.2.1 d.2.2.2.2.2.2.1 hd.1 hd.2.2.2.2.2.1 hd.2.2.2.2.2.2.1 hp (fun v0 v1 => rec (d.1, ((), ((), ((), ((), (v0, (v1, ((), ((), ((), ((), ((), ((), ((), ((), ((), ((), ((), ((), ((), ((), ((), ((), ((), ((), ((), ((), ((), ((), ((), ((), ((), ((), ((), ((), ((), ((), ((), ((), ()))))))))))))))))))))))))))))))))))))))) ()) (fun e0 => ex e0) Good
    (fun v0 v1 h1 h2 h3 => hr (d.1, ((), ((), ((), ((), (v0, (v1, ((), ((), ((), ((), ((), ((), ((), ((), ((), ((), ((), ((), ((), ((), ((), ((), ((), ((), ((), ((), ((), ((), ((), ((), ((), ((), ((), ((), ((), ((), ((), ((), ()))))))))))))))))))))))))))))))))))))))) () (fun _ _ _ => by kernel_rfl) (cast (by kernel_rfl) h1) (cast (by kernel_rfl) h2) (cast (by kernel_rfl) h3))
    (fun e0 he => (show Good (ex e0) from he ▸ hx))
theorem bitio_NewReader_L6_snd (h : CtxOK Try.prog C14) : LoopS Try.prog (getLoop Try.f58 6) bitio_NewReader_L6.G := bitio_NewReader_L6.sound h (bitio_NewReader_L6_lok h)
noncomputable def bitio_NewReader_LP : Loops := (addL noLoops 6 bitio_NewReader_L6.G)
theorem bitio_NewReader_lok (h : CtxOK Try.prog C14) : LOK Try.prog bitio_NewReader_LP (Try.f58.body.getD .skip) := LOK_list (l := [(false, getLoop Try.f58 6, bitio_NewReader_L6.G)]) (by kernel_rfl) ⟨bitio_NewReader_L6_snd h, trivial⟩
abbrev bitio_NewReader_r0 : List SD × OSh := ([.nl .ptr, .ci .i64 3], [])
abbrev bitio_NewReader_r1 : List SD × OSh := ([.pb 0 [], .ci .i64 0], [(0, .box T_bitio_Reader (.ag (.cons (.sl 1) (.cons (.v true (.int .i64)) (.cons (.v true (.int .i64)) (.nil)))))), (1, .arr true (.int .u8))])
abbrev bitio_NewReader_rs : RSh := [bitio_NewReader_r0, bitio_NewReader_r1]
noncomputable def bitio_NewReader : FnK C14 bitio_NewReader_M bitio_NewReader_LP [none, none] Try.f58 where
  sh := [.v false (.sl (.int .u8))]
  osh := []
  rs := bitio_NewReader_rs
  X := (Unit) ⊕ (Int × Int × List Int)
  inX := fun x => caseS x (fun a0 => (.inl (((), ((), ())), ()))) (fun b0 => (.inr (((), ((), ())), (((), (b0.1, (b0.2.1, ()))), (b0.2.2, ())))))
  outX := fun y => caseS y (fun a0 => (.inl ())) (fun b0 => (.inr (b0.2.1.2.1, b0.2.1.2.2.1, b0.2.2.1)))
  go := fun x k => caseS x (fun a0 => k (mkRes bitio_NewReader_r0.1 ((), ((), ()))) (mkOL bitio_NewReader_r0.2 ())) (fun b0 => k (mkRes bitio_NewReader_r1.1 ((), ((), ()))) (mkOL bitio_NewReader_r1.2 (((), (b0.1, (b0.2.1, ()))), (b0.2.2, ()))))
  hgo := fun _ x _ => match x with | .inl _ => rfl | .inr _ => rfl
  hio := fun y => match y with | .inl _ => rfl | .inr _ => rfl
  pre := fun d o => bitio_NewReader_pre d.1
  S := fun d o => bitio_NewReader_S d.1
  F := fun k d o => bitio_NewReader_F (fun _ => k (.inl ())) (fun v0 v1 v2 => k (.inr (v0, v1, v2))) d.1
  hn := rfl
  hF := fun _ _ _ _ => by kernel_rfl
  hS := fun d o hd ho hp R k => bitio_NewReader_ok d.1 hd.1 hp (fun _ => k (.inl ())) (fun v0 v1 v2 => k (.inr (v0, v1, v2))) (fun z => z = k (bitio_NewReader_S d.1))  (fun he => (congrArg k he).symm) (fun y0 y1 y2 he => (congrArg k he).symm)
theorem bitio_NewReader_snd (h : CtxOK Try.prog C14) : Sound Try.prog 58 bitio_NewReader.G := bitio_NewReader.sound h rfl (body_LOK (bitio_NewReader_lok h))
noncomputable def C15 : Ctx := addF C14 58 bitio_NewReader.G
theorem C15_ok : CtxOK Try.prog C15 := C14_ok.add (bitio_NewReader_snd C14_ok) Try.f58 rfl (by kernel_rfl) rfl

def bitio_Reader_Take_mt : List (Nat × Nat × List Nat) := [(1, 3, [0, 1]), (5, 3, [0, 1]), (6, 67, [0, 1]), (7, 6442451009, [0, 1]), (8, 6442451009, [0, 1]), (9, 6442451137, [0, 1]), (10, 6442451009, [0, 1]), (11, 6442451009, [0, 1]), (12, 64, [0, 1]), (999999, 48, [0, 1]), (1000001, 64, [0, 1])]
def bitio_Reader_Take_M : Masks := maskOf bitio_Reader_Take_mt
noncomputable def bitio_Reader_Take_L7_LP : Loops := noLoops
theorem bitio_Reader_Take_L7_lok (_h : CtxOK Try.prog C15) : LOK Try.prog bitio_Reader_Take_L7_LP (getLoop Try.f60 7) := LOK_list (l := []) (by kernel_rfl) trivial
abbrev bitio_Reader_Take_L7_sh : List SD × OSh := ([.pb 0 [], .dead, .dead, .dead, .dead, .dead, .v true (.int .u32), .dead, .dead, .dead, .dead, .dead, .dead, .dead, .dead, .dead, .dead, .dead, .dead, .dead, .dead, .dead, .dead, .dead, .dead, .dead, .dead, .dead, .dead, .dead, .dead, .v true (.int .i64), .v true (.int .i64), .dead, .dead, .dead, .dead, .dead, .dead, .dead, .dead, .dead, .dead, .dead, .dead, .dead, .dead, .dead, .dead, .dead, .dead, .dead, .dead, .dead, .dead, .dead, .dead, .dead, .dead, .dead, .dead, .dead, .dead, .dead, .dead, .dead, .dead], [(0, .box T_bitio_Reader (.ag (.cons (.sl 1) (.cons (.v true (.int .i64)) (.cons (.v true (.int .i64)) (.nil)))))), (1, .arr true (.int .u8))])
abbrev bitio_Reader_Take_L7_x0 : List SD × OSh := ([.dead, .dead, .dead, .dead, .dead, .dead, .v true (.int .u32), .dead, .dead, .dead, .dead, .dead, .dead, .dead, .dead, .dead, .dead, .dead, .dead, .dead, .dead, .dead, .dead, .dead, .dead, .dead, .dead, .dead, .dead, .dead, .dead, .dead, .dead, .dead, .dead, .dead, .dead, .dead, .dead, .dead, .dead, .dead, .dead, .dead, .dead, .dead, .dead, .dead, .dead, .dead, .dead, .dead, .dead, .dead, .dead, .dead, .dead, .dead, .dead, .dead, .dead, .dead, .dead, .dead, .dead, .dead, .dead], [(0, .box T_bitio_Reader (.ag (.cons (.sl 1) (.cons (.v true (.int .i64)) (.cons (.v true (.int .i64)) (.nil)))))), (1, .arr true (.int .u8))])
noncomputable def bitio_Reader_Take_L7 : LoopK C15 bitio_Reader_Take_M bitio_Reader_Take_L7_LP (getLoop Try.f60 7) where
  sh := bitio_Reader_Take_L7_sh
  X := Int × Int
  go := fun d o x k => k (.exit 1) (mkS bitio_Reader_Take_L7_x0 ((), ((), ((), ((), ((), ((), (x.1, ((), ((), ((), ((), ((), ((), ((), ((), ((), ((), ((), ((), ((), ((), ((), ((), ((), ((), ((), ((), ((), ((), ((), ((), ((), ((), ((), ((), ((), ((), ((), ((), ((), ((), ((), ((), ((), ((), ((), ((), ((), ((), ((), ((), ((), ((), ((), ((), ((), ((), ((), ((), ((), ((), ((), ((), ((), ((), ((), ((), ()))))))))))))))))))))))))))))))))))))))))))))))))))))))))))))))))))) (((), (x.2, (o.1.2.2.1, ()))), (o.2.1, ())))
  pre := fun d o => bitio_Reader_Take_L7_pre d.2.2.2.2.2.2.2.2.2.2.2.2.2.2.2.2.2.2.2.2.2.2.2.2.2.2.2.2.2.2.2.1 o.1.2.2.1 o.2.1 d.2.2.2.2.2.2.1 d.2.2.2.2.2.2.2.2.2.2.2.2.2.2.2.2.2.2.2.2.2.2.2.2.2.2.2.2.2.2.2.2.1 o.1.2.1
  mu := fun d o => bitio_Reader_Take_L7_mu d.2.2.2.2.2.2.2.2.2.2.2.2.2.2.2.2.2.2.2.2.2.2.2.2.2.2.2.2.2.2.2.1 o.1.2.2.1 o.2.1 d.2.2.2.2.2.2.1 d.2.2.2.2.2.2.2.2.2.2.2.2.2.2.2.2.2.2.2.2.2.2.2.2.2.2.2.2.2.2.2.2.1 o.1.2.1
  S := fun d o => bitio_Reader_Take_L7_S d.2.2.2.2.2.2.2.2.2.2.2.2.2.2.2.2.2.2.2.2.2.2.2.2.2.2.2.2.2.2.2.1 o.1.2.2.1 o.2.1 d.2.2.2.2.2.2.1 d.2.2.2.2.2.2.2.2.2.2.2.2.2.2.2.2.2.2.2.2.2.2.2.2.2.2.2.2.2.2.2.2.1 o.1.2.1
  T := fun rec ex d o => bitio_Reader_Take_L7_T d.2.2.2.2.2.2.2.2.2.2.2.2.2.2.2.2.2.2.2.2.2.2.2.2.2.2.2.2.2.2.2.1 o.1.2.2.1 o.2.1 (fun v0 v1 v2 => rec ((), ((), ((), ((), ((), ((), (v0, ((), ((), ((), ((), ((), ((), ((), ((), ((), ((), ((), ((), ((), ((), ((), ((), ((), ((), ((), ((), ((), ((), ((), ((), (d.2.2.2.2.2.2.2.2.2.2.2.2.2.2.2.2.2.2.2.2.2.2.2.2.2.2.2.2.2.2.2.1, (v1, ((), ((), ((), ((), ((), ((), ((), ((), ((), ((), ((), ((), ((), ((), ((), ((), ((), ((), ((), ((), ((), ((), ((), ((), ((), ((), ((), ((), ((), ((), ((), ((), ((), ((), ()))))))))))))))))))))))))))))))))))))))))))))))))))))))))))))))))))) (((), (v2, (o.1.2.2.1, ()))), (o.2.1, ()))) (fun e0 e1 => ex (e0, e1)) d.2.2.2.2.2.2.1 d.2.2.2.2.2.2.2.2.2.2.2.2.2.2.2.2.2.2.2.2.2.2.2.2.2.2.2.2.2.2.2.2.1 o.1.2.1
  hn := rfl
  hT := fun _ _ _ _ => by kernel_rfl
  hx := fun d o x => ⟨(.exit 1), _, nofun, fun _ _ => rfl⟩
  hS := fun d o hd ho hp R rec ex Good hr hx => bitio_Reader_Take_L7_ok d.2.2.2.2.2.2.2.2.2.2.2.2.2.2.2.2.2.2.2.2.2.2.2.2.2.2.2.2.2.2.2.1 o.1.2.2.1 o.2.1 d.2.2.2.2.2.2.1 d.2.2.2.2.2.2.2.2.2.2.2.2.2.2.2.2.2.2.2.2.2.2.2.2.2.2.2.2.2.2.2.2.1 o.1.2.1 hd.2.2.2.2.2.2.1 hd.2.2.2.2.2.2.2.2.2.2.2.2.2.2.2.2.2.2.2.2.2.2.2.2.2.2.2.2.2.2.2.1 hd.2.2.2.2.2.2.2.2.2.2.2.2.2.2.2.2.2.2.2.2.2.2.2.2.2.2.2.2.2.2.2.2.1 ho.1.2.1 ho.1.2.2.1 ho.2.1 hp (fun v0 v1 v2 => rec ((), ((), ((), ((), ((), ((), (v0, ((), ((), ((), ((), ((), ((), ((), ((), ((), ((), ((), ((), ((), ((), ((), ((), ((), ((), ((), ((), ((), ((), ((), ((), (d.2.2.2.2.2.2.2.2.2.2.2.2.2.2.2.2.2.2.2.2.2.2.2.2.2.2.2.2.2.2.2.1, (v1, ((), ((), ((), ((), ((), ((), ((), ((), ((), ((), ((), ((), ((), ((), ((), ((), ((), ((), ((), ((), ((), ((), ((), ((), ((), ((), ((), ((), ((), ((), ((), ((), ((), ((), ()))))))))))))))))))))))))))))))))))))))))))))))))))))))))))))))))))) (((), (v2, (o.1.2.2.1, ()))), (o.2.1, ()))) (fun e0 e1 => ex (e0, e1)) Good
    (fun v0 v1 v2 h1 h2 h3 => hr ((), ((), ((), ((), ((), ((), (v0, ((), ((), ((), ((), ((), ((), ((), ((), ((), ((), ((), ((), ((), ((), ((), ((), ((), ((), ((), ((), ((), ((), ((), ((), (d.2.2.2.2.2.2.2.2.2.2.2.2.2.2.2.2.2.2.2.2.2.2.2.2.2.2.2.2.2.2.2.1, (v1, ((), ((), ((), ((), ((), ((), ((), ((), ((), ((), ((), ((), ((), ((), ((), ((), ((), ((), ((), ((), ((), ((), ((), ((), ((), ((), ((), ((), ((), ((), ((), ((), ((), ((), ()))))))))))))))))))))))))))))))))))))))))))))))))))))))))))))))))))) (((), (v2, (o.1.2.2.1, ()))), (o.2.1, ())) (fun _ _ _ => by kernel_rfl) (cast (by kernel_rfl) h1) (cast (by kernel_rfl) h2) (cast (by kernel_rfl) h3))
    (fun e0 e1 he => (show Good (ex (e0, e1)) from he ▸ hx))
theorem bitio_Reader_Take_L7_snd (h : CtxOK Try.prog C15) : LoopS Try.prog (getLoop Try.f60 7) bitio_Reader_Take_L7.G := bitio_Reader_Take_L7.sound h (bitio_Reader_Take_L7_lok h)
noncomputable def bitio_Reader_Take_LP : Loops := (addL noLoops 7 bitio_Reader_Take_L7.G)
theorem bitio_Reader_Take_lok (h : CtxOK Try.prog C15) : LOK Try.prog bitio_Reader_Take_LP (Try.f60.body.getD .skip) := LOK_list (l := [(false, getLoop Try.f60 7, bitio_Reader_Take_L7.G)]) (by kernel_rfl) ⟨bitio_Reader_Take_L7_snd h, trivial⟩
abbrev bitio_Reader_Take_r0 : List SD × OSh := ([.v true (.int .u32), .v true (.int .i64)], [(0, .box T_bitio_Reader (.ag (.cons (.sl 1) (.cons (.v true (.int .i64)) (.cons (.v true (.int .i64)) (.nil)))))), (1, .arr true (.int .u8))])
abbrev bitio_Reader_Take_rs : RSh := [bitio_Reader_Take_r0]
noncomputable def bitio_Reader_Take : FnK C15 bitio_Reader_Take_M bitio_Reader_Take_LP [none, none] Try.f60 where
  sh := [.pb 0 [], .v true (.int .i64)]
  osh := [(0, .box T_bitio_Reader (.ag (.cons (.sl 1) (.cons (.v true (.int .i64)) (.cons (.v true (.int .i64)) (.nil)))))), (1, .arr true (.int .u8))]
  rs := bitio_Reader_Take_rs
  X := Int × Int × Int × Int × List Int
  inX := fun x => ((x.1, (x.2.1, ())), (((), (x.2.2.1, (x.2.2.2.1, ()))), (x.2.2.2.2, ())))
  outX := fun y => (y.1.1, y.1.2.1, y.2.1.2.1, y.2.1.2.2.1, y.2.2.1)
  go := fun x k => k (mkRes bitio_Reader_Take_r0.1 (x.1, (x.2.1, ()))) (mkOL bitio_Reader_Take_r0.2 (((), (x.2.2.1, (x.2.2.2.1, ()))), (x.2.2.2.2, ())))
  hgo := fun _ _ _ => rfl
  hio := fun _ => rfl
  pre := fun d o => bitio_Reader_Take_pre d.2.1 o.1.2.1 o.1.2.2.1 o.2.1
  S := fun d o => bitio_Reader_Take_S d.2.1 o.1.2.1 o.1.2.2.1 o.2.1
  F := fun k d o => bitio_Reader_Take_F (fun v0 v1 v2 v3 v4 => k (v0, v1, v2, v3, v4)) d.2.1 o.1.2.1 o.1.2.2.1 o.2.1
  hn := rfl
  hF := fun _ _ _ _ => by kernel_rfl
  hS := fun d o hd ho hp R k => bitio_Reader_Take_ok d.2.1 o.1.2.1 o.1.2.2.1 o.2.1 hd.2.1 ho.1.2.1 ho.1.2.2.1 ho.2.1 hp (fun v0 v1 v2 v3 v4 => k (v0, v1, v2, v3, v4)) (fun z => z = k (bitio_Reader_Take_S d.2.1 o.1.2.1 o.1.2.2.1 o.2.1)) rfl
theorem bitio_Reader_Take_snd (h : CtxOK Try.prog C15) : Sound Try.prog 60 bitio_Reader_Take.G := bitio_Reader_Take.sound h rfl (body_LOK (bitio_Reader_Take_lok h))
noncomputable def C16 : Ctx := addF C15 60 bitio_Reader_Take.G
theorem C16_ok : CtxOK Try.prog C16 := C15_ok.add (bitio_Reader_Take_snd C15_ok) Try.f60 rfl (by kernel_rfl) rfl

def picture_TakeHeader_1_mt : List (Nat × Nat × List Nat) := [(1, 3, [0, 1, 2]), (2, 16, [0, 1, 2]), (999999, 8, [0, 1, 2])]
def picture_TakeHeader_1_M : Masks := maskOf picture_TakeHeader_1_mt
noncomputable def picture_TakeHeader_1_LP : Loops := noLoops
theorem picture_TakeHeader_1_lok (_h : CtxOK Try.prog C16) : LOK Try.prog picture_TakeHeader_1_LP (Try.f59.body.getD .skip) := LOK_list (l := []) (by kernel_rfl) trivial
abbrev picture_TakeHeader_1_r0 : List SD × OSh := ([.v true (.int .i64)], [(0, .box (.opq .ptr) (.pb 1 [])), (1, .box T_bitio_Reader (.ag (.cons (.sl 2) (.cons (.v true (.int .i64)) (.cons (.v true (.int .i64)) (.nil)))))), (2, .arr true (.int .u8))])
abbrev picture_TakeHeader_1_rs : RSh := [picture_TakeHeader_1_r0]
noncomputable def picture_TakeHeader_1 : FnK C16 picture_TakeHeader_1_M picture_TakeHeader_1_LP [none] Try.f59 where
  sh := [.v true (.int .i64), .pb 0 []]
  osh := [(0, .box (.opq .ptr) (.pb 1 [])), (1, .box T_bitio_Reader (.ag (.cons (.sl 2) (.cons (.v true (.int .i64)) (.cons (.v true (.int .i64)) (.nil)))))), (2, .arr true (.int .u8))]
  rs := picture_TakeHeader_1_rs
  X := Int × Int × Int × List Int
  inX := fun x => ((x.1, ()), ((), (((), (x.2.1, (x.2.2.1, ()))), (x.2.2.2, ()))))
  outX := fun y => (y.1.1, y.2.2.1.2.1, y.2.2.1.2.2.1, y.2.2.2.1)
  go := fun x k => k (mkRes picture_TakeHeader_1_r0.1 (x.1, ())) (mkOL picture_TakeHeader_1_r0.2 ((), (((), (x.2.1, (x.2.2.1, ()))), (x.2.2.2, ()))))
  hgo := fun _ _ _ => rfl
  hio := fun _ => rfl
  pre := fun d o => picture_TakeHeader_1_pre d.1 o.2.1.2.1 o.2.1.2.2.1 o.2.2.1
  S := fun d o => picture_TakeHeader_1_S d.1 o.2.1.2.1 o.2.1.2.2.1 o.2.2.1
  F := fun k d o => picture_TakeHeader_1_F (fun v0 v1 v2 v3 => k (v0, v1, v2, v3)) d.1 o.2.1.2.1 o.2.1.2.2.1 o.2.2.1
  hn := rfl
  hF := fun _ _ _ _ => by kernel_rfl
  hS := fun d o hd ho hp R k => picture_TakeHeader_1_ok d.1 o.2.1.2.1 o.2.1.2.2.1 o.2.2.1 hd.1 ho.2.1.2.1 ho.2.1.2.2.1 ho.2.2.1 hp (fun v0 v1 v2 v3 => k (v0, v1, v2, v3)) (fun z => z = k (picture_TakeHeader_1_S d.1 o.2.1.2.1 o.2.1.2.2.1 o.2.2.1)) rfl
theorem picture_TakeHeader_1_snd (h : CtxOK Try.prog C16) : Sound Try.prog 59 picture_TakeHeader_1.G := picture_TakeHeader_1.sound h rfl (body_LOK (picture_TakeHeader_1_lok h))
noncomputable def C17 : Ctx := addF C16 59 picture_TakeHeader_1.G
theorem C17_ok : CtxOK Try.prog C17 := C16_ok.add (picture_TakeHeader_1_snd C16_ok) Try.f59 rfl (by kernel_rfl) rfl

def bytes_Equal_mt : List (Nat × Nat × List Nat) := [(1, 3, []), (999999, 16, [])]
def bytes_Equal_M : Masks := maskOf bytes_Equal_mt
noncomputable def bytes_Equal_LP : Loops := noLoops
theorem bytes_Equal_lok (_h : CtxOK Try.prog C17) : LOK Try.prog bytes_Equal_LP (Try.f61.body.getD .skip) := LOK_list (l := []) (by kernel_rfl) trivial
abbrev bytes_Equal_r0 : List SD × OSh := ([.v true .bool], [])
abbrev bytes_Equal_rs : RSh := [bytes_Equal_r0]
noncomputable def bytes_Equal : FnK C17 bytes_Equal_M bytes_Equal_LP [none] Try.f61 where
  sh := [.v false (.sl (.int .u8)), .v false (.sl (.int .u8))]
  osh := []
  rs := bytes_Equal_rs
  X := Bool
  inX := fun x => ((x, ()), ())
  outX := fun y => y.1.1
  go := fun x k => k (mkRes bytes_Equal_r0.1 (x, ())) (mkOL bytes_Equal_r0.2 ())
  hgo := fun _ _ _ => rfl
  hio := fun _ => rfl
  pre := fun d o => bytes_Equal_pre d.1 d.2.1
  S := fun d o => bytes_Equal_S d.1 d.2.1
  F := fun k d o => bytes_Equal_F (fun v0 => k v0) d.1 d.2.1
  hn := rfl
  hF := fun _ _ _ _ => by kernel_rfl
  hS := fun d o hd ho hp R k => bytes_Equal_ok d.1 d.2.1 hd.1 hd.2.1 hp (fun v0 => k v0) (fun z => z = k (bytes_Equal_S d.1 d.2.1)) rfl
theorem bytes_Equal_snd (h : CtxOK Try.prog C17) : Sound Try.prog 61 bytes_Equal.G := bytes_Equal.sound h rfl (body_LOK (bytes_Equal_lok h))
noncomputable def C18 : Ctx := addF C17 61 bytes_Equal.G
theorem C18_ok : CtxOK Try.prog C18 := C17_ok.add (bytes_Equal_snd C17_ok) Try.f61 rfl (by kernel_rfl) rfl

def picture_TakeHeader_mt : List (Nat × Nat × List Nat) := [(1, 6, [80, 96]), (2, 54, [80, 96, 128, 272, 273]), (4, 22, [80, 96, 128, 272, 273]), (5, 70, [80, 96, 128, 272, 273]), (6, 198, [80, 96, 128, 176, 272, 273]), (7, 134, [80, 96, 176]), (8, 902, [80, 96, 176, 192]), (10, 132, [96, 176]), (999999, 12, [96])]
def picture_TakeHeader_M : Masks := maskOf picture_TakeHeader_mt
noncomputable def picture_TakeHeader_J2_LP : Loops := noLoops
theorem picture_TakeHeader_J2_lok (_h : CtxOK Try.prog C18) : LOK Try.prog picture_TakeHeader_J2_LP (getJoin Try.f16 2) := LOK_list (l := []) (by kernel_rfl) trivial
abbrev picture_TakeHeader_J2_sh : List SD × OSh := ([.dead, .pb 80 [], .pb 96 [], .dead, .pb 128 [], .v true (.int .i64), .dead, .dead, .dead, .dead, .dead, .dead, .dead, .dead, .dead, .dead, .dead, .dead, .dead, .dead, .dead, .dead, .dead, .dead, .dead, .dead, .dead, .dead, .dead, .dead, .dead, .dead, .dead, .dead, .dead, .dead, .dead, .dead, .dead, .dead, .dead, .dead, .dead, .dead, .dead, .dead, .dead, .dead, .dead, .dead, .dead, .dead, .dead, .dead, .dead, .dead, .dead, .dead, .dead, .dead, .dead], [(80, .box T_api_Unit (.v false T_api_Unit)), (96, .box T_api_Pic (.v true T_api_Pic)), (128, .box (.opq .ptr) (.pb 272 [])), (272, .box T_bitio_Reader (.ag (.cons (.sl 273) (.cons (.v true (.int .i64)) (.cons (.v true (.int .i64)) (.nil)))))), (273, .arr true (.int .u8))])
abbrev picture_TakeHeader_J2_x0 : List SD × OSh := ([.dead, .dead, .pb 96 [], .v true (.int .i64), .dead, .dead, .dead, .dead, .dead, .dead, .dead, .dead, .dead, .dead, .dead, .dead, .dead, .dead, .dead, .dead, .dead, .dead, .dead, .dead, .dead, .dead, .dead, .dead, .dead, .dead, .dead, .dead, .dead, .dead, .dead, .dead, .dead, .dead, .dead, .dead, .dead, .dead, .dead, .dead, .dead, .dead, .dead, .dead, .dead, .dead, .dead, .dead, .dead, .dead, .dead, .dead, .dead, .dead, .dead, .dead, .dead], [(96, .box T_api_Pic (.v true T_api_Pic))])
noncomputable def picture_TakeHeader_J2 : JoinK C18 picture_TakeHeader_M picture_TakeHeader_J2_LP (getJoin Try.f16 2) where
  sh := picture_TakeHeader_J2_sh
  X := Int × D_api_Pic
  go := fun d o x k => k .ret (mkS picture_TakeHeader_J2_x0 ((), ((), ((), (x.1, ((), ((), ((), ((), ((), ((), ((), ((), ((), ((), ((), ((), ((), ((), ((), ((), ((), ((), ((), ((), ((), ((), ((), ((), ((), ((), ((), ((), ((), ((), ((), ((), ((), ((), ((), ((), ((), ((), ((), ((), ((), ((), ((), ((), ((), ((), ((), ((), ((), ((), ((), ((), ((), ((), ((), ((), ((), ()))))))))))))))))))))))))))))))))))))))))))))))))))))))))))))) (x.2, ()))
  T := fun ex d o => picture_TakeHeader_J2_T (fun e0 e1 => ex (e0, e1)) d.2.2.2.2.2.1 o.1 o.2.1 o.2.2.2.1.2.1 o.2.2.2.1.2.2.1 o.2.2.2.2.1
  hT := fun _ _ _ _ => by kernel_rfl
theorem picture_TakeHeader_J2_snd (h : CtxOK Try.prog C18) : CodeS Try.prog (getJoin Try.f16 2) picture_TakeHeader_J2.G := picture_TakeHeader_J2.sound h (picture_TakeHeader_J2_lok h)
noncomputable def picture_TakeHeader_LP : Loops := (addL noLoops 1048578 picture_TakeHeader_J2.G)
theorem picture_TakeHeader_lok (h : CtxOK Try.prog C18) : LOK Try.prog picture_TakeHeader_LP (Try.f16.body.getD .skip) := LOK_list (l := [(true, getJoin Try.f16 2, picture_TakeHeader_J2.G)]) (by kernel_rfl) ⟨picture_TakeHeader_J2_snd h, trivial⟩
abbrev picture_TakeHeader_r0 : List SD × OSh := ([.v true T_api_Pic, .v true (.int .i64)], [])
abbrev picture_TakeHeader_rs : RSh := [picture_TakeHeader_r0]
noncomputable def picture_TakeHeader : FnK C18 picture_TakeHeader_M picture_TakeHeader_LP [none, none] Try.f16 where
  sh := [.v false T_api_Unit]
  osh := []
  rs := picture_TakeHeader_rs
  X := D_api_Pic × Int
  inX := fun x => ((x.1, (x.2, ())), ())
  outX := fun y => (y.1.1, y.1.2.1)
  go := fun x k => k (mkRes picture_TakeHeader_r0.1 (x.1, (x.2, ()))) (mkOL picture_TakeHeader_r0.2 ())
  hgo := fun _ _ _ => rfl
  hio := fun _ => rfl
  pre := fun d o => picture_TakeHeader_pre d.1
  S := fun d o => picture_TakeHeader_S d.1
  F := fun k d o => picture_TakeHeader_F (fun v0 v1 => k (v0, v1)) d.1
  hn := rfl
  hF := fun _ _ _ _ => by kernel_rfl
  hS := fun d o hd ho hp R k => picture_TakeHeader_ok d.1 hd.1 hp (fun v0 v1 => k (v0, v1)) (fun z => z = k (picture_TakeHeader_S d.1)) rfl
theorem picture_TakeHeader_snd (h : CtxOK Try.prog C18) : Sound Try.prog 16 picture_TakeHeader.G := picture_TakeHeader.sound h rfl (body_LOK (picture_TakeHeader_lok h))
noncomputable def C19 : Ctx := addF C18 16 picture_TakeHeader.G
theorem C19_ok : CtxOK Try.prog C19 := C18_ok.add (picture_TakeHeader_snd C18_ok) Try.f16 rfl (by kernel_rfl) rfl

def cutroomref02_Open_mt : List (Nat × Nat × List Nat) := [(1, 1, []), (3, 1, []), (4, 17, [128]), (5, 49, [128]), (6, 49, [128]), (7, 49, [128]), (8, 16, [128]), (9, 80, [128]), (10, 80, [128]), (11, 80, [128]), (999999, 12, [128, 816]), (1000000, 16, [128]), (1000002, 80, [128])]
def cutroomref02_Open_M : Masks := maskOf cutroomref02_Open_mt
noncomputable def cutroomref02_Open_L5_LP : Loops := noLoops
theorem cutroomref02_Open_L5_lok (_h : CtxOK Try.prog C19) : LOK Try.prog cutroomref02_Open_L5_LP (getLoop Try.f62 5) := LOK_list (l := []) (by kernel_rfl) trivial
abbrev cutroomref02_Open_L5_sh : List SD × OSh := ([.v false (.sl (.int .u8)), .dead, .dead, .dead, .sl 128, .v true (.int .i64), .dead, .dead, .dead, .dead, .dead, .dead, .dead, .dead, .dead, .dead, .dead, .dead, .dead, .dead, .dead, .dead, .dead, .dead, .dead, .dead, .dead, .dead, .dead, .dead, .dead, .dead, .dead, .dead, .dead, .dead, .dead, .dead, .dead, .dead, .dead, .dead, .dead, .dead, .dead, .dead, .dead, .dead], [(128, .arr true (.int .u8))])
abbrev cutroomref02_Open_L5_x0 : List SD × OSh := ([.dead, .dead, .dead, .dead, .sl 128, .dead, .dead, .dead, .dead, .dead, .dead, .dead, .dead, .dead, .dead, .dead, .dead, .dead, .dead, .dead, .dead, .dead, .dead, .dead, .dead, .dead, .dead, .dead, .dead, .dead, .dead, .dead, .dead, .dead, .dead, .dead, .dead, .dead, .dead, .dead, .dead, .dead, .dead, .dead, .dead, .dead, .dead, .dead], [(128, .arr true (.int .u8))])
noncomputable def cutroomref02_Open_L5 : LoopK C19 cutroomref02_Open_M cutroomref02_Open_L5_LP (getLoop Try.f62 5) where
  sh := cutroomref02_Open_L5_sh
  X := List Int
  go := fun d o x k => k (.exit 0) (mkS cutroomref02_Open_L5_x0 ((), ((), ((), ((), ((), ((), ((), ((), ((), ((), ((), ((), ((), ((), ((), ((), ((), ((), ((), ((), ((), ((), ((), ((), ((), ((), ((), ((), ((), ((), ((), ((), ((), ((), ((), ((), ((), ((), ((), ((), ((), ((), ((), ((), ((), ((), ((), ((), ())))))))))))))))))))))))))))))))))))))))))))))))) (x, ()))
  pre := fun d o => cutroomref02_Open_L5_pre d.1 d.2.2.2.2.2.1 o.1
  mu := fun d o => cutroomref02_Open_L5_mu d.1 d.2.2.2.2.2.1 o.1
  S := fun d o => cutroomref02_Open_L5_S d.1 d.2.2.2.2.2.1 o.1
  T := fun rec ex d o => cutroomref02_Open_L5_T d.1 (fun v0 v1 => rec (d.1, ((), ((), ((), ((), (v0, ((), ((), ((), ((), ((), ((), ((), ((), ((), ((), ((), ((), ((), ((), ((), ((), ((), ((), ((), ((), ((), ((), ((), ((), ((), ((), ((), ((), ((), ((), ((), ((), ((), ((), ((), ((), ((), ((), ((), ((), ((), ((), ())))))))))))))))))))))))))))))))))))))))))))))))) (v1, ())) (fun e0 => ex e0) d.2.2.2.2.2.1 o.1
  hn := rfl
  hT := fun _ _ _ _ => by kernel_rfl
  hx := fun d o x => ⟨(.exit 0), _, nofun, fun _ _ => rfl⟩
  hS := fun d o hd ho hp R rec ex Good hr hx => cutroomref02_Open_L5_ok d.1 d.2.2.2.2.2.1 o.1 hd.1 hd.2.2.2.2.2.1 ho.1 hp (fun v0 v1 => rec (d.1, ((), ((), ((), ((), (v0, ((), ((), ((), ((), ((), ((), ((), ((), ((), ((), ((), ((), ((), ((), ((), ((), ((), ((), ((), ((), ((), ((), ((), ((), ((), ((), ((), ((), ((), ((), ((), ((), ((), ((), ((), ((), ((), ((), ((), ((), ((), ((), ())))))))))))))))))))))))))))))))))))))))))))))))) (v1, ())) (fun e0 => ex e0) Good
    (fun v0 v1 h1 h2 h3 => hr (d.1, ((), ((), ((), ((), (v0, ((), ((), ((), ((), ((), ((), ((), ((), ((), ((), ((), ((), ((), ((), ((), ((), ((), ((), ((), ((), ((), ((), ((), ((), ((), ((), ((), ((), ((), ((), ((), ((), ((), ((), ((), ((), ((), ((), ((), ((), ((), ((), ())))))))))))))))))))))))))))))))))))))))))))))))) (v1, ()) (fun _ _ _ => by kernel_rfl) (cast (by kernel_rfl) h1) (cast (by kernel_rfl) h2) (cast (by kernel_rfl) h3))
    (fun e0 he => (show Good (ex e0) from he ▸ hx))
theorem cutroomref02_Open_L5_snd (h : CtxOK Try.prog C19) : LoopS Try.prog (getLoop Try.f62 5) cutroomref02_Open_L5.G := cutroomref02_Open_L5.sound h (cutroomref02_Open_L5_lok h)
noncomputable def cutroomref02_Open_L9_LP : Loops := (addL noLoops 5 cutroomref02_Open_L5.G)
theorem cutroomref02_Open_L9_lok (_h : CtxOK Try.prog C19) : LOK Try.prog cutroomref02_Open_L9_LP (getLoop Try.f62 9) := LOK_list (l := []) (by kernel_rfl) trivial
abbrev cutroomref02_Open_L9_sh : List SD × OSh := ([.dead, .dead, .dead, .dead, .sl 128, .dead, .v true (.int .i64), .dead, .dead, .dead, .dead, .dead, .dead, .dead, .dead, .dead, .dead, .dead, .dead, .dead, .dead, .dead, .dead, .dead, .dead, .dead, .dead, .dead, .dead, .dead, .dead, .dead, .dead, .dead, .dead, .dead, .dead, .dead, .dead, .dead, .dead, .dead, .dead, .dead, .dead, .dead, .dead, .dead], [(128, .arr true (.int .u8))])
abbrev cutroomref02_Open_L9_x0 : List SD × OSh := ([.dead, .dead, .dead, .dead, .sl 128, .dead, .v true (.int .i64), .dead, .dead, .dead, .dead, .dead, .dead, .dead, .dead, .dead, .dead, .dead, .dead, .dead, .dead, .dead, .dead, .dead, .dead, .dead, .dead, .dead, .dead, .dead, .dead, .dead, .dead, .dead, .dead, .dead, .dead, .dead, .dead, .dead, .dead, .dead, .dead, .dead, .dead, .dead, .dead, .dead], [(128, .arr true (.int .u8))])
noncomputable def cutroomref02_Open_L9 : LoopK C19 cutroomref02_Open_M cutroomref02_Open_L9_LP (getLoop Try.f62 9) where
  sh := cutroomref02_Open_L9_sh
  X := Int
  go := fun d o x k => k (.exit 2) (mkS cutroomref02_Open_L9_x0 ((), ((), ((), ((), ((), ((), (x, ((), ((), ((), ((), ((), ((), ((), ((), ((), ((), ((), ((), ((), ((), ((), ((), ((), ((), ((), ((), ((), ((), ((), ((), ((), ((), ((), ((), ((), ((), ((), ((), ((), ((), ((), ((), ((), ((), ((), ((), ((), ())))))))))))))))))))))))))))))))))))))))))))))))) (o.1, ()))
  pre := fun d o => cutroomref02_Open_L9_pre o.1 d.2.2.2.2.2.2.1
  mu := fun d o => cutroomref02_Open_L9_mu o.1 d.2.2.2.2.2.2.1
  S := fun d o => cutroomref02_Open_L9_S o.1 d.2.2.2.2.2.2.1
  T := fun rec ex d o => cutroomref02_Open_L9_T o.1 (fun v0 => rec ((), ((), ((), ((), ((), ((), (v0, ((), ((), ((), ((), ((), ((), ((), ((), ((), ((), ((), ((), ((), ((), ((), ((), ((), ((), ((), ((), ((), ((), ((), ((), ((), ((), ((), ((), ((), ((), ((), ((), ((), ((), ((), ((), ((), ((), ((), ((), ((), ())))))))))))))))))))))))))))))))))))))))))))))))) (o.1, ())) (fun e0 => ex e0) d.2.2.2.2.2.2.1
  hn := rfl
  hT := fun _ _ _ _ => by kernel_rfl
  hx := fun d o x => ⟨(.exit 2), _, nofun, fun _ _ => rfl⟩
  hS := fun d o hd ho hp R rec ex Good hr hx => cutroomref02_Open_L9_ok o.1 d.2.2.2.2.2.2.1 hd.2.2.2.2.2.2.1 ho.1 hp (fun v0 => rec ((), ((), ((), ((), ((), ((), (v0, ((), ((), ((), ((), ((), ((), ((), ((), ((), ((), ((), ((), ((), ((), ((), ((), ((), ((), ((), ((), ((), ((), ((), ((), ((), ((), ((), ((), ((), ((), ((), ((), ((), ((), ((), ((), ((), ((), ((), ((), ((), ())))))))))))))))))))))))))))))))))))))))))))))))) (o.1, ())) (fun e0 => ex e0) Good
    (fun v0 h1 h2 h3 => hr ((), ((), ((), ((), ((), ((), (v0, ((), ((), ((), ((), ((), ((), ((), ((), ((), ((), ((), ((), ((), ((), ((), ((), ((), ((), ((), ((), ((), ((), ((), ((), ((), ((), ((), ((), ((), ((), ((), ((), ((), ((), ((), ((), ((), ((), ((), ((), ((), ())))))))))))))))))))))))))))))))))))))))))))))))) (o.1, ()) (fun _ _ _ => by kernel_rfl) (cast (by kernel_rfl) h1) (cast (by kernel_rfl) h2) (cast (by kernel_rfl) h3))
    (fun e0 he => (show Good (ex e0) from he ▸ hx))
theorem cutroomref02_Open_L9_snd (h : CtxOK Try.prog C19) : LoopS Try.prog (getLoop Try.f62 9) cutroomref02_Open_L9.G := cutroomref02_Open_L9.sound h (cutroomref02_Open_L9_lok h)
noncomputable def cutroomref02_Open_LP : Loops := (addL (addL noLoops 5 cutroomref02_Open_L5.G) 9 cutroomref02_Open_L9.G)
theorem cutroomref02_Open_lok (h : CtxOK Try.prog C19) : LOK Try.prog cutroomref02_Open_LP (Try.f62.body.getD .skip) := LOK_list (l := [(false, getLoop Try.f62 5, cutroomref02_Open_L5.G), (false, getLoop Try.f62 9, cutroomref02_Open_L9.G)]) (by kernel_rfl) ⟨cutroomref02_Open_L5_snd h, ⟨cutroomref02_Open_L9_snd h, trivial⟩⟩
abbrev cutroomref02_Open_r0 : List SD × OSh := ([.nl .ptr, .ci .i64 3], [])
abbrev cutroomref02_Open_r1 : List SD × OSh := ([.pb 0 [], .ci .i64 0], [(0, .box T_bitio_Writer (.ag (.cons (.sub 1) (.cons (.v true (.int .i64)) (.nil))))), (1, .arr true (.int .u8))])
abbrev cutroomref02_Open_rs : RSh := [cutroomref02_Open_r0, cutroomref02_Open_r1]
noncomputable def cutroomref02_Open : FnK C19 cutroomref02_Open_M cutroomref02_Open_LP [none, none] Try.f62 where
  sh := [.v false (.sl (.int .u8))]
  osh := []
  rs := cutroomref02_Open_rs
  X := (Unit) ⊕ (Nat × Nat × Int × List Int)
  inX := fun x => caseS x (fun a0 => (.inl (((), ((), ())), ()))) (fun b0 => (.inr (((), ((), ())), (((b0.1, b0.2.1), (b0.2.2.1, ())), (b0.2.2.2, ())))))
  outX := fun y => caseS y (fun a0 => (.inl ())) (fun b0 => (.inr (b0.2.1.1.1, b0.2.1.1.2, b0.2.1.2.1, b0.2.2.1)))
  go := fun x k => caseS x (fun a0 => k (mkRes cutroomref02_Open_r0.1 ((), ((), ()))) (mkOL cutroomref02_Open_r0.2 ())) (fun b0 => k (mkRes cutroomref02_Open_r1.1 ((), ((), ()))) (mkOL cutroomref02_Open_r1.2 (((b0.1, b0.2.1), (b0.2.2.1, ())), (b0.2.2.2, ()))))
  hgo := fun _ x _ => match x with | .inl _ => rfl | .inr _ => rfl
  hio := fun y => match y with | .inl _ => rfl | .inr _ => rfl
  pre := fun d o => cutroomref02_Open_pre d.1
  S := fun d o => cutroomref02_Open_S d.1
  F := fun k d o => cutroomref02_Open_F (fun _ => k (.inl ())) (fun v0 v1 v2 v3 => k (.inr (v0, v1, v2, v3))) d.1
  hn := rfl
  hF := fun _ _ _ _ => by kernel_rfl
  hS := fun d o hd ho hp R k => cutroomref02_Open_ok d.1 hd.1 hp (fun _ => k (.inl ())) (fun v0 v1 v2 v3 => k (.inr (v0, v1, v2, v3))) (fun z => z = k (cutroomref02_Open_S d.1))  (fun he => (congrArg k he).symm) (fun y0 y1 y2 y3 he => (congrArg k he).symm)
theorem cutroomref02_Open_snd (h : CtxOK Try.prog C19) : Sound Try.prog 62 cutroomref02_Open.G := cutroomref02_Open.sound h rfl (body_LOK (cutroomref02_Open_lok h))
noncomputable def C20 : Ctx := addF C19 62 cutroomref02_Open.G
theorem C20_ok : CtxOK Try.prog C20 := C19_ok.add (cutroomref02_Open_snd C19_ok) Try.f62 rfl (by kernel_rfl) rfl

def cutroomref02_Reader_Left_mt : List (Nat × Nat × List Nat) := [(1, 1, [0, 1]), (999999, 4, [0, 1])]
def cutroomref02_Reader_Left_M : Masks := maskOf cutroomref02_Reader_Left_mt
noncomputable def cutroomref02_Reader_Left_LP : Loops := noLoops
theorem cutroomref02_Reader_Left_lok (_h : CtxOK Try.prog C20) : LOK Try.prog cutroomref02_Reader_Left_LP (Try.f63.body.getD .skip) := LOK_list (l := []) (by kernel_rfl) trivial
abbrev cutroomref02_Reader_Left_r0 : List SD × OSh := ([.v true (.int .i64)], [(0, .box T_bitio_Writer (.ag (.cons (.sub 1) (.cons (.v true (.int .i64)) (.nil))))), (1, .arr true (.int .u8))])
abbrev cutroomref02_Reader_Left_rs : RSh := [cutroomref02_Reader_Left_r0]
noncomputable def cutroomref02_Reader_Left : FnK C20 cutroomref02_Reader_Left_M cutroomref02_Reader_Left_LP [none] Try.f63 where
  sh := [.pb 0 []]
  osh := [(0, .box T_bitio_Writer (.ag (.cons (.sub 1) (.cons (.v true (.int .i64)) (.nil))))), (1, .arr true (.int .u8))]
  rs := cutroomref02_Reader_Left_rs
  X := Int × Nat × Nat × Int × List Int
  inX := fun x => ((x.1, ()), (((x.2.1, x.2.2.1), (x.2.2.2.1, ())), (x.2.2.2.2, ())))
  outX := fun y => (y.1.1, y.2.1.1.1, y.2.1.1.2, y.2.1.2.1, y.2.2.1)
  go := fun x k => k (mkRes cutroomref02_Reader_Left_r0.1 (x.1, ())) (mkOL cutroomref02_Reader_Left_r0.2 (((x.2.1, x.2.2.1), (x.2.2.2.1, ())), (x.2.2.2.2, ())))
  hgo := fun _ _ _ => rfl
  hio := fun _ => rfl
  pre := fun d o => cutroomref02_Reader_Left_pre o.1.1.1 o.1.1.2 o.1.2.1 o.2.1
  S := fun d o => cutroomref02_Reader_Left_S o.1.1.1 o.1.1.2 o.1.2.1 o.2.1
  F := fun k d o => cutroomref02_Reader_Left_F (fun v0 v1 v2 v3 v4 => k (v0, v1, v2, v3, v4)) o.1.1.1 o.1.1.2 o.1.2.1 o.2.1
  hn := rfl
  hF := fun _ _ _ _ => by kernel_rfl
  hS := fun d o hd ho hp R k => cutroomref02_Reader_Left_ok o.1.1.1 o.1.1.2 o.1.2.1 o.2.1 ho.1.2.1 ho.2.1 hp (fun v0 v1 v2 v3 v4 => k (v0, v1, v2, v3, v4)) (fun z => z = k (cutroomref02_Reader_Left_S o.1.1.1 o.1.1.2 o.1.2.1 o.2.1)) rfl
theorem cutroomref02_Reader_Left_snd (h : CtxOK Try.prog C20) : Sound Try.prog 63 cutroomref02_Reader_Left.G := cutroomref02_Reader_Left.sound h rfl (body_LOK (cutroomref02_Reader_Left_lok h))
noncomputable def C21 : Ctx := addF C20 63 cutroomref02_Reader_Left.G
theorem C21_ok : CtxOK Try.prog C21 := C20_ok.add (cutroomref02_Reader_Left_snd C20_ok) Try.f63 rfl (by kernel_rfl) rfl

def cutroomref02_Reader_Take_mt : List (Nat × Nat × List Nat) := [(1, 3, [0, 1]), (3, 3, [0, 1]), (5, 3, [0, 1]), (6, 67, [0, 1]), (7, 195, [0, 1]), (8, 195, [0, 1]), (9, 195, [0, 1]), (10, 67, [0, 1]), (11, 64, [0, 1]), (999999, 48, [0, 1]), (1000000, 67, [0, 1])]
def cutroomref02_Reader_Take_M : Masks := maskOf cutroomref02_Reader_Take_mt
noncomputable def cutroomref02_Reader_Take_L7_LP : Loops := noLoops
theorem cutroomref02_Reader_Take_L7_lok (_h : CtxOK Try.prog C21) : LOK Try.prog cutroomref02_Reader_Take_L7_LP (getLoop Try.f64 7) := LOK_list (l := []) (by kernel_rfl) trivial
abbrev cutroomref02_Reader_Take_L7_sh : List SD × OSh := ([.pb 0 [], .v true (.int .i64), .dead, .dead, .dead, .dead, .v true (.int .u32), .v true (.int .i64), .dead, .dead, .dead, .dead, .dead, .dead, .dead, .dead, .dead, .dead, .dead, .dead, .dead, .dead, .dead, .dead, .dead, .dead, .dead, .dead, .dead, .dead, .dead, .dead, .dead, .dead, .dead, .dead, .dead, .dead, .dead, .dead, .dead, .dead, .dead, .dead, .dead, .dead, .dead, .dead, .dead], [(0, .box T_bitio_Writer (.ag (.cons (.sub 1) (.cons (.v true (.int .i64)) (.nil))))), (1, .arr true (.int .u8))])
abbrev cutroomref02_Reader_Take_L7_x0 : List SD × OSh := ([.pb 0 [], .v true (.int .i64), .dead, .dead, .dead, .dead, .v true (.int .u32), .dead, .dead, .dead, .dead, .dead, .dead, .dead, .dead, .dead, .dead, .dead, .dead, .dead, .dead, .dead, .dead, .dead, .dead, .dead, .dead, .dead, .dead, .dead, .dead, .dead, .dead, .dead, .dead, .dead, .dead, .dead, .dead, .dead, .dead, .dead, .dead, .dead, .dead, .dead, .dead, .dead, .dead], [(0, .box T_bitio_Writer (.ag (.cons (.sub 1) (.cons (.v true (.int .i64)) (.nil))))), (1, .arr true (.int .u8))])
noncomputable def cutroomref02_Reader_Take_L7 : LoopK C21 cutroomref02_Reader_Take_M cutroomref02_Reader_Take_L7_LP (getLoop Try.f64 7) where
  sh := cutroomref02_Reader_Take_L7_sh
  X := Int
  go := fun d o x k => k (.exit 0) (mkS cutroomref02_Reader_Take_L7_x0 ((), (d.2.1, ((), ((), ((), ((), (x, ((), ((), ((), ((), ((), ((), ((), ((), ((), ((), ((), ((), ((), ((), ((), ((), ((), ((), ((), ((), ((), ((), ((), ((), ((), ((), ((), ((), ((), ((), ((), ((), ((), ((), ((), ((), ((), ((), ((), ((), ((), ((), ()))))))))))))))))))))))))))))))))))))))))))))))))) (((o.1.1.1, o.1.1.2), (o.1.2.1, ())), (o.2.1, ())))
  pre := fun d o => cutroomref02_Reader_Take_L7_pre d.2.1 o.1.1.1 o.1.1.2 o.1.2.1 o.2.1 d.2.2.2.2.2.2.1 d.2.2.2.2.2.2.2.1
  mu := fun d o => cutroomref02_Reader_Take_L7_mu d.2.1 o.1.1.1 o.1.1.2 o.1.2.1 o.2.1 d.2.2.2.2.2.2.1 d.2.2.2.2.2.2.2.1
  S := fun d o => cutroomref02_Reader_Take_L7_S d.2.1 o.1.1.1 o.1.1.2 o.1.2.1 o.2.1 d.2.2.2.2.2.2.1 d.2.2.2.2.2.2.2.1
  T := fun rec ex d o => cutroomref02_Reader_Take_L7_T d.2.1 o.1.1.1 o.1.1.2 o.1.2.1 o.2.1 (fun v0 v1 => rec ((), (d.2.1, ((), ((), ((), ((), (v0, (v1, ((), ((), ((), ((), ((), ((), ((), ((), ((), ((), ((), ((), ((), ((), ((), ((), ((), ((), ((), ((), ((), ((), ((), ((), ((), ((), ((), ((), ((), ((), ((), ((), ((), ((), ((), ((), ((), ((), ((), ((), ((), ()))))))))))))))))))))))))))))))))))))))))))))))))) (((o.1.1.1, o.1.1.2), (o.1.2.1, ())), (o.2.1, ()))) (fun e0 => ex e0) d.2.2.2.2.2.2.1 d.2.2.2.2.2.2.2.1
  hn := rfl
  hT := fun _ _ _ _ => by kernel_rfl
  hx := fun d o x => ⟨(.exit 0), _, nofun, fun _ _ => rfl⟩
  hS := fun d o hd ho hp R rec ex Good hr hx => cutroomref02_Reader_Take_L7_ok d.2.1 o.1.1.1 o.1.1.2 o.1.2.1 o.2.1 d.2.2.2.2.2.2.1 d.2.2.2.2.2.2.2.1 hd.2.1 hd.2.2.2.2.2.2.1 hd.2.2.2.2.2.2.2.1 ho.1.2.1 ho.2.1 hp (fun v0 v1 => rec ((), (d.2.1, ((), ((), ((), ((), (v0, (v1, ((), ((), ((), ((), ((), ((), ((), ((), ((), ((), ((), ((), ((), ((), ((), ((), ((), ((), ((), ((), ((), ((), ((), ((), ((), ((), ((), ((), ((), ((), ((), ((), ((), ((), ((), ((), ((), ((), ((), ((), ((), ()))))))))))))))))))))))))))))))))))))))))))))))))) (((o.1.1.1, o.1.1.2), (o.1.2.1, ())), (o.2.1, ()))) (fun e0 => ex e0) Good
    (fun v0 v1 h1 h2 h3 => hr ((), (d.2.1, ((), ((), ((), ((), (v0, (v1, ((), ((), ((), ((), ((), ((), ((), ((), ((), ((), ((), ((), ((), ((), ((), ((), ((), ((), ((), ((), ((), ((), ((), ((), ((), ((), ((), ((), ((), ((), ((), ((), ((), ((), ((), ((), ((), ((), ((), ((), ((), ()))))))))))))))))))))))))))))))))))))))))))))))))) (((o.1.1.1, o.1.1.2), (o.1.2.1, ())), (o.2.1, ())) (fun _ _ _ => by kernel_rfl) (cast (by kernel_rfl) h1) (cast (by kernel_rfl) h2) (cast (by kernel_rfl) h3))
    (fun e0 he => (show Good (ex e0) from he ▸ hx))
theorem cutroomref02_Reader_Take_L7_snd (h : CtxOK Try.prog C21) : LoopS Try.prog (getLoop Try.f64 7) cutroomref02_Reader_Take_L7.G := cutroomref02_Reader_Take_L7.sound h (cutroomref02_Reader_Take_L7_lok h)
noncomputable def cutroomref02_Reader_Take_LP : Loops := (addL noLoops 7 cutroomref02_Reader_Take_L7.G)
theorem cutroomref02_Reader_Take_lok (h : CtxOK Try.prog C21) : LOK Try.prog cutroomref02_Reader_Take_LP (Try.f64.body.getD .skip) := LOK_list (l := [(false, getLoop Try.f64 7, cutroomref02_Reader_Take_L7.G)]) (by kernel_rfl) ⟨cutroomref02_Reader_Take_L7_snd h, trivial⟩
abbrev cutroomref02_Reader_Take_r0 : List SD × OSh := ([.v true (.int .u32), .v true (.int .i64)], [(0, .box T_bitio_Writer (.ag (.cons (.sub 1) (.cons (.v true (.int .i64)) (.nil))))), (1, .arr true (.int .u8))])
abbrev cutroomref02_Reader_Take_rs : RSh := [cutroomref02_Reader_Take_r0]
noncomputable def cutroomref02_Reader_Take : FnK C21 cutroomref02_Reader_Take_M cutroomref02_Reader_Take_LP [none, none] Try.f64 where
  sh := [.pb 0 [], .v true (.int .i64)]
  osh := [(0, .box T_bitio_Writer (.ag (.cons (.sub 1) (.cons (.v true (.int .i64)) (.nil))))), (1, .arr true (.int .u8))]
  rs := cutroomref02_Reader_Take_rs
  X := Int × Int × Nat × Nat × Int × List Int
  inX := fun x => ((x.1, (x.2.1, ())), (((x.2.2.1, x.2.2.2.1), (x.2.2.2.2.1, ())), (x.2.2.2.2.2, ())))
  outX := fun y => (y.1.1, y.1.2.1, y.2.1.1.1, y.2.1.1.2, y.2.1.2.1, y.2.2.1)
  go := fun x k => k (mkRes cutroomref02_Reader_Take_r0.1 (x.1, (x.2.1, ()))) (mkOL cutroomref02_Reader_Take_r0.2 (((x.2.2.1, x.2.2.2.1), (x.2.2.2.2.1, ())), (x.2.2.2.2.2, ())))
  hgo := fun _ _ _ => rfl
  hio := fun _ => rfl
  pre := fun d o => cutroomref02_Reader_Take_pre d.2.1 o.1.1.1 o.1.1.2 o.1.2.1 o.2.1
  S := fun d o => cutroomref02_Reader_Take_S d.2.1 o.1.1.1 o.1.1.2 o.1.2.1 o.2.1
  F := fun k d o => cutroomref02_Reader_Take_F (fun v0 v1 v2 v3 v4 v5 => k (v0, v1, v2, v3, v4, v5)) d.2.1 o.1.1.1 o.1.1.2 o.1.2.1 o.2.1
  hn := rfl
  hF := fun _ _ _ _ => by kernel_rfl
  hS := fun d o hd ho hp R k => cutroomref02_Reader_Take_ok d.2.1 o.1.1.1 o.1.1.2 o.1.2.1 o.2.1 hd.2.1 ho.1.2.1 ho.2.1 hp (fun v0 v1 v2 v3 v4 v5 => k (v0, v1, v2, v3, v4, v5)) (fun z => z = k (cutroomref02_Reader_Take_S d.2.1 o.1.1.1 o.1.1.2 o.1.2.1 o.2.1)) rfl
theorem cutroomref02_Reader_Take_snd (h : CtxOK Try.prog C21) : Sound Try.prog 64 cutroomref02_Reader_Take.G := cutroomref02_Reader_Take.sound h rfl (body_LOK (cutroomref02_Reader_Take_lok h))
noncomputable def C22 : Ctx := addF C21 64 cutroomref02_Reader_Take.G
theorem C22_ok : CtxOK Try.prog C22 := C21_ok.add (cutroomref02_Reader_Take_snd C21_ok) Try.f64 rfl (by kernel_rfl) rfl

def cutroomref11_TakeHeader_mt : List (Nat × Nat × List Nat) := [(1, 6, [80, 96]), (2, 54, [80, 96, 416, 417]), (4, 20, [96, 416, 417]), (5, 84, [96, 416, 417]), (6, 340, [96, 416, 417]), (7, 1364, [96, 416, 417]), (8, 5460, [96, 416, 417]), (9, 21844, [96, 416, 417]), (10, 87364, [96]), (11, 262148, [96, 352]), (13, 262148, [96, 352]), (999999, 12, [96])]
def cutroomref11_TakeHeader_M : Masks := maskOf cutroomref11_TakeHeader_mt
noncomputable def cutroomref11_TakeHeader_J2_LP : Loops := noLoops
theorem cutroomref11_TakeHeader_J2_lok (_h : CtxOK Try.prog C22) : LOK Try.prog cutroomref11_TakeHeader_J2_LP (getJoin Try.f17 2) := LOK_list (l := []) (by kernel_rfl) trivial
abbrev cutroomref11_TakeHeader_J2_sh : List SD × OSh := ([.dead, .pb 80 [], .pb 96 [], .dead, .pb 416 [], .v true (.int .i64), .dead, .dead, .dead, .dead, .dead, .dead, .dead, .dead, .dead, .dead, .dead, .dead, .dead, .dead, .dead, .dead, .dead, .dead, .dead, .dead, .dead, .dead, .dead, .dead, .dead, .dead, .dead, .dead, .dead, .dead, .dead, .dead, .dead, .dead, .dead, .dead, .dead, .dead, .dead, .dead, .dead, .dead, .dead, .dead, .dead, .dead, .dead, .dead, .dead, .dead, .dead, .dead, .dead, .dead, .dead, .dead, .dead, .dead, .dead, .dead, .dead, .dead, .dead, .dead, .dead, .dead, .dead, .dead, .dead, .dead, .dead, .dead, .dead, .dead, .dead, .dead, .dead, .dead, .dead, .dead], [(80, .box T_api_Unit (.v false T_api_Unit)), (96, .box T_api_Pic (.v true T_api_Pic)), (416, .box T_bitio_Writer (.ag (.cons (.sub 417) (.cons (.v true (.int .i64)) (.nil))))), (417, .arr true (.int .u8))])
abbrev cutroomref11_TakeHeader_J2_x0 : List SD × OSh := ([.dead, .dead, .pb 96 [], .v true (.int .i64), .dead, .dead, .dead, .dead, .dead, .dead, .dead, .dead, .dead, .dead, .dead, .dead, .dead, .dead, .dead, .dead, .dead, .dead, .dead, .dead, .dead, .dead, .dead, .dead, .dead, .dead, .dead, .dead, .dead, .dead, .dead, .dead, .dead, .dead, .dead, .dead, .dead, .dead, .dead, .dead, .dead, .dead, .dead, .dead, .dead, .dead, .dead, .dead, .dead, .dead, .dead, .dead, .dead, .dead, .dead, .dead, .dead, .dead, .dead, .dead, .dead, .dead, .dead, .dead, .dead, .dead, .dead, .dead, .dead, .dead, .dead, .dead, .dead, .dead, .dead, .dead, .dead, .dead, .dead, .dead, .dead, .dead], [(96, .box T_api_Pic (.v true T_api_Pic))])
noncomputable def cutroomref11_TakeHeader_J2 : JoinK C22 cutroomref11_TakeHeader_M cutroomref11_TakeHeader_J2_LP (getJoin Try.f17 2) where
  sh := cutroomref11_TakeHeader_J2_sh
  X := Int × D_api_Pic
  go := fun d o x k => k .ret (mkS cutroomref11_TakeHeader_J2_x0 ((), ((), ((), (x.1, ((), ((), ((), ((), ((), ((), ((), ((), ((), ((), ((), ((), ((), ((), ((), ((), ((), ((), ((), ((), ((), ((), ((), ((), ((), ((), ((), ((), ((), ((), ((), ((), ((), ((), ((), ((), ((), ((), ((), ((), ((), ((), ((), ((), ((), ((), ((), ((), ((), ((), ((), ((), ((), ((), ((), ((), ((), ((), ((), ((), ((), ((), ((), ((), ((), ((), ((), ((), ((), ((), ((), ((), ((), ((), ((), ((), ((), ((), ((), ((), ((), ((), ())))))))))))))))))))))))))))))))))))))))))))))))))))))))))))))))))))))))))))))))))))))) (x.2, ()))
  T := fun ex d o => cutroomref11_TakeHeader_J2_T (fun e0 e1 => ex (e0, e1)) d.2.2.2.2.2.1 o.1 o.2.1 o.2.2.1.1.1 o.2.2.1.1.2 o.2.2.1.2.1 o.2.2.2.1
  hT := fun _ _ _ _ => by kernel_rfl
theorem cutroomref11_TakeHeader_J2_snd (h : CtxOK Try.prog C22) : CodeS Try.prog (getJoin Try.f17 2) cutroomref11_TakeHeader_J2.G := cutroomref11_TakeHeader_J2.sound h (cutroomref11_TakeHeader_J2_lok h)
noncomputable def cutroomref11_TakeHeader_LP : Loops := (addL noLoops 1048578 cutroomref11_TakeHeader_J2.G)
theorem cutroomref11_TakeHeader_lok (h : CtxOK Try.prog C22) : LOK Try.prog cutroomref11_TakeHeader_LP (Try.f17.body.getD .skip) := LOK_list (l := [(true, getJoin Try.f17 2, cutroomref11_TakeHeader_J2.G)]) (by kernel_rfl) ⟨cutroomref11_TakeHeader_J2_snd h, trivial⟩
abbrev cutroomref11_TakeHeader_r0 : List SD × OSh := ([.v true T_api_Pic, .v true (.int .i64)], [])
abbrev cutroomref11_TakeHeader_rs : RSh := [cutroomref11_TakeHeader_r0]
noncomputable def cutroomref11_TakeHeader : FnK C22 cutroomref11_TakeHeader_M cutroomref11_TakeHeader_LP [none, none] Try.f17 where
  sh := [.v false T_api_Unit]
  osh := []
  rs := cutroomref11_TakeHeader_rs
  X := D_api_Pic × Int
  inX := fun x => ((x.1, (x.2, ())), ())
  outX := fun y => (y.1.1, y.1.2.1)
  go := fun x k => k (mkRes cutroomref11_TakeHeader_r0.1 (x.1, (x.2, ()))) (mkOL cutroomref11_TakeHeader_r0.2 ())
  hgo := fun _ _ _ => rfl
  hio := fun _ => rfl
  pre := fun d o => cutroomref11_TakeHeader_pre d.1
  S := fun d o => cutroomref11_TakeHeader_S d.1
  F := fun k d o => cutroomref11_TakeHeader_F (fun v0 v1 => k (v0, v1)) d.1
  hn := rfl
  hF := fun _ _ _ _ => by kernel_rfl
  hS := fun d o hd ho hp R k => cutroomref11_TakeHeader_ok d.1 hd.1 hp (fun v0 v1 => k (v0, v1)) (fun z => z = k (cutroomref11_TakeHeader_S d.1)) rfl
theorem cutroomref11_TakeHeader_snd (h : CtxOK Try.prog C22) : Sound Try.prog 17 cutroomref11_TakeHeader.G := cutroomref11_TakeHeader.sound h rfl (body_LOK (cutroomref11_TakeHeader_lok h))
noncomputable def C23 : Ctx := addF C22 17 cutroomref11_TakeHeader.G
theorem C23_ok : CtxOK Try.prog C23 := C22_ok.add (cutroomref11_TakeHeader_snd C22_ok) Try.f17 rfl (by kernel_rfl) rfl

def cutroomlaw11_awake_mt : List (Nat × Nat × List Nat) := [(1, 0, []), (2, 6, [80]), (999999, 1, [])]
def cutroomlaw11_awake_M : Masks := maskOf cutroomlaw11_awake_mt
noncomputable def cutroomlaw11_awake_LP : Loops := noLoops
theorem cutroomlaw11_awake_lok (_h : CtxOK Try.prog C23) : LOK Try.prog cutroomlaw11_awake_LP (Try.f18.body.getD .skip) := LOK_list (l := []) (by kernel_rfl) trivial
abbrev cutroomlaw11_awake_r0 : List SD × OSh := ([.v true .bool], [])
abbrev cutroomlaw11_awake_rs : RSh := [cutroomlaw11_awake_r0]
noncomputable def cutroomlaw11_awake : FnK C23 cutroomlaw11_awake_M cutroomlaw11_awake_LP [none] Try.f18 where
  sh := []
  osh := []
  rs := cutroomlaw11_awake_rs
  X := Bool
  inX := fun x => ((x, ()), ())
  outX := fun y => y.1.1
  go := fun x k => k (mkRes cutroomlaw11_awake_r0.1 (x, ())) (mkOL cutroomlaw11_awake_r0.2 ())
  hgo := fun _ _ _ => rfl
  hio := fun _ => rfl
  pre := fun d o => cutroomlaw11_awake_pre
  S := fun d o => cutroomlaw11_awake_S
  F := fun k d o => cutroomlaw11_awake_F (fun v0 => k v0) 
  hn := rfl
  hF := fun _ _ _ _ => by kernel_rfl
  hS := fun d o hd ho hp R k => cutroomlaw11_awake_ok   hp (fun v0 => k v0) (fun z => z = k (cutroomlaw11_awake_S)) rfl
theorem cutroomlaw11_awake_snd (h : CtxOK Try.prog C23) : Sound Try.prog 18 cutroomlaw11_awake.G := cutroomlaw11_awake.sound h rfl (body_LOK (cutroomlaw11_awake_lok h))
noncomputable def C24 : Ctx := addF C23 18 cutroomlaw11_awake.G
theorem C24_ok : CtxOK Try.prog C24 := C23_ok.add (cutroomlaw11_awake_snd C23_ok) Try.f18 rfl (by kernel_rfl) rfl

def cutroomlaw11_PictureHeaders_mt : List (Nat × Nat × List Nat) := [(1, 12, [96, 112]), (3, 12, [96, 112]), (4, 108, [96, 112, 144]), (5, 492, [96, 112, 144, 176]), (7, 108, [96, 112, 144]), (9, 1548, [96, 112, 208]), (11, 8, [112]), (12, 2120, [112, 240]), (13, 6464, [240, 256]), (999999, 16, [])]
def cutroomlaw11_PictureHeaders_M : Masks := maskOf cutroomlaw11_PictureHeaders_mt
noncomputable def cutroomlaw11_PictureHeaders_LP : Loops := noLoops
theorem cutroomlaw11_PictureHeaders_lok (_h : CtxOK Try.prog C24) : LOK Try.prog cutroomlaw11_PictureHeaders_LP (Try.f3.body.getD .skip) := LOK_list (l := []) (by kernel_rfl) trivial
abbrev cutroomlaw11_PictureHeaders_r0 : List SD × OSh := ([.v true .bool], [])
abbrev cutroomlaw11_PictureHeaders_rs : RSh := [cutroomlaw11_PictureHeaders_r0]
noncomputable def cutroomlaw11_PictureHeaders : FnK C24 cutroomlaw11_PictureHeaders_M cutroomlaw11_PictureHeaders_LP [none] Try.f3 where
  sh := [.v true T_api_Pic, .v false T_api_Unit]
  osh := []
  rs := cutroomlaw11_PictureHeaders_rs
  X := Bool
  inX := fun x => ((x, ()), ())
  outX := fun y => y.1.1
  go := fun x k => k (mkRes cutroomlaw11_PictureHeaders_r0.1 (x, ())) (mkOL cutroomlaw11_PictureHeaders_r0.2 ())
  hgo := fun _ _ _ => rfl
  hio := fun _ => rfl
  pre := fun d o => cutroomlaw11_PictureHeaders_pre d.1 d.2.1
  S := fun d o => cutroomlaw11_PictureHeaders_S d.1 d.2.1
  F := fun k d o => cutroomlaw11_PictureHeaders_F (fun v0 => k v0) d.1 d.2.1
  hn := rfl
  hF := fun _ _ _ _ => by kernel_rfl
  hS := fun d o hd ho hp R k => cutroomlaw11_PictureHeaders_ok d.1 d.2.1 hd.1 hd.2.1 hp (fun v0 => k v0) (fun z => z = k (cutroomlaw11_PictureHeaders_S d.1 d.2.1)) rfl
theorem cutroomlaw11_PictureHeaders_snd (h : CtxOK Try.prog C24) : Sound Try.prog 3 cutroomlaw11_PictureHeaders.G := cutroomlaw11_PictureHeaders.sound h rfl (body_LOK (cutroomlaw11_PictureHeaders_lok h))
noncomputable def C25 : Ctx := addF C24 3 cutroomlaw11_PictureHeaders.G
theorem C25_ok : CtxOK Try.prog C25 := C24_ok.add (cutroomlaw11_PictureHeaders_snd C24_ok) Try.f3 rfl (by kernel_rfl) rfl

def rational_abs_mt : List (Nat × Nat × List Nat) := [(1, 1, []), (3, 1, []), (999999, 4, [])]
def rational_abs_M : Masks := maskOf rational_abs_mt
noncomputable def rational_abs_LP : Loops := noLoops
theorem rational_abs_lok (_h : CtxOK Try.prog C25) : LOK Try.prog rational_abs_LP (Try.f82.body.getD .skip) := LOK_list (l := []) (by kernel_rfl) trivial
abbrev rational_abs_r0 : List SD × OSh := ([.v true (.int .u64)], [])
abbrev rational_abs_rs : RSh := [rational_abs_r0]
noncomputable def rational_abs : FnK C25 rational_abs_M rational_abs_LP [none] Try.f82 where
  sh := [.v true (.int .i64)]
  osh := []
  rs := rational_abs_rs
  X := Int
  inX := fun x => ((x, ()), ())
  outX := fun y => y.1.1
  go := fun x k => k (mkRes rational_abs_r0.1 (x, ())) (mkOL rational_abs_r0.2 ())
  hgo := fun _ _ _ => rfl
  hio := fun _ => rfl
  pre := fun d o => rational_abs_pre d.1
  S := fun d o => rational_abs_S d.1
  F := fun k d o => rational_abs_F (fun v0 => k v0) d.1
  hn := rfl
  hF := fun _ _ _ _ => by kernel_rfl
  hS := fun d o hd ho hp R k => rational_abs_ok d.1 hd.1 hp (fun v0 => k v0) (fun z => z = k (rational_abs_S d.1)) rfl
theorem rational_abs_snd (h : CtxOK Try.prog C25) : Sound Try.prog 82 rational_abs.G := rational_abs.sound h rfl (body_LOK (rational_abs_lok h))
noncomputable def C26 : Ctx := addF C25 82 rational_abs.G
theorem C26_ok : CtxOK Try.prog C26 := C25_ok.add (rational_abs_snd C25_ok) Try.f82 rfl (by kernel_rfl) rfl

def rational_gcd_mt : List (Nat × Nat × List Nat) := [(1, 3, []), (2, 3, []), (3, 1, []), (999999, 16, []), (1000000, 1, [])]
def rational_gcd_M : Masks := maskOf rational_gcd_mt
noncomputable def rational_gcd_L1_LP : Loops := noLoops
theorem rational_gcd_L1_lok (_h : CtxOK Try.prog C26) : LOK Try.prog rational_gcd_L1_LP (getLoop Try.f81 1) := LOK_list (l := []) (by kernel_rfl) trivial
abbrev rational_gcd_L1_sh : List SD × OSh := ([.v true (.int .u64), .v true (.int .u64), .dead, .dead, .dead, .dead, .dead, .dead, .dead, .dead, .dead, .dead], [])
abbrev rational_gcd_L1_x0 : List SD × OSh := ([.v true (.int .u64), .dead, .dead, .dead, .dead, .dead, .dead, .dead, .dead, .dead, .dead, .dead], [])
noncomputable def rational_gcd_L1 : LoopK C26 rational_gcd_M rational_gcd_L1_LP (getLoop Try.f81 1) where
  sh := rational_gcd_L1_sh
  X := Int
  go := fun d o x k => k (.exit 0) (mkS rational_gcd_L1_x0 (x, ((), ((), ((), ((), ((), ((), ((), ((), ((), ((), ((), ())))))))))))) ())
  pre := fun d o => rational_gcd_L1_pre d.1 d.2.1
  mu := fun d o => rational_gcd_L1_mu d.1 d.2.1
  S := fun d o => rational_gcd_L1_S d.1 d.2.1
  T := fun rec ex d o => rational_gcd_L1_T  (fun v0 v1 => rec (v0, (v1, ((), ((), ((), ((), ((), ((), ((), ((), ((), ((), ())))))))))))) ()) (fun e0 => ex e0) d.1 d.2.1
  hn := rfl
  hT := fun _ _ _ _ => by kernel_rfl
  hx := fun d o x => ⟨(.exit 0), _, nofun, fun _ _ => rfl⟩
  hS := fun d o hd ho hp R rec ex Good hr hx => rational_gcd_L1_ok d.1 d.2.1 hd.1 hd.2.1 hp (fun v0 v1 => rec (v0, (v1, ((), ((), ((), ((), ((), ((), ((), ((), ((), ((), ())))))))))))) ()) (fun e0 => ex e0) Good
    (fun v0 v1 h1 h2 h3 => hr (v0, (v1, ((), ((), ((), ((), ((), ((), ((), ((), ((), ((), ())))))))))))) () (fun _ _ _ => by kernel_rfl) (cast (by kernel_rfl) h1) (cast (by kernel_rfl) h2) (cast (by kernel_rfl) h3))
    (fun e0 he => (show Good (ex e0) from he ▸ hx))
theorem rational_gcd_L1_snd (h : CtxOK Try.prog C26) : LoopS Try.prog (getLoop Try.f81 1) rational_gcd_L1.G := rational_gcd_L1.sound h (rational_gcd_L1_lok h)
noncomputable def rational_gcd_LP : Loops := (addL noLoops 1 rational_gcd_L1.G)
theorem rational_gcd_lok (h : CtxOK Try.prog C26) : LOK Try.prog rational_gcd_LP (Try.f81.body.getD .skip) := LOK_list (l := [(false, getLoop Try.f81 1, rational_gcd_L1.G)]) (by kernel_rfl) ⟨rational_gcd_L1_snd h, trivial⟩
abbrev rational_gcd_r0 : List SD × OSh := ([.v true (.int .u64)], [])
abbrev rational_gcd_rs : RSh := [rational_gcd_r0]
noncomputable def rational_gcd : FnK C26 rational_gcd_M rational_gcd_LP [none] Try.f81 where
  sh := [.v true (.int .u64), .v true (.int .u64)]
  osh := []
  rs := rational_gcd_rs
  X := Int
  inX := fun x => ((x, ()), ())
  outX := fun y => y.1.1
  go := fun x k => k (mkRes rational_gcd_r0.1 (x, ())) (mkOL rational_gcd_r0.2 ())
  hgo := fun _ _ _ => rfl
  hio := fun _ => rfl
  pre := fun d o => rational_gcd_pre d.1 d.2.1
  S := fun d o => rational_gcd_S d.1 d.2.1
  F := fun k d o => rational_gcd_F (fun v0 => k v0) d.1 d.2.1
  hn := rfl
  hF := fun _ _ _ _ => by kernel_rfl
  hS := fun d o hd ho hp R k => rational_gcd_ok d.1 d.2.1 hd.1 hd.2.1 hp (fun v0 => k v0) (fun z => z = k (rational_gcd_S d.1 d.2.1)) rfl
theorem rational_gcd_snd (h : CtxOK Try.prog C26) : Sound Try.prog 81 rational_gcd.G := rational_gcd.sound h rfl (body_LOK (rational_gcd_lok h))
noncomputable def C27 : Ctx := addF C26 81 rational_gcd.G
theorem C27_ok : CtxOK Try.prog C27 := C26_ok.add (rational_gcd_snd C26_ok) Try.f81 rfl (by kernel_rfl) rfl

def rational_Valid_mt : List (Nat × Nat × List Nat) := [(1, 2, [80]), (999999, 4, []), (2000001, 0, [])]
def rational_Valid_M : Masks := maskOf rational_Valid_mt
noncomputable def rational_Valid_LP : Loops := noLoops
theorem rational_Valid_lok (_h : CtxOK Try.prog C27) : LOK Try.prog rational_Valid_LP (Try.f65.body.getD .skip) := LOK_list (l := []) (by kernel_rfl) trivial
abbrev rational_Valid_r0 : List SD × OSh := ([.v true .bool], [])
abbrev rational_Valid_rs : RSh := [rational_Valid_r0]
noncomputable def rational_Valid : FnK C27 rational_Valid_M rational_Valid_LP [none] Try.f65 where
  sh := [.v true T_api_Rat]
  osh := []
  rs := rational_Valid_rs
  X := Bool
  inX := fun x => ((x, ()), ())
  outX := fun y => y.1.1
  go := fun x k => k (mkRes rational_Valid_r0.1 (x, ())) (mkOL rational_Valid_r0.2 ())
  hgo := fun _ _ _ => rfl
  hio := fun _ => rfl
  pre := fun d o => rational_Valid_pre d.1
  S := fun d o => rational_Valid_S d.1
  F := fun k d o => rational_Valid_F (fun v0 => k v0) d.1
  hn := rfl
  hF := fun _ _ _ _ => by kernel_rfl
  hS := fun d o hd ho hp R k => rational_Valid_ok d.1 hd.1 hp (fun v0 => k v0) (fun z => z = k (rational_Valid_S d.1)) rfl
theorem rational_Valid_snd (h : CtxOK Try.prog C27) : Sound Try.prog 65 rational_Valid.G := rational_Valid.sound h rfl (body_LOK (rational_Valid_lok h))
noncomputable def C28 : Ctx := addF C27 65 rational_Valid.G
theorem C28_ok : CtxOK Try.prog C28 := C27_ok.add (rational_Valid_snd C27_ok) Try.f65 rfl (by kernel_rfl) rfl

def slices_Min_byte_byte_mt : List (Nat × Nat × List Nat) := [(1, 1, []), (3, 1, []), (4, 9, []), (5, 25, []), (6, 25, []), (7, 25, []), (8, 8, []), (999999, 4, []), (1000000, 8, [])]
def slices_Min_byte_byte_M : Masks := maskOf slices_Min_byte_byte_mt
noncomputable def slices_Min_byte_byte_L5_LP : Loops := noLoops
theorem slices_Min_byte_byte_L5_lok (_h : CtxOK Try.prog C28) : LOK Try.prog slices_Min_byte_byte_L5_LP (getLoop Try.f83 5) := LOK_list (l := []) (by kernel_rfl) trivial
abbrev slices_Min_byte_byte_L5_sh : List SD × OSh := ([.v false (.sl (.int .u8)), .dead, .dead, .v true (.int .u8), .v true (.int .i64), .dead, .dead, .dead, .dead, .dead, .dead, .dead, .dead, .dead, .dead, .dead, .dead, .dead, .dead, .dead, .dead, .dead, .dead, .dead, .dead], [])
abbrev slices_Min_byte_byte_L5_x0 : List SD × OSh := ([.dead, .dead, .dead, .v true (.int .u8), .dead, .dead, .dead, .dead, .dead, .dead, .dead, .dead, .dead, .dead, .dead, .dead, .dead, .dead, .dead, .dead, .dead, .dead, .dead, .dead, .dead], [])
noncomputable def slices_Min_byte_byte_L5 : LoopK C28 slices_Min_byte_byte_M slices_Min_byte_byte_L5_LP (getLoop Try.f83 5) where
  sh := slices_Min_byte_byte_L5_sh
  X := Int
  go := fun d o x k => k (.exit 0) (mkS slices_Min_byte_byte_L5_x0 ((), ((), ((), (x, ((), ((), ((), ((), ((), ((), ((), ((), ((), ((), ((), ((), ((), ((), ((), ((), ((), ((), ((), ((), ((), ()))))))))))))))))))))))))) ())
  pre := fun d o => slices_Min_byte_byte_L5_pre d.1 d.2.2.2.1 d.2.2.2.2.1
  mu := fun d o => slices_Min_byte_byte_L5_mu d.1 d.2.2.2.1 d.2.2.2.2.1
  S := fun d o => slices_Min_byte_byte_L5_S d.1 d.2.2.2.1 d.2.2.2.2.1
  T := fun rec ex d o => slices_Min_byte_byte_L5_T d.1 (fun v0 v1 => rec (d.1, ((), ((), (v0, (v1, ((), ((), ((), ((), ((), ((), ((), ((), ((), ((), ((), ((), ((), ((), ((), ((), ((), ((), ((), ((), ()))))))))))))))))))))))))) ()) (fun e0 => ex e0) d.2.2.2.1 d.2.2.2.2.1
  hn := rfl
  hT := fun _ _ _ _ => by kernel_rfl
  hx := fun d o x => ⟨(.exit 0), _, nofun, fun _ _ => rfl⟩
  hS := fun d o hd ho hp R rec ex Good hr hx => slices_Min_byte_byte_L5_ok d.1 d.2.2.2.1 d.2.2.2.2.1 hd.1 hd.2.2.2.1 hd.2.2.2.2.1 hp (fun v0 v1 => rec (d.1, ((), ((), (v0, (v1, ((), ((), ((), ((), ((), ((), ((), ((), ((), ((), ((), ((), ((), ((), ((), ((), ((), ((), ((), ((), ()))))))))))))))))))))))))) ()) (fun e0 => ex e0) Good
    (fun v0 v1 h1 h2 h3 => hr (d.1, ((), ((), (v0, (v1, ((), ((), ((), ((), ((), ((), ((), ((), ((), ((), ((), ((), ((), ((), ((), ((), ((), ((), ((), ((), ()))))))))))))))))))))))))) () (fun _ _ _ => by kernel_rfl) (cast (by kernel_rfl) h1) (cast (by kernel_rfl) h2) (cast (by kernel_rfl) h3))
    (fun e0 he => (show Good (ex e0) from he ▸ hx))
theorem slices_Min_byte_byte_L5_snd (h : CtxOK Try.prog C28) : LoopS Try.prog (getLoop Try.f83 5) slices_Min_byte_byte_L5.G := slices_Min_byte_byte_L5.sound h (slices_Min_byte_byte_L5_lok h)
noncomputable def slices_Min_byte_byte_LP : Loops := (addL noLoops 5 slices_Min_byte_byte_L5.G)
theorem slices_Min_byte_byte_lok (h : CtxOK Try.prog C28) : LOK Try.prog slices_Min_byte_byte_LP (Try.f83.body.getD .skip) := LOK_list (l := [(false, getLoop Try.f83 5, slices_Min_byte_byte_L5.G)]) (by kernel_rfl) ⟨slices_Min_byte_byte_L5_snd h, trivial⟩
abbrev slices_Min_byte_byte_r0 : List SD × OSh := ([.v true (.int .u8)], [])
abbrev slices_Min_byte_byte_rs : RSh := [slices_Min_byte_byte_r0]
noncomputable def slices_Min_byte_byte : FnK C28 slices_Min_byte_byte_M slices_Min_byte_byte_LP [none] Try.f83 where
  sh := [.v false (.sl (.int .u8))]
  osh := []
  rs := slices_Min_byte_byte_rs
  X := Int
  inX := fun x => ((x, ()), ())
  outX := fun y => y.1.1
  go := fun x k => k (mkRes slices_Min_byte_byte_r0.1 (x, ())) (mkOL slices_Min_byte_byte_r0.2 ())
  hgo := fun _ _ _ => rfl
  hio := fun _ => rfl
  pre := fun d o => slices_Min_byte_byte_pre d.1
  S := fun d o => slices_Min_byte_byte_S d.1
  F := fun k d o => slices_Min_byte_byte_F (fun v0 => k v0) d.1
  hn := rfl
  hF := fun _ _ _ _ => by kernel_rfl
  hS := fun d o hd ho hp R k => slices_Min_byte_byte_ok d.1 hd.1 hp (fun v0 => k v0) (fun z => z = k (slices_Min_byte_byte_S d.1)) rfl
theorem slices_Min_byte_byte_snd (h : CtxOK Try.prog C28) : Sound Try.prog 83 slices_Min_byte_byte.G := slices_Min_byte_byte.sound h rfl (body_LOK (slices_Min_byte_byte_lok h))
noncomputable def C29 : Ctx := addF C28 83 slices_Min_byte_byte.G
theorem C29_ok : CtxOK Try.prog C29 := C28_ok.add (slices_Min_byte_byte_snd C28_ok) Try.f83 rfl (by kernel_rfl) rfl

def quant_Valid_mt : List (Nat × Nat × List Nat) := [(1, 2, [80]), (999999, 4, [])]
def quant_Valid_M : Masks := maskOf quant_Valid_mt
noncomputable def quant_Valid_LP : Loops := noLoops
theorem quant_Valid_lok (_h : CtxOK Try.prog C29) : LOK Try.prog quant_Valid_LP (Try.f66.body.getD .skip) := LOK_list (l := []) (by kernel_rfl) trivial
abbrev quant_Valid_r0 : List SD × OSh := ([.v true .bool], [])
abbrev quant_Valid_rs : RSh := [quant_Valid_r0]
noncomputable def quant_Valid : FnK C29 quant_Valid_M quant_Valid_LP [none] Try.f66 where
  sh := [.v true (.arr 64 (.int .u8))]
  osh := []
  rs := quant_Valid_rs
  X := Bool
  inX := fun x => ((x, ()), ())
  outX := fun y => y.1.1
  go := fun x k => k (mkRes quant_Valid_r0.1 (x, ())) (mkOL quant_Valid_r0.2 ())
  hgo := fun _ _ _ => rfl
  hio := fun _ => rfl
  pre := fun d o => quant_Valid_pre d.1
  S := fun d o => quant_Valid_S d.1
  F := fun k d o => quant_Valid_F (fun v0 => k v0) d.1
  hn := rfl
  hF := fun _ _ _ _ => by kernel_rfl
  hS := fun d o hd ho hp R k => quant_Valid_ok d.1 hd.1 hp (fun v0 => k v0) (fun z => z = k (quant_Valid_S d.1)) rfl
theorem quant_Valid_snd (h : CtxOK Try.prog C29) : Sound Try.prog 66 quant_Valid.G := quant_Valid.sound h rfl (body_LOK (quant_Valid_lok h))
noncomputable def C30 : Ctx := addF C29 66 quant_Valid.G
theorem C30_ok : CtxOK Try.prog C30 := C29_ok.add (quant_Valid_snd C29_ok) Try.f66 rfl (by kernel_rfl) rfl

def picture_ValidSeq_mt : List (Nat × Nat × List Nat) := [(1, 2, [80]), (2, 10, [80]), (4, 10, [80]), (10, 2, [80]), (11, 18, [80]), (999999, 4, [])]
def picture_ValidSeq_M : Masks := maskOf picture_ValidSeq_mt
noncomputable def picture_ValidSeq_J4_LP : Loops := noLoops
theorem picture_ValidSeq_J4_lok (_h : CtxOK Try.prog C30) : LOK Try.prog picture_ValidSeq_J4_LP (getJoin Try.f19 4) := LOK_list (l := []) (by kernel_rfl) trivial
abbrev picture_ValidSeq_J4_sh : List SD × OSh := ([.dead, .pb 80 [], .dead, .v true (.int .i64), .dead, .dead, .dead, .dead, .dead, .dead, .dead, .dead, .dead, .dead, .dead, .dead, .dead, .dead, .dead, .dead, .dead, .dead, .dead, .dead, .dead, .dead, .dead, .dead, .dead, .dead, .dead, .dead, .dead, .dead, .dead, .dead, .dead, .dead, .dead, .dead, .dead, .dead, .dead, .dead, .dead, .dead, .dead, .dead, .dead, .dead, .dead, .dead, .dead, .dead, .dead, .dead, .dead, .dead, .dead, .dead, .dead, .dead, .dead, .dead, .dead, .dead, .dead, .dead, .dead, .dead, .dead, .dead, .dead, .dead, .dead, .dead, .dead, .dead, .dead, .dead, .dead, .dead, .dead, .dead, .dead, .dead, .dead, .dead, .dead, .dead, .dead, .dead, .dead, .dead, .dead, .dead, .dead, .dead, .dead, .dead, .dead, .dead, .dead, .dead, .dead, .dead, .dead, .dead, .dead, .dead, .dead, .dead], [(80, .box T_api_Seq (.v true T_api_Seq))])
abbrev picture_ValidSeq_J4_x0 : List SD × OSh := ([.dead, .dead, .v true .bool, .dead, .dead, .dead, .dead, .dead, .dead, .dead, .dead, .dead, .dead, .dead, .dead, .dead, .dead, .dead, .dead, .dead, .dead, .dead, .dead, .dead, .dead, .dead, .dead, .dead, .dead, .dead, .dead, .dead, .dead, .dead, .dead, .dead, .dead, .dead, .dead, .dead, .dead, .dead, .dead, .dead, .dead, .dead, .dead, .dead, .dead, .dead, .dead, .dead, .dead, .dead, .dead, .dead, .dead, .dead, .dead, .dead, .dead, .dead, .dead, .dead, .dead, .dead, .dead, .dead, .dead, .dead, .dead, .dead, .dead, .dead, .dead, .dead, .dead, .dead, .dead, .dead, .dead, .dead, .dead, .dead, .dead, .dead, .dead, .dead, .dead, .dead, .dead, .dead, .dead, .dead, .dead, .dead, .dead, .dead, .dead, .dead, .dead, .dead, .dead, .dead, .dead, .dead, .dead, .dead, .dead, .dead, .dead, .dead], [])
noncomputable def picture_ValidSeq_J4 : JoinK C30 picture_ValidSeq_M picture_ValidSeq_J4_LP (getJoin Try.f19 4) where
  sh := picture_ValidSeq_J4_sh
  X := Bool
  go := fun d o x k => k .ret (mkS picture_ValidSeq_J4_x0 ((), ((), (x, ((), ((), ((), ((), ((), ((), ((), ((), ((), ((), ((), ((), ((), ((), ((), ((), ((), ((), ((), ((), ((), ((), ((), ((), ((), ((), ((), ((), ((), ((), ((), ((), ((), ((), ((), ((), ((), ((), ((), ((), ((), ((), ((), ((), ((), ((), ((), ((), ((), ((), ((), ((), ((), ((), ((), ((), ((), ((), ((), ((), ((), ((), ((), ((), ((), ((), ((), ((), ((), ((), ((), ((), ((), ((), ((), ((), ((), ((), ((), ((), ((), ((), ((), ((), ((), ((), ((), ((), ((), ((), ((), ((), ((), ((), ((), ((), ((), ((), ((), ((), ((), ((), ((), ((), ((), ((), ((), ((), ((), ())))))))))))))))))))))))))))))))))))))))))))))))))))))))))))))))))))))))))))))))))))))))))))))))))))))))))))))))) ())
  T := fun ex d o => picture_ValidSeq_J4_T (fun e0 => ex e0) d.2.2.2.1 o.1
  hT := fun _ _ _ _ => by kernel_rfl
theorem picture_ValidSeq_J4_snd (h : CtxOK Try.prog C30) : CodeS Try.prog (getJoin Try.f19 4) picture_ValidSeq_J4.G := picture_ValidSeq_J4.sound h (picture_ValidSeq_J4_lok h)
noncomputable def picture_ValidSeq_LP : Loops := (addL noLoops 1048580 picture_ValidSeq_J4.G)
theorem picture_ValidSeq_lok (h : CtxOK Try.prog C30) : LOK Try.prog picture_ValidSeq_LP (Try.f19.body.getD .skip) := LOK_list (l := [(true, getJoin Try.f19 4, picture_ValidSeq_J4.G)]) (by kernel_rfl) ⟨picture_ValidSeq_J4_snd h, trivial⟩
abbrev picture_ValidSeq_r0 : List SD × OSh := ([.v true .bool], [])
abbrev picture_ValidSeq_rs : RSh := [picture_ValidSeq_r0]
noncomputable def picture_ValidSeq : FnK C30 picture_ValidSeq_M picture_ValidSeq_LP [none] Try.f19 where
  sh := [.v true T_api_Seq]
  osh := []
  rs := picture_ValidSeq_rs
  X := Bool
  inX := fun x => ((x, ()), ())
  outX := fun y => y.1.1
  go := fun x k => k (mkRes picture_ValidSeq_r0.1 (x, ())) (mkOL picture_ValidSeq_r0.2 ())
  hgo := fun _ _ _ => rfl
  hio := fun _ => rfl
  pre := fun d o => picture_ValidSeq_pre d.1
  S := fun d o => picture_ValidSeq_S d.1
  F := fun k d o => picture_ValidSeq_F (fun v0 => k v0) d.1
  hn := rfl
  hF := fun _ _ _ _ => by kernel_rfl
  hS := fun d o hd ho hp R k => picture_ValidSeq_ok d.1 hd.1 hp (fun v0 => k v0) (fun z => z = k (picture_ValidSeq_S d.1)) rfl
theorem picture_ValidSeq_snd (h : CtxOK Try.prog C30) : Sound Try.prog 19 picture_ValidSeq.G := picture_ValidSeq.sound h rfl (body_LOK (picture_ValidSeq_lok h))
noncomputable def C31 : Ctx := addF C30 19 picture_ValidSeq.G
theorem C31_ok : CtxOK Try.prog C31 := C30_ok.add (picture_ValidSeq_snd C30_ok) Try.f19 rfl (by kernel_rfl) rfl

def cutroomref01_mag_mt : List (Nat × Nat × List Nat) := [(1, 1, []), (3, 1, []), (999999, 4, [])]
def cutroomref01_mag_M : Masks := maskOf cutroomref01_mag_mt
noncomputable def cutroomref01_mag_LP : Loops := noLoops
theorem cutroomref01_mag_lok (_h : CtxOK Try.prog C31) : LOK Try.prog cutroomref01_mag_LP (Try.f85.body.getD .skip) := LOK_list (l := []) (by kernel_rfl) trivial
abbrev cutroomref01_mag_r0 : List SD × OSh := ([.v true (.int .u64)], [])
abbrev cutroomref01_mag_rs : RSh := [cutroomref01_mag_r0]
noncomputable def cutroomref01_mag : FnK C31 cutroomref01_mag_M cutroomref01_mag_LP [none] Try.f85 where
  sh := [.v true (.int .i64)]
  osh := []
  rs := cutroomref01_mag_rs
  X := Int
  inX := fun x => ((x, ()), ())
  outX := fun y => y.1.1
  go := fun x k => k (mkRes cutroomref01_mag_r0.1 (x, ())) (mkOL cutroomref01_mag_r0.2 ())
  hgo := fun _ _ _ => rfl
  hio := fun _ => rfl
  pre := fun d o => cutroomref01_mag_pre d.1
  S := fun d o => cutroomref01_mag_S d.1
  F := fun k d o => cutroomref01_mag_F (fun v0 => k v0) d.1
  hn := rfl
  hF := fun _ _ _ _ => by kernel_rfl
  hS := fun d o hd ho hp R k => cutroomref01_mag_ok d.1 hd.1 hp (fun v0 => k v0) (fun z => z = k (cutroomref01_mag_S d.1)) rfl
theorem cutroomref01_mag_snd (h : CtxOK Try.prog C31) : Sound Try.prog 85 cutroomref01_mag.G := cutroomref01_mag.sound h rfl (body_LOK (cutroomref01_mag_lok h))
noncomputable def C32 : Ctx := addF C31 85 cutroomref01_mag.G
theorem C32_ok : CtxOK Try.prog C32 := C31_ok.add (cutroomref01_mag_snd C31_ok) Try.f85 rfl (by kernel_rfl) rfl

def cutroomref01_gcd_mt : List (Nat × Nat × List Nat) := [(1, 3, []), (2, 3, []), (3, 1, []), (999999, 16, []), (1000000, 1, [])]
def cutroomref01_gcd_M : Masks := maskOf cutroomref01_gcd_mt
noncomputable def cutroomref01_gcd_L1_LP : Loops := noLoops
theorem cutroomref01_gcd_L1_lok (_h : CtxOK Try.prog C32) : LOK Try.prog cutroomref01_gcd_L1_LP (getLoop Try.f84 1) := LOK_list (l := []) (by kernel_rfl) trivial
abbrev cutroomref01_gcd_L1_sh : List SD × OSh := ([.v true (.int .u64), .v true (.int .u64), .dead, .dead, .dead, .dead, .dead, .dead, .dead, .dead, .dead, .dead], [])
abbrev cutroomref01_gcd_L1_x0 : List SD × OSh := ([.v true (.int .u64), .dead, .dead, .dead, .dead, .dead, .dead, .dead, .dead, .dead, .dead, .dead], [])
noncomputable def cutroomref01_gcd_L1 : LoopK C32 cutroomref01_gcd_M cutroomref01_gcd_L1_LP (getLoop Try.f84 1) where
  sh := cutroomref01_gcd_L1_sh
  X := Int
  go := fun d o x k => k (.exit 0) (mkS cutroomref01_gcd_L1_x0 (x, ((), ((), ((), ((), ((), ((), ((), ((), ((), ((), ((), ())))))))))))) ())
  pre := fun d o => cutroomref01_gcd_L1_pre d.1 d.2.1
  mu := fun d o => cutroomref01_gcd_L1_mu d.1 d.2.1
  S := fun d o => cutroomref01_gcd_L1_S d.1 d.2.1
  T := fun rec ex d o => cutroomref01_gcd_L1_T  (fun v0 v1 => rec (v0, (v1, ((), ((), ((), ((), ((), ((), ((), ((), ((), ((), ())))))))))))) ()) (fun e0 => ex e0) d.1 d.2.1
  hn := rfl
  hT := fun _ _ _ _ => by kernel_rfl
  hx := fun d o x => ⟨(.exit 0), _, nofun, fun _ _ => rfl⟩
  hS := fun d o hd ho hp R rec ex Good hr hx => cutroomref01_gcd_L1_ok d.1 d.2.1 hd.1 hd.2.1 hp (fun v0 v1 => rec (v0, (v1, ((), ((), ((), ((), ((), ((), ((), ((), ((), ((), ())))))))))))) ()) (fun e0 => ex e0) Good
    (fun v0 v1 h1 h2 h3 => hr (v0, (v1, ((), ((), ((), ((), ((), ((), ((), ((), ((), ((), ())))))))))))) () (fun _ _ _ => by kernel_rfl) (cast (by kernel_rfl) h1) (cast (by kernel_rfl) h2) (cast (by kernel_rfl) h3))
    (fun e0 he => (show Good (ex e0) from he ▸ hx))
theorem cutroomref01_gcd_L1_snd (h : CtxOK Try.prog C32) : LoopS Try.prog (getLoop Try.f84 1) cutroomref01_gcd_L1.G := cutroomref01_gcd_L1.sound h (cutroomref01_gcd_L1_lok h)
noncomputable def cutroomref01_gcd_LP : Loops := (addL noLoops 1 cutroomref01_gcd_L1.G)
theorem cutroomref01_gcd_lok (h : CtxOK Try.prog C32) : LOK Try.prog cutroomref01_gcd_LP (Try.f84.body.getD .skip) := LOK_list (l := [(false, getLoop Try.f84 1, cutroomref01_gcd_L1.G)]) (by kernel_rfl) ⟨cutroomref01_gcd_L1_snd h, trivial⟩
abbrev cutroomref01_gcd_r0 : List SD × OSh := ([.v true (.int .u64)], [])
abbrev cutroomref01_gcd_rs : RSh := [cutroomref01_gcd_r0]
noncomputable def cutroomref01_gcd : FnK C32 cutroomref01_gcd_M cutroomref01_gcd_LP [none] Try.f84 where
  sh := [.v true (.int .u64), .v true (.int .u64)]
  osh := []
  rs := cutroomref01_gcd_rs
  X := Int
  inX := fun x => ((x, ()), ())
  outX := fun y => y.1.1
  go := fun x k => k (mkRes cutroomref01_gcd_r0.1 (x, ())) (mkOL cutroomref01_gcd_r0.2 ())
  hgo := fun _ _ _ => rfl
  hio := fun _ => rfl
  pre := fun d o => cutroomref01_gcd_pre d.1 d.2.1
  S := fun d o => cutroomref01_gcd_S d.1 d.2.1
  F := fun k d o => cutroomref01_gcd_F (fun v0 => k v0) d.1 d.2.1
  hn := rfl
  hF := fun _ _ _ _ => by kernel_rfl
  hS := fun d o hd ho hp R k => cutroomref01_gcd_ok d.1 d.2.1 hd.1 hd.2.1 hp (fun v0 => k v0) (fun z => z = k (cutroomref01_gcd_S d.1 d.2.1)) rfl
theorem cutroomref01_gcd_snd (h : CtxOK Try.prog C32) : Sound Try.prog 84 cutroomref01_gcd.G := cutroomref01_gcd.sound h rfl (body_LOK (cutroomref01_gcd_lok h))
noncomputable def C33 : Ctx := addF C32 84 cutroomref01_gcd.G
theorem C33_ok : CtxOK Try.prog C33 := C32_ok.add (cutroomref01_gcd_snd C32_ok) Try.f84 rfl (by kernel_rfl) rfl

def cutroomref01_Valid_mt : List (Nat × Nat × List Nat) := [(1, 2, [80]), (999999, 4, []), (2000001, 0, [])]
def cutroomref01_Valid_M : Masks := maskOf cutroomref01_Valid_mt
noncomputable def cutroomref01_Valid_LP : Loops := noLoops
theorem cutroomref01_Valid_lok (_h : CtxOK Try.prog C33) : LOK Try.prog cutroomref01_Valid_LP (Try.f67.body.getD .skip) := LOK_list (l := []) (by kernel_rfl) trivial
abbrev cutroomref01_Valid_r0 : List SD × OSh := ([.v true .bool], [])
abbrev cutroomref01_Valid_rs : RSh := [cutroomref01_Valid_r0]
noncomputable def cutroomref01_Valid : FnK C33 cutroomref01_Valid_M cutroomref01_Valid_LP [none] Try.f67 where
  sh := [.v true T_api_Rat]
  osh := []
  rs := cutroomref01_Valid_rs
  X := Bool
  inX := fun x => ((x, ()), ())
  outX := fun y => y.1.1
  go := fun x k => k (mkRes cutroomref01_Valid_r0.1 (x, ())) (mkOL cutroomref01_Valid_r0.2 ())
  hgo := fun _ _ _ => rfl
  hio := fun _ => rfl
  pre := fun d o => cutroomref01_Valid_pre d.1
  S := fun d o => cutroomref01_Valid_S d.1
  F := fun k d o => cutroomref01_Valid_F (fun v0 => k v0) d.1
  hn := rfl
  hF := fun _ _ _ _ => by kernel_rfl
  hS := fun d o hd ho hp R k => cutroomref01_Valid_ok d.1 hd.1 hp (fun v0 => k v0) (fun z => z = k (cutroomref01_Valid_S d.1)) rfl
theorem cutroomref01_Valid_snd (h : CtxOK Try.prog C33) : Sound Try.prog 67 cutroomref01_Valid.G := cutroomref01_Valid.sound h rfl (body_LOK (cutroomref01_Valid_lok h))
noncomputable def C34 : Ctx := addF C33 67 cutroomref01_Valid.G
theorem C34_ok : CtxOK Try.prog C34 := C33_ok.add (cutroomref01_Valid_snd C33_ok) Try.f67 rfl (by kernel_rfl) rfl

def cutroomref06_Valid_mt : List (Nat × Nat × List Nat) := [(1, 2, [80]), (2, 10, [80]), (3, 10, [80]), (4, 10, [80]), (6, 0, []), (999999, 4, []), (1000000, 0, [])]
def cutroomref06_Valid_M : Masks := maskOf cutroomref06_Valid_mt
noncomputable def cutroomref06_Valid_L2_LP : Loops := noLoops
theorem cutroomref06_Valid_L2_lok (_h : CtxOK Try.prog C34) : LOK Try.prog cutroomref06_Valid_L2_LP (getLoop Try.f68 2) := LOK_list (l := []) (by kernel_rfl) trivial
abbrev cutroomref06_Valid_L2_sh : List SD × OSh := ([.dead, .pb 80 [], .dead, .v true (.int .i64), .dead, .dead, .dead, .dead, .dead, .dead, .dead, .dead], [(80, .box (.arr 64 (.int .u8)) (.v true (.arr 64 (.int .u8))))])
abbrev cutroomref06_Valid_L2_x0 : List SD × OSh := ([.dead, .dead, .v true .bool, .dead, .dead, .dead, .dead, .dead, .dead, .dead, .dead, .dead], [])
abbrev cutroomref06_Valid_L2_x1 : List SD × OSh := ([.dead, .dead, .dead, .dead, .dead, .dead, .dead, .dead, .dead, .dead, .dead, .dead], [])
noncomputable def cutroomref06_Valid_L2 : LoopK C34 cutroomref06_Valid_M cutroomref06_Valid_L2_LP (getLoop Try.f68 2) where
  sh := cutroomref06_Valid_L2_sh
  X := (Bool) ⊕ (Unit)
  go := fun d o x k => caseS x (fun a0 => k .ret (mkS cutroomref06_Valid_L2_x0 ((), ((), (a0, ((), ((), ((), ((), ((), ((), ((), ((), ((), ())))))))))))) ())) (fun b0 => k (.exit 0) (mkS cutroomref06_Valid_L2_x1 ((), ((), ((), ((), ((), ((), ((), ((), ((), ((), ((), ((), ())))))))))))) ()))
  pre := fun d o => cutroomref06_Valid_L2_pre o.1 d.2.2.2.1
  mu := fun d o => cutroomref06_Valid_L2_mu o.1 d.2.2.2.1
  S := fun d o => cutroomref06_Valid_L2_S o.1 d.2.2.2.1
  T := fun rec ex d o => cutroomref06_Valid_L2_T o.1 (fun v0 => rec ((), ((), ((), (v0, ((), ((), ((), ((), ((), ((), ((), ((), ())))))))))))) (o.1, ())) (fun e0 => ex (.inl e0)) (fun _ => ex (.inr ())) d.2.2.2.1
  hn := rfl
  hT := fun _ _ _ _ => by kernel_rfl
  hx := fun d o x => match x with | .inl z => ⟨.ret, _, nofun, fun _ _ => rfl⟩ | .inr z => ⟨(.exit 0), _, nofun, fun _ _ => rfl⟩
  hS := fun d o hd ho hp R rec ex Good hr hx => cutroomref06_Valid_L2_ok o.1 d.2.2.2.1 hd.2.2.2.1 ho.1 hp (fun v0 => rec ((), ((), ((), (v0, ((), ((), ((), ((), ((), ((), ((), ((), ())))))))))))) (o.1, ())) (fun e0 => ex (.inl e0)) (fun _ => ex (.inr ())) Good
    (fun v0 h1 h2 h3 => hr ((), ((), ((), (v0, ((), ((), ((), ((), ((), ((), ((), ((), ())))))))))))) (o.1, ()) (fun _ _ _ => by kernel_rfl) (cast (by kernel_rfl) h1) (cast (by kernel_rfl) h2) (cast (by kernel_rfl) h3))
    (fun e0 he => (show Good (ex (.inl e0)) from he ▸ hx))
    (fun he => (show Good (ex (.inr ())) from he ▸ hx))
theorem cutroomref06_Valid_L2_snd (h : CtxOK Try.prog C34) : LoopS Try.prog (getLoop Try.f68 2) cutroomref06_Valid_L2.G := cutroomref06_Valid_L2.sound h (cutroomref06_Valid_L2_lok h)
noncomputable def cutroomref06_Valid_LP : Loops := (addL noLoops 2 cutroomref06_Valid_L2.G)
theorem cutroomref06_Valid_lok (h : CtxOK Try.prog C34) : LOK Try.prog cutroomref06_Valid_LP (Try.f68.body.getD .skip) := LOK_list (l := [(false, getLoop Try.f68 2, cutroomref06_Valid_L2.G)]) (by kernel_rfl) ⟨cutroomref06_Valid_L2_snd h, trivial⟩
abbrev cutroomref06_Valid_r0 : List SD × OSh := ([.v true .bool], [])
abbrev cutroomref06_Valid_rs : RSh := [cutroomref06_Valid_r0]
noncomputable def cutroomref06_Valid : FnK C34 cutroomref06_Valid_M cutroomref06_Valid_LP [none] Try.f68 where
  sh := [.v true (.arr 64 (.int .u8))]
  osh := []
  rs := cutroomref06_Valid_rs
  X := Bool
  inX := fun x => ((x, ()), ())
  outX := fun y => y.1.1
  go := fun x k => k (mkRes cutroomref06_Valid_r0.1 (x, ())) (mkOL cutroomref06_Valid_r0.2 ())
  hgo := fun _ _ _ => rfl
  hio := fun _ => rfl
  pre := fun d o => cutroomref06_Valid_pre d.1
  S := fun d o => cutroomref06_Valid_S d.1
  F := fun k d o => cutroomref06_Valid_F (fun v0 => k v0) d.1
  hn := rfl
  hF := fun _ _ _ _ => by kernel_rfl
  hS := fun d o hd ho hp R k => cutroomref06_Valid_ok d.1 hd.1 hp (fun v0 => k v0) (fun z => z = k (cutroomref06_Valid_S d.1)) rfl
theorem cutroomref06_Valid_snd (h : CtxOK Try.prog C34) : Sound Try.prog 68 cutroomref06_Valid.G := cutroomref06_Valid.sound h rfl (body_LOK (cutroomref06_Valid_lok h))
noncomputable def C35 : Ctx := addF C34 68 cutroomref06_Valid.G
theorem C35_ok : CtxOK Try.prog C35 := C34_ok.add (cutroomref06_Valid_snd C34_ok) Try.f68 rfl (by kernel_rfl) rfl

def cutroomref11_ValidSeq_mt : List (Nat × Nat × List Nat) := [(1, 2, [80]), (3, 2, [80]), (5, 2, [80]), (7, 2, [80]), (9, 2, [80]), (999999, 4, [])]
def cutroomref11_ValidSeq_M : Masks := maskOf cutroomref11_ValidSeq_mt
noncomputable def cutroomref11_ValidSeq_J3_LP : Loops := noLoops
theorem cutroomref11_ValidSeq_J3_lok (_h : CtxOK Try.prog C35) : LOK Try.prog cutroomref11_ValidSeq_J3_LP (getJoin Try.f20 3) := LOK_list (l := []) (by kernel_rfl) trivial
abbrev cutroomref11_ValidSeq_J3_sh : List SD × OSh := ([.dead, .pb 80 [], .dead, .dead, .dead, .dead, .dead, .dead, .dead, .dead, .dead, .dead, .dead, .dead, .dead, .dead, .dead, .dead, .dead, .dead, .dead, .dead, .dead, .dead, .dead, .dead, .dead, .dead, .dead, .dead, .dead, .dead, .dead, .dead, .dead, .dead, .dead, .dead, .dead, .dead, .dead, .dead, .dead, .dead, .dead, .dead, .dead, .dead, .dead, .dead, .dead, .dead, .dead, .dead, .dead, .dead, .dead, .dead, .dead, .dead, .dead, .dead, .dead, .dead, .dead, .dead, .dead, .dead, .dead, .dead, .dead, .dead, .dead, .dead, .dead, .dead, .dead, .dead, .dead, .dead, .dead, .dead, .dead, .dead, .dead, .dead, .dead, .dead, .dead, .dead, .dead, .dead, .dead, .dead, .dead, .dead, .dead, .dead, .dead, .dead, .dead, .dead, .dead, .dead, .dead, .dead, .dead, .dead, .dead, .dead, .dead], [(80, .box T_api_Seq (.v true T_api_Seq))])
abbrev cutroomref11_ValidSeq_J3_x0 : List SD × OSh := ([.dead, .dead, .v true .bool, .dead, .dead, .dead, .dead, .dead, .dead, .dead, .dead, .dead, .dead, .dead, .dead, .dead, .dead, .dead, .dead, .dead, .dead, .dead, .dead, .dead, .dead, .dead, .dead, .dead, .dead, .dead, .dead, .dead, .dead, .dead, .dead, .dead, .dead, .dead, .dead, .dead, .dead, .dead, .dead, .dead, .dead, .dead, .dead, .dead, .dead, .dead, .dead, .dead, .dead, .dead, .dead, .dead, .dead, .dead, .dead, .dead, .dead, .dead, .dead, .dead, .dead, .dead, .dead, .dead, .dead, .dead, .dead, .dead, .dead, .dead, .dead, .dead, .dead, .dead, .dead, .dead, .dead, .dead, .dead, .dead, .dead, .dead, .dead, .dead, .dead, .dead, .dead, .dead, .dead, .dead, .dead, .dead, .dead, .dead, .dead, .dead, .dead, .dead, .dead, .dead, .dead, .dead, .dead, .dead, .dead, .dead, .dead], [])
noncomputable def cutroomref11_ValidSeq_J3 : JoinK C35 cutroomref11_ValidSeq_M cutroomref11_ValidSeq_J3_LP (getJoin Try.f20 3) where
  sh := cutroomref11_ValidSeq_J3_sh
  X := Bool
  go := fun d o x k => k .ret (mkS cutroomref11_ValidSeq_J3_x0 ((), ((), (x, ((), ((), ((), ((), ((), ((), ((), ((), ((), ((), ((), ((), ((), ((), ((), ((), ((), ((), ((), ((), ((), ((), ((), ((), ((), ((), ((), ((), ((), ((), ((), ((), ((), ((), ((), ((), ((), ((), ((), ((), ((), ((), ((), ((), ((), ((), ((), ((), ((), ((), ((), ((), ((), ((), ((), ((), ((), ((), ((), ((), ((), ((), ((), ((), ((), ((), ((), ((), ((), ((), ((), ((), ((), ((), ((), ((), ((), ((), ((), ((), ((), ((), ((), ((), ((), ((), ((), ((), ((), ((), ((), ((), ((), ((), ((), ((), ((), ((), ((), ((), ((), ((), ((), ((), ((), ((), ((), ((), ()))))))))))))))))))))))))))))))))))))))))))))))))))))))))))))))))))))))))))))))))))))))))))))))))))))))))))))))) ())
  T := fun ex d o => cutroomref11_ValidSeq_J3_T (fun e0 => ex e0) o.1
  hT := fun _ _ _ _ => by kernel_rfl
theorem cutroomref11_ValidSeq_J3_snd (h : CtxOK Try.prog C35) : CodeS Try.prog (getJoin Try.f20 3) cutroomref11_ValidSeq_J3.G := cutroomref11_ValidSeq_J3.sound h (cutroomref11_ValidSeq_J3_lok h)
noncomputable def cutroomref11_ValidSeq_LP : Loops := (addL noLoops 1048579 cutroomref11_ValidSeq_J3.G)
theorem cutroomref11_ValidSeq_lok (h : CtxOK Try.prog C35) : LOK Try.prog cutroomref11_ValidSeq_LP (Try.f20.body.getD .skip) := LOK_list (l := [(true, getJoin Try.f20 3, cutroomref11_ValidSeq_J3.G)]) (by kernel_rfl) ⟨cutroomref11_ValidSeq_J3_snd h, trivial⟩
abbrev cutroomref11_ValidSeq_r0 : List SD × OSh := ([.v true .bool], [])
abbrev cutroomref11_ValidSeq_rs : RSh := [cutroomref11_ValidSeq_r0]
noncomputable def cutroomref11_ValidSeq : FnK C35 cutroomref11_ValidSeq_M cutroomref11_ValidSeq_LP [none] Try.f20 where
  sh := [.v true T_api_Seq]
  osh := []
  rs := cutroomref11_ValidSeq_rs
  X := Bool
  inX := fun x => ((x, ()), ())
  outX := fun y => y.1.1
  go := fun x k => k (mkRes cutroomref11_ValidSeq_r0.1 (x, ())) (mkOL cutroomref11_ValidSeq_r0.2 ())
  hgo := fun _ _ _ => rfl
  hio := fun _ => rfl
  pre := fun d o => cutroomref11_ValidSeq_pre d.1
  S := fun d o => cutroomref11_ValidSeq_S d.1
  F := fun k d o => cutroomref11_ValidSeq_F (fun v0 => k v0) d.1
  hn := rfl
  hF := fun _ _ _ _ => by kernel_rfl
  hS := fun d o hd ho hp R k => cutroomref11_ValidSeq_ok d.1 hd.1 hp (fun v0 => k v0) (fun z => z = k (cutroomref11_ValidSeq_S d.1)) rfl
theorem cutroomref11_ValidSeq_snd (h : CtxOK Try.prog C35) : Sound Try.prog 20 cutroomref11_ValidSeq.G := cutroomref11_ValidSeq.sound h rfl (body_LOK (cutroomref11_ValidSeq_lok h))
noncomputable def C36 : Ctx := addF C35 20 cutroomref11_ValidSeq.G
theorem C36_ok : CtxOK Try.prog C36 := C35_ok.add (cutroomref11_ValidSeq_snd C35_ok) Try.f20 rfl (by kernel_rfl) rfl

def picture_Valid_mt : List (Nat × Nat × List Nat) := [(1, 12, [96, 112]), (3, 12, [96, 112]), (999999, 16, [])]
def picture_Valid_M : Masks := maskOf picture_Valid_mt
noncomputable def picture_Valid_LP : Loops := noLoops
theorem picture_Valid_lok (_h : CtxOK Try.prog C36) : LOK Try.prog picture_Valid_LP (Try.f21.body.getD .skip) := LOK_list (l := []) (by kernel_rfl) trivial
abbrev picture_Valid_r0 : List SD × OSh := ([.v true .bool], [])
abbrev picture_Valid_rs : RSh := [picture_Valid_r0]
noncomputable def picture_Valid : FnK C36 picture_Valid_M picture_Valid_LP [none] Try.f21 where
  sh := [.v true T_api_Seq, .v true T_api_Pic]
  osh := []
  rs := picture_Valid_rs
  X := Bool
  inX := fun x => ((x, ()), ())
  outX := fun y => y.1.1
  go := fun x k => k (mkRes picture_Valid_r0.1 (x, ())) (mkOL picture_Valid_r0.2 ())
  hgo := fun _ _ _ => rfl
  hio := fun _ => rfl
  pre := fun d o => picture_Valid_pre d.1 d.2.1
  S := fun d o => picture_Valid_S d.1 d.2.1
  F := fun k d o => picture_Valid_F (fun v0 => k v0) d.1 d.2.1
  hn := rfl
  hF := fun _ _ _ _ => by kernel_rfl
  hS := fun d o hd ho hp R k => picture_Valid_ok d.1 d.2.1 hd.1 hd.2.1 hp (fun v0 => k v0) (fun z => z = k (picture_Valid_S d.1 d.2.1)) rfl
theorem picture_Valid_snd (h : CtxOK Try.prog C36) : Sound Try.prog 21 picture_Valid.G := picture_Valid.sound h rfl (body_LOK (picture_Valid_lok h))
noncomputable def C37 : Ctx := addF C36 21 picture_Valid.G
theorem C37_ok : CtxOK Try.prog C37 := C36_ok.add (picture_Valid_snd C36_ok) Try.f21 rfl (by kernel_rfl) rfl

def cutroomref11_Valid_mt : List (Nat × Nat × List Nat) := [(1, 12, [96, 112]), (999999, 16, [])]
def cutroomref11_Valid_M : Masks := maskOf cutroomref11_Valid_mt
noncomputable def cutroomref11_Valid_LP : Loops := noLoops
theorem cutroomref11_Valid_lok (_h : CtxOK Try.prog C37) : LOK Try.prog cutroomref11_Valid_LP (Try.f22.body.getD .skip) := LOK_list (l := []) (by kernel_rfl) trivial
abbrev cutroomref11_Valid_r0 : List SD × OSh := ([.v true .bool], [])
abbrev cutroomref11_Valid_rs : RSh := [cutroomref11_Valid_r0]
noncomputable def cutroomref11_Valid : FnK C37 cutroomref11_Valid_M cutroomref11_Valid_LP [none] Try.f22 where
  sh := [.v true T_api_Seq, .v true T_api_Pic]
  osh := []
  rs := cutroomref11_Valid_rs
  X := Bool
  inX := fun x => ((x, ()), ())
  outX := fun y => y.1.1
  go := fun x k => k (mkRes cutroomref11_Valid_r0.1 (x, ())) (mkOL cutroomref11_Valid_r0.2 ())
  hgo := fun _ _ _ => rfl
  hio := fun _ => rfl
  pre := fun d o => cutroomref11_Valid_pre d.1 d.2.1
  S := fun d o => cutroomref11_Valid_S d.1 d.2.1
  F := fun k d o => cutroomref11_Valid_F (fun v0 => k v0) d.1 d.2.1
  hn := rfl
  hF := fun _ _ _ _ => by kernel_rfl
  hS := fun d o hd ho hp R k => cutroomref11_Valid_ok d.1 d.2.1 hd.1 hd.2.1 hp (fun v0 => k v0) (fun z => z = k (cutroomref11_Valid_S d.1 d.2.1)) rfl
theorem cutroomref11_Valid_snd (h : CtxOK Try.prog C37) : Sound Try.prog 22 cutroomref11_Valid.G := cutroomref11_Valid.sound h rfl (body_LOK (cutroomref11_Valid_lok h))
noncomputable def C38 : Ctx := addF C37 22 cutroomref11_Valid.G
theorem C38_ok : CtxOK Try.prog C38 := C37_ok.add (cutroomref11_Valid_snd C37_ok) Try.f22 rfl (by kernel_rfl) rfl

def picture_Rows_mt : List (Nat × Nat × List Nat) := [(1, 12, [96, 112]), (5, 4, [96]), (999999, 16, [])]
def picture_Rows_M : Masks := maskOf picture_Rows_mt
noncomputable def picture_Rows_LP : Loops := noLoops
theorem picture_Rows_lok (_h : CtxOK Try.prog C38) : LOK Try.prog picture_Rows_LP (Try.f23.body.getD .skip) := LOK_list (l := []) (by kernel_rfl) trivial
abbrev picture_Rows_r0 : List SD × OSh := ([.v true (.int .i64)], [])
abbrev picture_Rows_rs : RSh := [picture_Rows_r0]
noncomputable def picture_Rows : FnK C38 picture_Rows_M picture_Rows_LP [none] Try.f23 where
  sh := [.v true T_api_Seq, .v true T_api_Pic]
  osh := []
  rs := picture_Rows_rs
  X := Int
  inX := fun x => ((x, ()), ())
  outX := fun y => y.1.1
  go := fun x k => k (mkRes picture_Rows_r0.1 (x, ())) (mkOL picture_Rows_r0.2 ())
  hgo := fun _ _ _ => rfl
  hio := fun _ => rfl
  pre := fun d o => picture_Rows_pre d.1 d.2.1
  S := fun d o => picture_Rows_S d.1 d.2.1
  F := fun k d o => picture_Rows_F (fun v0 => k v0) d.1 d.2.1
  hn := rfl
  hF := fun _ _ _ _ => by kernel_rfl
  hS := fun d o hd ho hp R k => picture_Rows_ok d.1 d.2.1 hd.1 hd.2.1 hp (fun v0 => k v0) (fun z => z = k (picture_Rows_S d.1 d.2.1)) rfl
theorem picture_Rows_snd (h : CtxOK Try.prog C38) : Sound Try.prog 23 picture_Rows.G := picture_Rows.sound h rfl (body_LOK (picture_Rows_lok h))
noncomputable def C39 : Ctx := addF C38 23 picture_Rows.G
theorem C39_ok : CtxOK Try.prog C39 := C38_ok.add (picture_Rows_snd C38_ok) Try.f23 rfl (by kernel_rfl) rfl

def cutroomref11_Rows_mt : List (Nat × Nat × List Nat) := [(1, 12, [96, 112]), (3, 12, [96, 112]), (5, 4, [96]), (999999, 16, [])]
def cutroomref11_Rows_M : Masks := maskOf cutroomref11_Rows_mt
noncomputable def cutroomref11_Rows_LP : Loops := noLoops
theorem cutroomref11_Rows_lok (_h : CtxOK Try.prog C39) : LOK Try.prog cutroomref11_Rows_LP (Try.f24.body.getD .skip) := LOK_list (l := []) (by kernel_rfl) trivial
abbrev cutroomref11_Rows_r0 : List SD × OSh := ([.v true (.int .i64)], [])
abbrev cutroomref11_Rows_rs : RSh := [cutroomref11_Rows_r0]
noncomputable def cutroomref11_Rows : FnK C39 cutroomref11_Rows_M cutroomref11_Rows_LP [none] Try.f24 where
  sh := [.v true T_api_Seq, .v true T_api_Pic]
  osh := []
  rs := cutroomref11_Rows_rs
  X := Int
  inX := fun x => ((x, ()), ())
  outX := fun y => y.1.1
  go := fun x k => k (mkRes cutroomref11_Rows_r0.1 (x, ())) (mkOL cutroomref11_Rows_r0.2 ())
  hgo := fun _ _ _ => rfl
  hio := fun _ => rfl
  pre := fun d o => cutroomref11_Rows_pre d.1 d.2.1
  S := fun d o => cutroomref11_Rows_S d.1 d.2.1
  F := fun k d o => cutroomref11_Rows_F (fun v0 => k v0) d.1 d.2.1
  hn := rfl
  hF := fun _ _ _ _ => by kernel_rfl
  hS := fun d o hd ho hp R k => cutroomref11_Rows_ok d.1 d.2.1 hd.1 hd.2.1 hp (fun v0 => k v0) (fun z => z = k (cutroomref11_Rows_S d.1 d.2.1)) rfl
theorem cutroomref11_Rows_snd (h : CtxOK Try.prog C39) : Sound Try.prog 24 cutroomref11_Rows.G := cutroomref11_Rows.sound h rfl (body_LOK (cutroomref11_Rows_lok h))
noncomputable def C40 : Ctx := addF C39 24 cutroomref11_Rows.G
theorem C40_ok : CtxOK Try.prog C40 := C39_ok.add (cutroomref11_Rows_snd C39_ok) Try.f24 rfl (by kernel_rfl) rfl

def cutroomlaw11_PictureSeqs_mt : List (Nat × Nat × List Nat) := [(1, 12, [96, 112]), (999999, 16, []), (2000001, 0, [])]
def cutroomlaw11_PictureSeqs_M : Masks := maskOf cutroomlaw11_PictureSeqs_mt
noncomputable def cutroomlaw11_PictureSeqs_LP : Loops := noLoops
theorem cutroomlaw11_PictureSeqs_lok (_h : CtxOK Try.prog C40) : LOK Try.prog cutroomlaw11_PictureSeqs_LP (Try.f4.body.getD .skip) := LOK_list (l := []) (by kernel_rfl) trivial
abbrev cutroomlaw11_PictureSeqs_r0 : List SD × OSh := ([.v true .bool], [])
abbrev cutroomlaw11_PictureSeqs_rs : RSh := [cutroomlaw11_PictureSeqs_r0]
noncomputable def cutroomlaw11_PictureSeqs : FnK C40 cutroomlaw11_PictureSeqs_M cutroomlaw11_PictureSeqs_LP [none] Try.f4 where
  sh := [.v true T_api_Seq, .v true T_api_Pic]
  osh := []
  rs := cutroomlaw11_PictureSeqs_rs
  X := Bool
  inX := fun x => ((x, ()), ())
  outX := fun y => y.1.1
  go := fun x k => k (mkRes cutroomlaw11_PictureSeqs_r0.1 (x, ())) (mkOL cutroomlaw11_PictureSeqs_r0.2 ())
  hgo := fun _ _ _ => rfl
  hio := fun _ => rfl
  pre := fun d o => cutroomlaw11_PictureSeqs_pre d.1 d.2.1
  S := fun d o => cutroomlaw11_PictureSeqs_S d.1 d.2.1
  F := fun k d o => cutroomlaw11_PictureSeqs_F (fun v0 => k v0) d.1 d.2.1
  hn := rfl
  hF := fun _ _ _ _ => by kernel_rfl
  hS := fun d o hd ho hp R k => cutroomlaw11_PictureSeqs_ok d.1 d.2.1 hd.1 hd.2.1 hp (fun v0 => k v0) (fun z => z = k (cutroomlaw11_PictureSeqs_S d.1 d.2.1)) rfl
theorem cutroomlaw11_PictureSeqs_snd (h : CtxOK Try.prog C40) : Sound Try.prog 4 cutroomlaw11_PictureSeqs.G := cutroomlaw11_PictureSeqs.sound h rfl (body_LOK (cutroomlaw11_PictureSeqs_lok h))
noncomputable def C41 : Ctx := addF C40 4 cutroomlaw11_PictureSeqs.G
theorem C41_ok : CtxOK Try.prog C41 := C40_ok.add (cutroomlaw11_PictureSeqs_snd C40_ok) Try.f4 rfl (by kernel_rfl) rfl

end Go.Proofs.Ytlmdhmieiejkfaa
