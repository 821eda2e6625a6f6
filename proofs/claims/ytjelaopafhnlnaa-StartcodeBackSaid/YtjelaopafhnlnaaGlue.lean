/- The contracts of the functions, over the loaded program. -/
import Derived.Test.YtjelaopafhnlnaaJn
import Derived.Test.YtjelaopafhnlnaaRows
import Derived.KernelRfl
set_option linter.unusedVariables false
set_option maxRecDepth 100000
namespace Go.Proofs.Ytjelaopafhnlnaa
open Go Go.Eng Go.Proofs
def tab : List (Option Ty) := [none, some (.opq .fn), some (.int .i64), some (.int .i64), some .bool, some (.int .u8), some (.int .u8), some (.pair (.int .i64) (.pair (.int .i64) (.pair .bool (.pair (.int .u8) .unit)))), some (.pair (.int .i64) (.pair (.int .i64) (.pair .bool (.pair (.int .u8) .unit)))), some .str, some .str, some .str, some (.int .u64), none, none, some (.opq .ptr), some (.opq .ptr), some (.opq .ptr), none, none, some (.opq .ifc), some (.int .i32), some (.sl (.int .u8)), some T_api_Unit, some T_api_Unit, some (.int .i64), none, some (.opq .fn), some (.opq .fn), some (.opq .fn), some (.opq .fn), some (.opq .fn), some (.sl T_api_Unit), some (.opq .fn), some (.opq .fn), some (.sl T_startcode_Found), some (.sl T_startcode_Defect), none, some (.opq .fn), some (.sl T_startcode_Found), some (.sl T_startcode_Defect), none, some (.opq .fn), some (.opq .fn), some T_startcode_Found, some T_startcode_Found, some T_startcode_Found, some T_startcode_Defect, some T_startcode_Defect, some T_startcode_Defect, some (.sl (.int .i64)), none, some (.opq .fn), some (.opq .fn), some (.opq .fn), some (.opq .fn), some (.opq .fn), some (.opq .fn), some (.opq .fn), some (.opq .fn), some (.opq .fn), some (.opq .fn), none, none, some (.arr 0 (.opq .ptr)), none, none, some (.opq .fn), some (.int .u32), some (.int .u8), some (.int .u8), some (.opq .fn), some (.opq .ptr), some (.int .i32), some (.int .i32), none, none, none]
def ebs : List Nat := [0, 0, 0, 0, 0, 0, 0, 0, 0, 0, 0, 0, 0, 0, 0, 0, 0, 0, 0, 0, 0, 0, 1, 0, 0, 0, 0, 0, 0, 0, 0, 0, 32, 0, 0, 56, 16, 0, 0, 56, 16, 0, 0, 0, 0, 0, 0, 0, 0, 0, 8, 0, 0, 0, 0, 0, 0, 0, 0, 0, 0, 0, 0, 0, 0, 0, 0, 0, 0, 0, 0, 0, 0, 0, 0, 0, 0, 0]
theorem tabOk : tabB Try.prog tab ebs = true := by kernel_rfl
noncomputable def C0 : Ctx := { TT := tabT tab, EB := fun T => ebs.getD T 0, CT := fun _ => none, LD := fun f => if f = 24 then [some (.int .u8)] else [] }
theorem C0_ok : CtxOK Try.prog C0 := CtxOK.of (ctxT_tab tabOk rfl rfl) fun _ => rfl
def startcode_escaped_mt : List (Nat × Nat × List Nat) := [(1, 3, [0]), (2, 35, [0]), (3, 1825, [0]), (4, 1825, [0]), (5, 1953, [0]), (7, 1921, [0]), (8, 1953, [0]), (9, 1953, [0]), (10, 1953, [0]), (12, 1825, [0]), (13, 1, [0]), (999999, 16, [0]), (1000000, 1, [0])]
def startcode_escaped_M : Masks := maskOf startcode_escaped_mt
noncomputable def startcode_escaped_L3_LP : Loops := noLoops
theorem startcode_escaped_L3_lok (_h : CtxOK Try.prog C0) : LOK Try.prog startcode_escaped_L3_LP (getLoop Try.f24 3) := LOK_list (l := []) (by kernel_rfl) trivial
abbrev startcode_escaped_L3_sh : List SD × OSh := ([.sl 0, .dead, .dead, .dead, .dead, .v true (.int .i64), .dead, .dead, .v false (.sl (.int .u8)), .v true (.int .i64), .v true (.int .i64), .dead, .dead, .dead, .dead, .dead, .dead, .dead, .dead, .dead, .dead, .dead, .dead, .dead, .dead, .dead, .dead, .dead, .dead, .dead, .dead, .dead, .dead], [(0, .arr true (.int .u8))])
abbrev startcode_escaped_L3_x0 : List SD × OSh := ([.sl 0, .dead, .dead, .dead, .dead, .dead, .dead, .dead, .dead, .dead, .dead, .dead, .dead, .dead, .dead, .dead, .dead, .dead, .dead, .dead, .dead, .dead, .dead, .dead, .dead, .dead, .dead, .dead, .dead, .dead, .dead, .dead, .dead], [(0, .arr true (.int .u8))])
noncomputable def startcode_escaped_L3 : LoopK C0 startcode_escaped_M startcode_escaped_L3_LP (getLoop Try.f24 3) where
  sh := startcode_escaped_L3_sh
  X := List Int
  go := fun d o x k => k (.exit 0) (mkS startcode_escaped_L3_x0 ((), ((), ((), ((), ((), ((), ((), ((), ((), ((), ((), ((), ((), ((), ((), ((), ((), ((), ((), ((), ((), ((), ((), ((), ((), ((), ((), ((), ((), ((), ((), ((), ((), ()))))))))))))))))))))))))))))))))) (x, ()))
  pre := fun d o => startcode_escaped_L3_pre d.2.2.2.2.2.2.2.2.1 d.2.2.2.2.2.2.2.2.2.1 d.2.2.2.2.2.1 d.2.2.2.2.2.2.2.2.2.2.1 o.1
  mu := fun d o => startcode_escaped_L3_mu d.2.2.2.2.2.2.2.2.1 d.2.2.2.2.2.2.2.2.2.1 d.2.2.2.2.2.1 d.2.2.2.2.2.2.2.2.2.2.1 o.1
  S := fun d o => startcode_escaped_L3_S d.2.2.2.2.2.2.2.2.1 d.2.2.2.2.2.2.2.2.2.1 d.2.2.2.2.2.1 d.2.2.2.2.2.2.2.2.2.2.1 o.1
  T := fun rec ex d o => startcode_escaped_L3_T d.2.2.2.2.2.2.2.2.1 d.2.2.2.2.2.2.2.2.2.1 (fun v0 v1 v2 => rec ((), ((), ((), ((), ((), (v0, ((), ((), (d.2.2.2.2.2.2.2.2.1, (d.2.2.2.2.2.2.2.2.2.1, (v1, ((), ((), ((), ((), ((), ((), ((), ((), ((), ((), ((), ((), ((), ((), ((), ((), ((), ((), ((), ((), ((), ((), ()))))))))))))))))))))))))))))))))) (v2, ())) (fun e0 => ex e0) d.2.2.2.2.2.1 d.2.2.2.2.2.2.2.2.2.2.1 o.1
  hn := rfl
  hT := fun _ _ _ _ => by kernel_rfl
  hx := fun d o x => ⟨(.exit 0), _, nofun, fun _ _ => rfl⟩
  hS := fun d o hd ho hp R rec ex Good hr hx => startcode_escaped_L3_ok d.2.2.2.2.2.2.2.2.1 d.2.2.2.2.2.2.2.2.2.1 d.2.2.2.2.2.1 d.2.2.2.2.2.2.2.2.2.2.1 o.1 hd.2.2.2.2.2.1 hd.2.2.2.2.2.2.2.2.1 hd.2.2.2.2.2.2.2.2.2.1 hd.2.2.2.2.2.2.2.2.2.2.1 ho.1 hp (fun v0 v1 v2 => rec ((), ((), ((), ((), ((), (v0, ((), ((), (d.2.2.2.2.2.2.2.2.1, (d.2.2.2.2.2.2.2.2.2.1, (v1, ((), ((), ((), ((), ((), ((), ((), ((), ((), ((), ((), ((), ((), ((), ((), ((), ((), ((), ((), ((), ((), ((), ()))))))))))))))))))))))))))))))))) (v2, ())) (fun e0 => ex e0) Good
    (fun v0 v1 v2 h1 h2 h3 => hr ((), ((), ((), ((), ((), (v0, ((), ((), (d.2.2.2.2.2.2.2.2.1, (d.2.2.2.2.2.2.2.2.2.1, (v1, ((), ((), ((), ((), ((), ((), ((), ((), ((), ((), ((), ((), ((), ((), ((), ((), ((), ((), ((), ((), ((), ((), ()))))))))))))))))))))))))))))))))) (v2, ()) (fun _ _ _ => by kernel_rfl) (cast (by kernel_rfl) h1) (cast (by kernel_rfl) h2) (cast (by kernel_rfl) h3))
    (fun e0 he => (show Good (ex e0) from he ▸ hx))
theorem startcode_escaped_L3_snd (h : CtxOK Try.prog C0) : LoopS Try.prog (getLoop Try.f24 3) startcode_escaped_L3.G := startcode_escaped_L3.sound h (startcode_escaped_L3_lok h)
noncomputable def startcode_escaped_LP : Loops := (addL noLoops 3 startcode_escaped_L3.G)
theorem startcode_escaped_lok (h : CtxOK Try.prog C0) : LOK Try.prog startcode_escaped_LP (Try.f24.body.getD .skip) := LOK_list (l := [(false, getLoop Try.f24 3, startcode_escaped_L3.G)]) (by kernel_rfl) ⟨startcode_escaped_L3_snd h, trivial⟩
noncomputable def startcode_escaped : FnK C0 startcode_escaped_M startcode_escaped_LP [none] Try.f24 where
  sh := [.sl 0, .v false (.sl (.int .u8))]
  osh := [(0, .arr true (.int .u8))]
  rsh := [.sl 0]
  rosh := [(0, .arr true (.int .u8))]
  pre := fun d o => startcode_escaped_pre d.2.1 o.1
  S := fun d o => (((), ()), ((startcode_escaped_S d.2.1 o.1), ()))
  F := fun k d o => startcode_escaped_F (fun v0 => k ((), ()) (v0, ())) d.2.1 o.1
  hn := rfl
  hF := fun _ _ _ _ => by kernel_rfl
  hS := fun d o hd ho hp R k => startcode_escaped_ok d.2.1 o.1 hd.2.1 ho.1 hp (fun v0 => k ((), ()) (v0, ())) (fun z => z = k ((), ()) ((startcode_escaped_S d.2.1 o.1), ())) rfl
theorem startcode_escaped_snd (h : CtxOK Try.prog C0) : Sound Try.prog 24 startcode_escaped.G := startcode_escaped.sound h rfl (body_LOK (startcode_escaped_lok h))
noncomputable def C1 : Ctx := addF C0 24 startcode_escaped.G
theorem C1_ok : CtxOK Try.prog C1 := C0_ok.add (startcode_escaped_snd C0_ok) Try.f24 rfl (by kernel_rfl) rfl

def startcode_Format_mt : List (Nat × Nat × List Nat) := [(1, 2, [80]), (3, 2, [80]), (4, 18, [80]), (6, 2, [80]), (999999, 12, [96, 544])]
def startcode_Format_M : Masks := maskOf startcode_Format_mt
noncomputable def startcode_Format_LP : Loops := noLoops
theorem startcode_Format_lok (_h : CtxOK Try.prog C1) : LOK Try.prog startcode_Format_LP (Try.f11.body.getD .skip) := LOK_list (l := []) (by kernel_rfl) trivial
noncomputable def startcode_Format : FnK C1 startcode_Format_M startcode_Format_LP [none, none] Try.f11 where
  sh := [.v false T_api_Unit]
  osh := []
  rsh := [.sl 0, .v true (.int .i64)]
  rosh := [(0, .arr true (.int .u8))]
  pre := fun d o => startcode_Format_pre d.1
  S := fun d o => (((), ((startcode_Format_S d.1).1, ())), ((startcode_Format_S d.1).2, ()))
  F := fun k d o => startcode_Format_F (fun v0 v1 => k ((), (v0, ())) (v1, ())) d.1
  hn := rfl
  hF := fun _ _ _ _ => by kernel_rfl
  hS := fun d o hd ho hp R k => startcode_Format_ok d.1 hd.1 hp (fun v0 v1 => k ((), (v0, ())) (v1, ())) (fun z => z = k ((), ((startcode_Format_S d.1).1, ())) ((startcode_Format_S d.1).2, ())) rfl
theorem startcode_Format_snd (h : CtxOK Try.prog C1) : Sound Try.prog 11 startcode_Format.G := startcode_Format.sound h rfl (body_LOK (startcode_Format_lok h))
noncomputable def C2 : Ctx := addF C1 11 startcode_Format.G
theorem C2_ok : CtxOK Try.prog C2 := C1_ok.add (startcode_Format_snd C1_ok) Try.f11 rfl (by kernel_rfl) rfl

def cutroomref03_Escape_mt : List (Nat × Nat × List Nat) := [(1, 1, []), (3, 1, []), (4, 17, [128]), (5, 49, [128]), (6, 49, [128]), (7, 49, [128]), (8, 113, [128]), (10, 49, [128]), (11, 16, [128]), (999999, 12, [96, 128]), (1000000, 16, [128])]
def cutroomref03_Escape_M : Masks := maskOf cutroomref03_Escape_mt
noncomputable def cutroomref03_Escape_L5_LP : Loops := noLoops
theorem cutroomref03_Escape_L5_lok (_h : CtxOK Try.prog C2) : LOK Try.prog cutroomref03_Escape_L5_LP (getLoop Try.f17 5) := LOK_list (l := []) (by kernel_rfl) trivial
abbrev cutroomref03_Escape_L5_sh : List SD × OSh := ([.v false (.sl (.int .u8)), .dead, .dead, .dead, .sl 128, .v true (.int .i64), .dead, .dead, .dead, .dead, .dead, .dead, .dead, .dead, .dead, .dead, .dead, .dead, .dead, .dead, .dead, .dead, .dead, .dead, .dead, .dead, .dead, .dead, .dead, .dead, .dead, .dead, .dead, .dead, .dead, .dead, .dead, .dead, .dead, .dead, .dead, .dead, .dead, .dead, .dead, .dead, .dead, .dead, .dead, .dead, .dead, .dead, .dead, .dead, .dead, .dead, .dead, .dead, .dead, .dead, .dead, .dead, .dead], [(128, .arr true (.int .u8))])
abbrev cutroomref03_Escape_L5_x0 : List SD × OSh := ([.dead, .dead, .dead, .dead, .sl 128, .dead, .dead, .dead, .dead, .dead, .dead, .dead, .dead, .dead, .dead, .dead, .dead, .dead, .dead, .dead, .dead, .dead, .dead, .dead, .dead, .dead, .dead, .dead, .dead, .dead, .dead, .dead, .dead, .dead, .dead, .dead, .dead, .dead, .dead, .dead, .dead, .dead, .dead, .dead, .dead, .dead, .dead, .dead, .dead, .dead, .dead, .dead, .dead, .dead, .dead, .dead, .dead, .dead, .dead, .dead, .dead, .dead, .dead], [(128, .arr true (.int .u8))])
noncomputable def cutroomref03_Escape_L5 : LoopK C2 cutroomref03_Escape_M cutroomref03_Escape_L5_LP (getLoop Try.f17 5) where
  sh := cutroomref03_Escape_L5_sh
  X := List Int
  go := fun d o x k => k (.exit 0) (mkS cutroomref03_Escape_L5_x0 ((), ((), ((), ((), ((), ((), ((), ((), ((), ((), ((), ((), ((), ((), ((), ((), ((), ((), ((), ((), ((), ((), ((), ((), ((), ((), ((), ((), ((), ((), ((), ((), ((), ((), ((), ((), ((), ((), ((), ((), ((), ((), ((), ((), ((), ((), ((), ((), ((), ((), ((), ((), ((), ((), ((), ((), ((), ((), ((), ((), ((), ((), ((), ()))))))))))))))))))))))))))))))))))))))))))))))))))))))))))))))) (x, ()))
  pre := fun d o => cutroomref03_Escape_L5_pre d.1 d.2.2.2.2.2.1 o.1
  mu := fun d o => cutroomref03_Escape_L5_mu d.1 d.2.2.2.2.2.1 o.1
  S := fun d o => cutroomref03_Escape_L5_S d.1 d.2.2.2.2.2.1 o.1
  T := fun rec ex d o => cutroomref03_Escape_L5_T d.1 (fun v0 v1 => rec (d.1, ((), ((), ((), ((), (v0, ((), ((), ((), ((), ((), ((), ((), ((), ((), ((), ((), ((), ((), ((), ((), ((), ((), ((), ((), ((), ((), ((), ((), ((), ((), ((), ((), ((), ((), ((), ((), ((), ((), ((), ((), ((), ((), ((), ((), ((), ((), ((), ((), ((), ((), ((), ((), ((), ((), ((), ((), ((), ((), ((), ((), ((), ((), ()))))))))))))))))))))))))))))))))))))))))))))))))))))))))))))))) (v1, ())) (fun e0 => ex e0) d.2.2.2.2.2.1 o.1
  hn := rfl
  hT := fun _ _ _ _ => by kernel_rfl
  hx := fun d o x => ⟨(.exit 0), _, nofun, fun _ _ => rfl⟩
  hS := fun d o hd ho hp R rec ex Good hr hx => cutroomref03_Escape_L5_ok d.1 d.2.2.2.2.2.1 o.1 hd.1 hd.2.2.2.2.2.1 ho.1 hp (fun v0 v1 => rec (d.1, ((), ((), ((), ((), (v0, ((), ((), ((), ((), ((), ((), ((), ((), ((), ((), ((), ((), ((), ((), ((), ((), ((), ((), ((), ((), ((), ((), ((), ((), ((), ((), ((), ((), ((), ((), ((), ((), ((), ((), ((), ((), ((), ((), ((), ((), ((), ((), ((), ((), ((), ((), ((), ((), ((), ((), ((), ((), ((), ((), ((), ((), ((), ()))))))))))))))))))))))))))))))))))))))))))))))))))))))))))))))) (v1, ())) (fun e0 => ex e0) Good
    (fun v0 v1 h1 h2 h3 => hr (d.1, ((), ((), ((), ((), (v0, ((), ((), ((), ((), ((), ((), ((), ((), ((), ((), ((), ((), ((), ((), ((), ((), ((), ((), ((), ((), ((), ((), ((), ((), ((), ((), ((), ((), ((), ((), ((), ((), ((), ((), ((), ((), ((), ((), ((), ((), ((), ((), ((), ((), ((), ((), ((), ((), ((), ((), ((), ((), ((), ((), ((), ((), ((), ()))))))))))))))))))))))))))))))))))))))))))))))))))))))))))))))) (v1, ()) (fun _ _ _ => by kernel_rfl) (cast (by kernel_rfl) h1) (cast (by kernel_rfl) h2) (cast (by kernel_rfl) h3))
    (fun e0 he => (show Good (ex e0) from he ▸ hx))
theorem cutroomref03_Escape_L5_snd (h : CtxOK Try.prog C2) : LoopS Try.prog (getLoop Try.f17 5) cutroomref03_Escape_L5.G := cutroomref03_Escape_L5.sound h (cutroomref03_Escape_L5_lok h)
noncomputable def cutroomref03_Escape_J3_LP : Loops := (addL noLoops 5 cutroomref03_Escape_L5.G)
theorem cutroomref03_Escape_J3_lok (h : CtxOK Try.prog C2) : LOK Try.prog cutroomref03_Escape_J3_LP (getJoin Try.f17 3) := LOK_list (l := [(false, getLoop Try.f17 5, cutroomref03_Escape_L5.G)]) (by kernel_rfl) ⟨cutroomref03_Escape_L5_snd h, trivial⟩
abbrev cutroomref03_Escape_J3_sh : List SD × OSh := ([.v false (.sl (.int .u8)), .dead, .dead, .dead, .dead, .dead, .dead, .dead, .dead, .dead, .dead, .dead, .dead, .dead, .dead, .dead, .dead, .dead, .dead, .dead, .dead, .dead, .dead, .dead, .dead, .dead, .dead, .dead, .dead, .dead, .dead, .dead, .dead, .dead, .dead, .dead, .dead, .dead, .dead, .dead, .dead, .dead, .dead, .dead, .dead, .dead, .dead, .dead, .dead, .dead, .dead, .dead, .dead, .dead, .dead, .dead, .dead, .dead, .dead, .dead, .dead, .dead, .dead], [])
abbrev cutroomref03_Escape_J3_x0 : List SD × OSh := ([.dead, .dead, .sl 128, .v true (.int .i64), .dead, .dead, .dead, .dead, .dead, .dead, .dead, .dead, .dead, .dead, .dead, .dead, .dead, .dead, .dead, .dead, .dead, .dead, .dead, .dead, .dead, .dead, .dead, .dead, .dead, .dead, .dead, .dead, .dead, .dead, .dead, .dead, .dead, .dead, .dead, .dead, .dead, .dead, .dead, .dead, .dead, .dead, .dead, .dead, .dead, .dead, .dead, .dead, .dead, .dead, .dead, .dead, .dead, .dead, .dead, .dead, .dead, .dead, .dead], [(128, .arr true (.int .u8))])
noncomputable def cutroomref03_Escape_J3 : JoinK C2 cutroomref03_Escape_M cutroomref03_Escape_J3_LP (getJoin Try.f17 3) where
  sh := cutroomref03_Escape_J3_sh
  X := Int × List Int
  go := fun d o x k => k .ret (mkS cutroomref03_Escape_J3_x0 ((), ((), ((), (x.1, ((), ((), ((), ((), ((), ((), ((), ((), ((), ((), ((), ((), ((), ((), ((), ((), ((), ((), ((), ((), ((), ((), ((), ((), ((), ((), ((), ((), ((), ((), ((), ((), ((), ((), ((), ((), ((), ((), ((), ((), ((), ((), ((), ((), ((), ((), ((), ((), ((), ((), ((), ((), ((), ((), ((), ((), ((), ((), ((), ()))))))))))))))))))))))))))))))))))))))))))))))))))))))))))))))) (x.2, ()))
  T := fun ex d o => cutroomref03_Escape_J3_T (fun e0 e1 => ex (e0, e1)) d.1
  hT := fun _ _ _ _ => by kernel_rfl
theorem cutroomref03_Escape_J3_snd (h : CtxOK Try.prog C2) : CodeS Try.prog (getJoin Try.f17 3) cutroomref03_Escape_J3.G := cutroomref03_Escape_J3.sound h (cutroomref03_Escape_J3_lok h)
noncomputable def cutroomref03_Escape_LP : Loops := (addL (addL noLoops 5 cutroomref03_Escape_L5.G) 1048579 cutroomref03_Escape_J3.G)
theorem cutroomref03_Escape_lok (h : CtxOK Try.prog C2) : LOK Try.prog cutroomref03_Escape_LP (Try.f17.body.getD .skip) := LOK_list (l := [(true, getJoin Try.f17 3, cutroomref03_Escape_J3.G)]) (by kernel_rfl) ⟨cutroomref03_Escape_J3_snd h, trivial⟩
noncomputable def cutroomref03_Escape : FnK C2 cutroomref03_Escape_M cutroomref03_Escape_LP [none, none] Try.f17 where
  sh := [.v false (.sl (.int .u8))]
  osh := []
  rsh := [.sl 0, .v true (.int .i64)]
  rosh := [(0, .arr true (.int .u8))]
  pre := fun d o => cutroomref03_Escape_pre d.1
  S := fun d o => (((), ((cutroomref03_Escape_S d.1).1, ())), ((cutroomref03_Escape_S d.1).2, ()))
  F := fun k d o => cutroomref03_Escape_F (fun v0 v1 => k ((), (v0, ())) (v1, ())) d.1
  hn := rfl
  hF := fun _ _ _ _ => by kernel_rfl
  hS := fun d o hd ho hp R k => cutroomref03_Escape_ok d.1 hd.1 hp (fun v0 v1 => k ((), (v0, ())) (v1, ())) (fun z => z = k ((), ((cutroomref03_Escape_S d.1).1, ())) ((cutroomref03_Escape_S d.1).2, ())) rfl
theorem cutroomref03_Escape_snd (h : CtxOK Try.prog C2) : Sound Try.prog 17 cutroomref03_Escape.G := cutroomref03_Escape.sound h rfl (body_LOK (cutroomref03_Escape_lok h))
noncomputable def C3 : Ctx := addF C2 17 cutroomref03_Escape.G
theorem C3_ok : CtxOK Try.prog C3 := C2_ok.add (cutroomref03_Escape_snd C2_ok) Try.f17 rfl (by kernel_rfl) rfl

def cutroomref03_Format_mt : List (Nat × Nat × List Nat) := [(1, 2, [80]), (3, 2, [80]), (4, 50, [80, 336]), (6, 18, [80, 336]), (999999, 12, [96, 480])]
def cutroomref03_Format_M : Masks := maskOf cutroomref03_Format_mt
noncomputable def cutroomref03_Format_LP : Loops := noLoops
theorem cutroomref03_Format_lok (_h : CtxOK Try.prog C3) : LOK Try.prog cutroomref03_Format_LP (Try.f12.body.getD .skip) := LOK_list (l := []) (by kernel_rfl) trivial
noncomputable def cutroomref03_Format : FnK C3 cutroomref03_Format_M cutroomref03_Format_LP [none, none] Try.f12 where
  sh := [.v false T_api_Unit]
  osh := []
  rsh := [.sl 0, .v true (.int .i64)]
  rosh := [(0, .arr true (.int .u8))]
  pre := fun d o => cutroomref03_Format_pre d.1
  S := fun d o => (((), ((cutroomref03_Format_S d.1).1, ())), ((cutroomref03_Format_S d.1).2, ()))
  F := fun k d o => cutroomref03_Format_F (fun v0 v1 => k ((), (v0, ())) (v1, ())) d.1
  hn := rfl
  hF := fun _ _ _ _ => by kernel_rfl
  hS := fun d o hd ho hp R k => cutroomref03_Format_ok d.1 hd.1 hp (fun v0 v1 => k ((), (v0, ())) (v1, ())) (fun z => z = k ((), ((cutroomref03_Format_S d.1).1, ())) ((cutroomref03_Format_S d.1).2, ())) rfl
theorem cutroomref03_Format_snd (h : CtxOK Try.prog C3) : Sound Try.prog 12 cutroomref03_Format.G := cutroomref03_Format.sound h rfl (body_LOK (cutroomref03_Format_lok h))
noncomputable def C4 : Ctx := addF C3 12 cutroomref03_Format.G
theorem C4_ok : CtxOK Try.prog C4 := C3_ok.add (cutroomref03_Format_snd C3_ok) Try.f12 rfl (by kernel_rfl) rfl

def startcode_Escape_mt : List (Nat × Nat × List Nat) := [(1, 1, []), (2, 17, []), (4, 1, []), (999999, 12, [96, 367])]
def startcode_Escape_M : Masks := maskOf startcode_Escape_mt
noncomputable def startcode_Escape_LP : Loops := noLoops
theorem startcode_Escape_lok (_h : CtxOK Try.prog C4) : LOK Try.prog startcode_Escape_LP (Try.f16.body.getD .skip) := LOK_list (l := []) (by kernel_rfl) trivial
noncomputable def startcode_Escape : FnK C4 startcode_Escape_M startcode_Escape_LP [none, none] Try.f16 where
  sh := [.v false (.sl (.int .u8))]
  osh := []
  rsh := [.sl 0, .v true (.int .i64)]
  rosh := [(0, .arr true (.int .u8))]
  pre := fun d o => startcode_Escape_pre d.1
  S := fun d o => (((), ((startcode_Escape_S d.1).1, ())), ((startcode_Escape_S d.1).2, ()))
  F := fun k d o => startcode_Escape_F (fun v0 v1 => k ((), (v0, ())) (v1, ())) d.1
  hn := rfl
  hF := fun _ _ _ _ => by kernel_rfl
  hS := fun d o hd ho hp R k => startcode_Escape_ok d.1 hd.1 hp (fun v0 v1 => k ((), (v0, ())) (v1, ())) (fun z => z = k ((), ((startcode_Escape_S d.1).1, ())) ((startcode_Escape_S d.1).2, ())) rfl
theorem startcode_Escape_snd (h : CtxOK Try.prog C4) : Sound Try.prog 16 startcode_Escape.G := startcode_Escape.sound h rfl (body_LOK (startcode_Escape_lok h))
noncomputable def C5 : Ctx := addF C4 16 startcode_Escape.G
theorem C5_ok : CtxOK Try.prog C5 := C4_ok.add (startcode_Escape_snd C4_ok) Try.f16 rfl (by kernel_rfl) rfl

def cutroomref02_SameBytes_mt : List (Nat × Nat × List Nat) := [(1, 3, []), (999999, 16, [])]
def cutroomref02_SameBytes_M : Masks := maskOf cutroomref02_SameBytes_mt
noncomputable def cutroomref02_SameBytes_LP : Loops := noLoops
theorem cutroomref02_SameBytes_lok (_h : CtxOK Try.prog C5) : LOK Try.prog cutroomref02_SameBytes_LP (Try.f14.body.getD .skip) := LOK_list (l := []) (by kernel_rfl) trivial
noncomputable def cutroomref02_SameBytes : FnK C5 cutroomref02_SameBytes_M cutroomref02_SameBytes_LP [none] Try.f14 where
  sh := [.v false (.sl (.int .u8)), .v false (.sl (.int .u8))]
  osh := []
  rsh := [.v true .bool]
  rosh := []
  pre := fun d o => cutroomref02_SameBytes_pre d.1 d.2.1
  S := fun d o => (((cutroomref02_SameBytes_S d.1 d.2.1), ()), ())
  F := fun k d o => cutroomref02_SameBytes_F (fun v0 => k (v0, ()) ()) d.1 d.2.1
  hn := rfl
  hF := fun _ _ _ _ => by kernel_rfl
  hS := fun d o hd ho hp R k => cutroomref02_SameBytes_ok d.1 d.2.1 hd.1 hd.2.1 hp (fun v0 => k (v0, ()) ()) (fun z => z = k ((cutroomref02_SameBytes_S d.1 d.2.1), ()) ()) rfl
theorem cutroomref02_SameBytes_snd (h : CtxOK Try.prog C5) : Sound Try.prog 14 cutroomref02_SameBytes.G := cutroomref02_SameBytes.sound h rfl (body_LOK (cutroomref02_SameBytes_lok h))
noncomputable def C6 : Ctx := addF C5 14 cutroomref02_SameBytes.G
theorem C6_ok : CtxOK Try.prog C6 := C5_ok.add (cutroomref02_SameBytes_snd C5_ok) Try.f14 rfl (by kernel_rfl) rfl

def cutroomlaw03_awake_mt : List (Nat × Nat × List Nat) := [(1, 0, []), (2, 6, [144]), (999999, 1, [])]
def cutroomlaw03_awake_M : Masks := maskOf cutroomlaw03_awake_mt
noncomputable def cutroomlaw03_awake_LP : Loops := noLoops
theorem cutroomlaw03_awake_lok (_h : CtxOK Try.prog C6) : LOK Try.prog cutroomlaw03_awake_LP (Try.f13.body.getD .skip) := LOK_list (l := []) (by kernel_rfl) trivial
noncomputable def cutroomlaw03_awake : FnK C6 cutroomlaw03_awake_M cutroomlaw03_awake_LP [none] Try.f13 where
  sh := []
  osh := []
  rsh := [.v true .bool]
  rosh := []
  pre := fun d o => cutroomlaw03_awake_pre
  S := fun d o => (((cutroomlaw03_awake_S), ()), ())
  F := fun k d o => cutroomlaw03_awake_F (fun v0 => k (v0, ()) ()) 
  hn := rfl
  hF := fun _ _ _ _ => by kernel_rfl
  hS := fun d o hd ho hp R k => cutroomlaw03_awake_ok   hp (fun v0 => k (v0, ()) ()) (fun z => z = k ((cutroomlaw03_awake_S), ()) ()) rfl
theorem cutroomlaw03_awake_snd (h : CtxOK Try.prog C6) : Sound Try.prog 13 cutroomlaw03_awake.G := cutroomlaw03_awake.sound h rfl (body_LOK (cutroomlaw03_awake_lok h))
noncomputable def C7 : Ctx := addF C6 13 cutroomlaw03_awake.G
theorem C7_ok : CtxOK Try.prog C7 := C6_ok.add (cutroomlaw03_awake_snd C6_ok) Try.f13 rfl (by kernel_rfl) rfl

def cutroomlaw03_StartcodeFormat_mt : List (Nat × Nat × List Nat) := [(1, 2, [80]), (3, 2, [80]), (4, 26, [80, 272]), (5, 120, [272, 352]), (999999, 4, [])]
def cutroomlaw03_StartcodeFormat_M : Masks := maskOf cutroomlaw03_StartcodeFormat_mt
noncomputable def cutroomlaw03_StartcodeFormat_LP : Loops := noLoops
theorem cutroomlaw03_StartcodeFormat_lok (_h : CtxOK Try.prog C7) : LOK Try.prog cutroomlaw03_StartcodeFormat_LP (Try.f3.body.getD .skip) := LOK_list (l := []) (by kernel_rfl) trivial
noncomputable def cutroomlaw03_StartcodeFormat : FnK C7 cutroomlaw03_StartcodeFormat_M cutroomlaw03_StartcodeFormat_LP [none] Try.f3 where
  sh := [.v false T_api_Unit]
  osh := []
  rsh := [.v true .bool]
  rosh := []
  pre := fun d o => cutroomlaw03_StartcodeFormat_pre d.1
  S := fun d o => (((cutroomlaw03_StartcodeFormat_S d.1), ()), ())
  F := fun k d o => cutroomlaw03_StartcodeFormat_F (fun v0 => k (v0, ()) ()) d.1
  hn := rfl
  hF := fun _ _ _ _ => by kernel_rfl
  hS := fun d o hd ho hp R k => cutroomlaw03_StartcodeFormat_ok d.1 hd.1 hp (fun v0 => k (v0, ()) ()) (fun z => z = k ((cutroomlaw03_StartcodeFormat_S d.1), ()) ()) rfl
theorem cutroomlaw03_StartcodeFormat_snd (h : CtxOK Try.prog C7) : Sound Try.prog 3 cutroomlaw03_StartcodeFormat.G := cutroomlaw03_StartcodeFormat.sound h rfl (body_LOK (cutroomlaw03_StartcodeFormat_lok h))
noncomputable def C8 : Ctx := addF C7 3 cutroomlaw03_StartcodeFormat.G
theorem C8_ok : CtxOK Try.prog C8 := C7_ok.add (cutroomlaw03_StartcodeFormat_snd C7_ok) Try.f3 rfl (by kernel_rfl) rfl

def cutroomlaw03_formed_mt : List (Nat × Nat × List Nat) := [(1, 1, []), (3, 1, []), (4, 9, []), (5, 9, []), (6, 9, []), (8, 9, []), (9, 41, []), (11, 0, []), (999999, 4, []), (1000000, 0, [])]
def cutroomlaw03_formed_M : Masks := maskOf cutroomlaw03_formed_mt
noncomputable def cutroomlaw03_formed_L4_LP : Loops := noLoops
theorem cutroomlaw03_formed_L4_lok (_h : CtxOK Try.prog C8) : LOK Try.prog cutroomlaw03_formed_L4_LP (getLoop Try.f15 4) := LOK_list (l := []) (by kernel_rfl) trivial
abbrev cutroomlaw03_formed_L4_sh : List SD × OSh := ([.v false (.sl T_api_Unit), .dead, .dead, .v true (.int .i64), .dead, .dead, .dead, .dead, .dead, .dead, .dead, .dead, .dead, .dead, .dead, .dead, .dead, .dead, .dead, .dead, .dead, .dead, .dead, .dead, .dead, .dead, .dead, .dead, .dead, .dead, .dead, .dead], [])
abbrev cutroomlaw03_formed_L4_x0 : List SD × OSh := ([.dead, .dead, .v true .bool, .dead, .dead, .dead, .dead, .dead, .dead, .dead, .dead, .dead, .dead, .dead, .dead, .dead, .dead, .dead, .dead, .dead, .dead, .dead, .dead, .dead, .dead, .dead, .dead, .dead, .dead, .dead, .dead, .dead], [])
abbrev cutroomlaw03_formed_L4_x1 : List SD × OSh := ([.dead, .dead, .dead, .dead, .dead, .dead, .dead, .dead, .dead, .dead, .dead, .dead, .dead, .dead, .dead, .dead, .dead, .dead, .dead, .dead, .dead, .dead, .dead, .dead, .dead, .dead, .dead, .dead, .dead, .dead, .dead, .dead], [])
noncomputable def cutroomlaw03_formed_L4 : LoopK C8 cutroomlaw03_formed_M cutroomlaw03_formed_L4_LP (getLoop Try.f15 4) where
  sh := cutroomlaw03_formed_L4_sh
  X := (Bool) ⊕ (Unit)
  go := fun d o x k => caseS x (fun a0 => k .ret (mkS cutroomlaw03_formed_L4_x0 ((), ((), (a0, ((), ((), ((), ((), ((), ((), ((), ((), ((), ((), ((), ((), ((), ((), ((), ((), ((), ((), ((), ((), ((), ((), ((), ((), ((), ((), ((), ((), ((), ())))))))))))))))))))))))))))))))) ())) (fun b0 => k (.exit 0) (mkS cutroomlaw03_formed_L4_x1 ((), ((), ((), ((), ((), ((), ((), ((), ((), ((), ((), ((), ((), ((), ((), ((), ((), ((), ((), ((), ((), ((), ((), ((), ((), ((), ((), ((), ((), ((), ((), ((), ())))))))))))))))))))))))))))))))) ()))
  pre := fun d o => cutroomlaw03_formed_L4_pre d.1 d.2.2.2.1
  mu := fun d o => cutroomlaw03_formed_L4_mu d.1 d.2.2.2.1
  S := fun d o => cutroomlaw03_formed_L4_S d.1 d.2.2.2.1
  T := fun rec ex d o => cutroomlaw03_formed_L4_T d.1 (fun v0 => rec (d.1, ((), ((), (v0, ((), ((), ((), ((), ((), ((), ((), ((), ((), ((), ((), ((), ((), ((), ((), ((), ((), ((), ((), ((), ((), ((), ((), ((), ((), ((), ((), ((), ())))))))))))))))))))))))))))))))) ()) (fun e0 => ex (.inl e0)) (fun _ => ex (.inr ())) d.2.2.2.1
  hn := rfl
  hT := fun _ _ _ _ => by kernel_rfl
  hx := fun d o x => match x with | .inl z => ⟨.ret, _, nofun, fun _ _ => rfl⟩ | .inr z => ⟨(.exit 0), _, nofun, fun _ _ => rfl⟩
  hS := fun d o hd ho hp R rec ex Good hr hx => cutroomlaw03_formed_L4_ok d.1 d.2.2.2.1 hd.1 hd.2.2.2.1 hp (fun v0 => rec (d.1, ((), ((), (v0, ((), ((), ((), ((), ((), ((), ((), ((), ((), ((), ((), ((), ((), ((), ((), ((), ((), ((), ((), ((), ((), ((), ((), ((), ((), ((), ((), ((), ())))))))))))))))))))))))))))))))) ()) (fun e0 => ex (.inl e0)) (fun _ => ex (.inr ())) Good
    (fun v0 h1 h2 h3 => hr (d.1, ((), ((), (v0, ((), ((), ((), ((), ((), ((), ((), ((), ((), ((), ((), ((), ((), ((), ((), ((), ((), ((), ((), ((), ((), ((), ((), ((), ((), ((), ((), ((), ())))))))))))))))))))))))))))))))) () (fun _ _ _ => by kernel_rfl) (cast (by kernel_rfl) h1) (cast (by kernel_rfl) h2) (cast (by kernel_rfl) h3))
    (fun e0 he => (show Good (ex (.inl e0)) from he ▸ hx))
    (fun he => (show Good (ex (.inr ())) from he ▸ hx))
theorem cutroomlaw03_formed_L4_snd (h : CtxOK Try.prog C8) : LoopS Try.prog (getLoop Try.f15 4) cutroomlaw03_formed_L4.G := cutroomlaw03_formed_L4.sound h (cutroomlaw03_formed_L4_lok h)
noncomputable def cutroomlaw03_formed_LP : Loops := (addL noLoops 4 cutroomlaw03_formed_L4.G)
theorem cutroomlaw03_formed_lok (h : CtxOK Try.prog C8) : LOK Try.prog cutroomlaw03_formed_LP (Try.f15.body.getD .skip) := LOK_list (l := [(false, getLoop Try.f15 4, cutroomlaw03_formed_L4.G)]) (by kernel_rfl) ⟨cutroomlaw03_formed_L4_snd h, trivial⟩
noncomputable def cutroomlaw03_formed : FnK C8 cutroomlaw03_formed_M cutroomlaw03_formed_LP [none] Try.f15 where
  sh := [.v false (.sl T_api_Unit)]
  osh := []
  rsh := [.v true .bool]
  rosh := []
  pre := fun d o => cutroomlaw03_formed_pre d.1
  S := fun d o => (((cutroomlaw03_formed_S d.1), ()), ())
  F := fun k d o => cutroomlaw03_formed_F (fun v0 => k (v0, ()) ()) d.1
  hn := rfl
  hF := fun _ _ _ _ => by kernel_rfl
  hS := fun d o hd ho hp R k => cutroomlaw03_formed_ok d.1 hd.1 hp (fun v0 => k (v0, ()) ()) (fun z => z = k ((cutroomlaw03_formed_S d.1), ()) ()) rfl
theorem cutroomlaw03_formed_snd (h : CtxOK Try.prog C8) : Sound Try.prog 15 cutroomlaw03_formed.G := cutroomlaw03_formed.sound h rfl (body_LOK (cutroomlaw03_formed_lok h))
noncomputable def C9 : Ctx := addF C8 15 cutroomlaw03_formed.G
theorem C9_ok : CtxOK Try.prog C9 := C8_ok.add (cutroomlaw03_formed_snd C8_ok) Try.f15 rfl (by kernel_rfl) rfl

def cutroomlaw03_StartcodeClean_mt : List (Nat × Nat × List Nat) := [(1, 2, [80]), (3, 2, [80]), (4, 24, [272]), (6, 8, [272]), (7, 40, [272]), (8, 40, [272]), (9, 40, [272]), (11, 0, []), (999999, 4, []), (1000000, 0, [])]
def cutroomlaw03_StartcodeClean_M : Masks := maskOf cutroomlaw03_StartcodeClean_mt
noncomputable def cutroomlaw03_StartcodeClean_L7_LP : Loops := noLoops
theorem cutroomlaw03_StartcodeClean_L7_lok (_h : CtxOK Try.prog C9) : LOK Try.prog cutroomlaw03_StartcodeClean_L7_LP (getLoop Try.f4 7) := LOK_list (l := []) (by kernel_rfl) trivial
abbrev cutroomlaw03_StartcodeClean_L7_sh : List SD × OSh := ([.dead, .dead, .dead, .sl 272, .dead, .v true (.int .i64), .dead, .dead, .dead, .dead, .dead, .dead, .dead, .dead, .dead, .dead, .dead, .dead, .dead, .dead, .dead, .dead, .dead, .dead, .dead, .dead, .dead, .dead, .dead, .dead, .dead, .dead, .dead, .dead, .dead, .dead, .dead, .dead, .dead, .dead, .dead, .dead, .dead, .dead, .dead, .dead, .dead, .dead, .dead, .dead, .dead, .dead, .dead, .dead, .dead, .dead, .dead, .dead, .dead, .dead, .dead], [(272, .arr true (.int .u8))])
abbrev cutroomlaw03_StartcodeClean_L7_x0 : List SD × OSh := ([.dead, .dead, .v true .bool, .dead, .dead, .dead, .dead, .dead, .dead, .dead, .dead, .dead, .dead, .dead, .dead, .dead, .dead, .dead, .dead, .dead, .dead, .dead, .dead, .dead, .dead, .dead, .dead, .dead, .dead, .dead, .dead, .dead, .dead, .dead, .dead, .dead, .dead, .dead, .dead, .dead, .dead, .dead, .dead, .dead, .dead, .dead, .dead, .dead, .dead, .dead, .dead, .dead, .dead, .dead, .dead, .dead, .dead, .dead, .dead, .dead, .dead], [])
abbrev cutroomlaw03_StartcodeClean_L7_x1 : List SD × OSh := ([.dead, .dead, .dead, .dead, .dead, .dead, .dead, .dead, .dead, .dead, .dead, .dead, .dead, .dead, .dead, .dead, .dead, .dead, .dead, .dead, .dead, .dead, .dead, .dead, .dead, .dead, .dead, .dead, .dead, .dead, .dead, .dead, .dead, .dead, .dead, .dead, .dead, .dead, .dead, .dead, .dead, .dead, .dead, .dead, .dead, .dead, .dead, .dead, .dead, .dead, .dead, .dead, .dead, .dead, .dead, .dead, .dead, .dead, .dead, .dead, .dead], [])
noncomputable def cutroomlaw03_StartcodeClean_L7 : LoopK C9 cutroomlaw03_StartcodeClean_M cutroomlaw03_StartcodeClean_L7_LP (getLoop Try.f4 7) where
  sh := cutroomlaw03_StartcodeClean_L7_sh
  X := (Bool) ⊕ (Unit)
  go := fun d o x k => caseS x (fun a0 => k .ret (mkS cutroomlaw03_StartcodeClean_L7_x0 ((), ((), (a0, ((), ((), ((), ((), ((), ((), ((), ((), ((), ((), ((), ((), ((), ((), ((), ((), ((), ((), ((), ((), ((), ((), ((), ((), ((), ((), ((), ((), ((), ((), ((), ((), ((), ((), ((), ((), ((), ((), ((), ((), ((), ((), ((), ((), ((), ((), ((), ((), ((), ((), ((), ((), ((), ((), ((), ((), ((), ((), ()))))))))))))))))))))))))))))))))))))))))))))))))))))))))))))) ())) (fun b0 => k (.exit 0) (mkS cutroomlaw03_StartcodeClean_L7_x1 ((), ((), ((), ((), ((), ((), ((), ((), ((), ((), ((), ((), ((), ((), ((), ((), ((), ((), ((), ((), ((), ((), ((), ((), ((), ((), ((), ((), ((), ((), ((), ((), ((), ((), ((), ((), ((), ((), ((), ((), ((), ((), ((), ((), ((), ((), ((), ((), ((), ((), ((), ((), ((), ((), ((), ((), ((), ((), ((), ((), ((), ()))))))))))))))))))))))))))))))))))))))))))))))))))))))))))))) ()))
  pre := fun d o => cutroomlaw03_StartcodeClean_L7_pre o.1 d.2.2.2.2.2.1
  mu := fun d o => cutroomlaw03_StartcodeClean_L7_mu o.1 d.2.2.2.2.2.1
  S := fun d o => cutroomlaw03_StartcodeClean_L7_S o.1 d.2.2.2.2.2.1
  T := fun rec ex d o => cutroomlaw03_StartcodeClean_L7_T o.1 (fun v0 => rec ((), ((), ((), ((), ((), (v0, ((), ((), ((), ((), ((), ((), ((), ((), ((), ((), ((), ((), ((), ((), ((), ((), ((), ((), ((), ((), ((), ((), ((), ((), ((), ((), ((), ((), ((), ((), ((), ((), ((), ((), ((), ((), ((), ((), ((), ((), ((), ((), ((), ((), ((), ((), ((), ((), ((), ((), ((), ((), ((), ((), ((), ()))))))))))))))))))))))))))))))))))))))))))))))))))))))))))))) (o.1, ())) (fun e0 => ex (.inl e0)) (fun _ => ex (.inr ())) d.2.2.2.2.2.1
  hn := rfl
  hT := fun _ _ _ _ => by kernel_rfl
  hx := fun d o x => match x with | .inl z => ⟨.ret, _, nofun, fun _ _ => rfl⟩ | .inr z => ⟨(.exit 0), _, nofun, fun _ _ => rfl⟩
  hS := fun d o hd ho hp R rec ex Good hr hx => cutroomlaw03_StartcodeClean_L7_ok o.1 d.2.2.2.2.2.1 hd.2.2.2.2.2.1 ho.1 hp (fun v0 => rec ((), ((), ((), ((), ((), (v0, ((), ((), ((), ((), ((), ((), ((), ((), ((), ((), ((), ((), ((), ((), ((), ((), ((), ((), ((), ((), ((), ((), ((), ((), ((), ((), ((), ((), ((), ((), ((), ((), ((), ((), ((), ((), ((), ((), ((), ((), ((), ((), ((), ((), ((), ((), ((), ((), ((), ((), ((), ((), ((), ((), ((), ()))))))))))))))))))))))))))))))))))))))))))))))))))))))))))))) (o.1, ())) (fun e0 => ex (.inl e0)) (fun _ => ex (.inr ())) Good
    (fun v0 h1 h2 h3 => hr ((), ((), ((), ((), ((), (v0, ((), ((), ((), ((), ((), ((), ((), ((), ((), ((), ((), ((), ((), ((), ((), ((), ((), ((), ((), ((), ((), ((), ((), ((), ((), ((), ((), ((), ((), ((), ((), ((), ((), ((), ((), ((), ((), ((), ((), ((), ((), ((), ((), ((), ((), ((), ((), ((), ((), ((), ((), ((), ((), ((), ((), ()))))))))))))))))))))))))))))))))))))))))))))))))))))))))))))) (o.1, ()) (fun _ _ _ => by kernel_rfl) (cast (by kernel_rfl) h1) (cast (by kernel_rfl) h2) (cast (by kernel_rfl) h3))
    (fun e0 he => (show Good (ex (.inl e0)) from he ▸ hx))
    (fun he => (show Good (ex (.inr ())) from he ▸ hx))
theorem cutroomlaw03_StartcodeClean_L7_snd (h : CtxOK Try.prog C9) : LoopS Try.prog (getLoop Try.f4 7) cutroomlaw03_StartcodeClean_L7.G := cutroomlaw03_StartcodeClean_L7.sound h (cutroomlaw03_StartcodeClean_L7_lok h)
noncomputable def cutroomlaw03_StartcodeClean_LP : Loops := (addL noLoops 7 cutroomlaw03_StartcodeClean_L7.G)
theorem cutroomlaw03_StartcodeClean_lok (h : CtxOK Try.prog C9) : LOK Try.prog cutroomlaw03_StartcodeClean_LP (Try.f4.body.getD .skip) := LOK_list (l := [(false, getLoop Try.f4 7, cutroomlaw03_StartcodeClean_L7.G)]) (by kernel_rfl) ⟨cutroomlaw03_StartcodeClean_L7_snd h, trivial⟩
noncomputable def cutroomlaw03_StartcodeClean : FnK C9 cutroomlaw03_StartcodeClean_M cutroomlaw03_StartcodeClean_LP [none] Try.f4 where
  sh := [.v false T_api_Unit]
  osh := []
  rsh := [.v true .bool]
  rosh := []
  pre := fun d o => cutroomlaw03_StartcodeClean_pre d.1
  S := fun d o => (((cutroomlaw03_StartcodeClean_S d.1), ()), ())
  F := fun k d o => cutroomlaw03_StartcodeClean_F (fun v0 => k (v0, ()) ()) d.1
  hn := rfl
  hF := fun _ _ _ _ => by kernel_rfl
  hS := fun d o hd ho hp R k => cutroomlaw03_StartcodeClean_ok d.1 hd.1 hp (fun v0 => k (v0, ()) ()) (fun z => z = k ((cutroomlaw03_StartcodeClean_S d.1), ()) ()) rfl
theorem cutroomlaw03_StartcodeClean_snd (h : CtxOK Try.prog C9) : Sound Try.prog 4 cutroomlaw03_StartcodeClean.G := cutroomlaw03_StartcodeClean.sound h rfl (body_LOK (cutroomlaw03_StartcodeClean_lok h))
noncomputable def C10 : Ctx := addF C9 4 cutroomlaw03_StartcodeClean.G
theorem C10_ok : CtxOK Try.prog C10 := C9_ok.add (cutroomlaw03_StartcodeClean_snd C9_ok) Try.f4 rfl (by kernel_rfl) rfl

def startcode_Unescape_mt : List (Nat × Nat × List Nat) := [(1, 1, []), (2, 17, []), (4, 1, []), (5, 33, [144]), (6, 97, [144]), (7, 14680161, [144]), (8, 14680161, [144]), (9, 14680545, [144]), (12, 14680097, [144]), (13, 14680417, [144]), (14, 14680417, [144]), (15, 14680417, [144]), (17, 14680161, [144]), (18, 32, [144]), (999999, 12, [96, 144]), (1000000, 32, [144]), (1000001, 14680161, [144])]
def startcode_Unescape_M : Masks := maskOf startcode_Unescape_mt
noncomputable def startcode_Unescape_L7_LP : Loops := noLoops
theorem startcode_Unescape_L7_lok (_h : CtxOK Try.prog C10) : LOK Try.prog startcode_Unescape_L7_LP (getLoop Try.f18 7) := LOK_list (l := []) (by kernel_rfl) trivial
abbrev startcode_Unescape_L7_sh : List SD × OSh := ([.v false (.sl (.int .u8)), .dead, .dead, .dead, .dead, .sl 144, .v true (.int .i64), .dead, .dead, .dead, .dead, .dead, .dead, .dead, .dead, .dead, .dead, .dead, .dead, .dead, .dead, .v false (.sl (.int .u8)), .v true (.int .i64), .v true (.int .i64), .dead, .dead, .dead, .dead, .dead, .dead, .dead, .dead, .dead, .dead, .dead, .dead, .dead, .dead, .dead, .dead, .dead, .dead, .dead, .dead, .dead, .dead, .dead, .dead, .dead, .dead, .dead, .dead, .dead, .dead, .dead, .dead, .dead, .dead, .dead, .dead, .dead], [(144, .arr true (.int .u8))])
abbrev startcode_Unescape_L7_x0 : List SD × OSh := ([.dead, .dead, .sl 96, .v true (.int .i64), .dead, .dead, .dead, .dead, .dead, .dead, .dead, .dead, .dead, .dead, .dead, .dead, .dead, .dead, .dead, .dead, .dead, .dead, .dead, .dead, .dead, .dead, .dead, .dead, .dead, .dead, .dead, .dead, .dead, .dead, .dead, .dead, .dead, .dead, .dead, .dead, .dead, .dead, .dead, .dead, .dead, .dead, .dead, .dead, .dead, .dead, .dead, .dead, .dead, .dead, .dead, .dead, .dead, .dead, .dead, .dead, .dead], [(96, .arr true (.int .u8)), (144, .arr true (.int .u8))])
abbrev startcode_Unescape_L7_x1 : List SD × OSh := ([.dead, .dead, .dead, .dead, .dead, .sl 144, .dead, .dead, .dead, .dead, .dead, .dead, .dead, .dead, .dead, .dead, .dead, .dead, .dead, .dead, .dead, .dead, .dead, .dead, .dead, .dead, .dead, .dead, .dead, .dead, .dead, .dead, .dead, .dead, .dead, .dead, .dead, .dead, .dead, .dead, .dead, .dead, .dead, .dead, .dead, .dead, .dead, .dead, .dead, .dead, .dead, .dead, .dead, .dead, .dead, .dead, .dead, .dead, .dead, .dead, .dead], [(144, .arr true (.int .u8))])
noncomputable def startcode_Unescape_L7 : LoopK C10 startcode_Unescape_M startcode_Unescape_L7_LP (getLoop Try.f18 7) where
  sh := startcode_Unescape_L7_sh
  X := (Int × List Int × List Int) ⊕ (List Int)
  go := fun d o x k => caseS x (fun a0 => k .ret (mkS startcode_Unescape_L7_x0 ((), ((), ((), (a0.1, ((), ((), ((), ((), ((), ((), ((), ((), ((), ((), ((), ((), ((), ((), ((), ((), ((), ((), ((), ((), ((), ((), ((), ((), ((), ((), ((), ((), ((), ((), ((), ((), ((), ((), ((), ((), ((), ((), ((), ((), ((), ((), ((), ((), ((), ((), ((), ((), ((), ((), ((), ((), ((), ((), ((), ((), ((), ()))))))))))))))))))))))))))))))))))))))))))))))))))))))))))))) (a0.2.1, (a0.2.2, ())))) (fun b0 => k (.exit 0) (mkS startcode_Unescape_L7_x1 ((), ((), ((), ((), ((), ((), ((), ((), ((), ((), ((), ((), ((), ((), ((), ((), ((), ((), ((), ((), ((), ((), ((), ((), ((), ((), ((), ((), ((), ((), ((), ((), ((), ((), ((), ((), ((), ((), ((), ((), ((), ((), ((), ((), ((), ((), ((), ((), ((), ((), ((), ((), ((), ((), ((), ((), ((), ((), ((), ((), ((), ()))))))))))))))))))))))))))))))))))))))))))))))))))))))))))))) (b0, ())))
  pre := fun d o => startcode_Unescape_L7_pre d.1 d.2.2.2.2.2.2.2.2.2.2.2.2.2.2.2.2.2.2.2.2.2.1 d.2.2.2.2.2.2.2.2.2.2.2.2.2.2.2.2.2.2.2.2.2.2.1 d.2.2.2.2.2.2.1 d.2.2.2.2.2.2.2.2.2.2.2.2.2.2.2.2.2.2.2.2.2.2.2.1 o.1
  mu := fun d o => startcode_Unescape_L7_mu d.1 d.2.2.2.2.2.2.2.2.2.2.2.2.2.2.2.2.2.2.2.2.2.1 d.2.2.2.2.2.2.2.2.2.2.2.2.2.2.2.2.2.2.2.2.2.2.1 d.2.2.2.2.2.2.1 d.2.2.2.2.2.2.2.2.2.2.2.2.2.2.2.2.2.2.2.2.2.2.2.1 o.1
  S := fun d o => startcode_Unescape_L7_S d.1 d.2.2.2.2.2.2.2.2.2.2.2.2.2.2.2.2.2.2.2.2.2.1 d.2.2.2.2.2.2.2.2.2.2.2.2.2.2.2.2.2.2.2.2.2.2.1 d.2.2.2.2.2.2.1 d.2.2.2.2.2.2.2.2.2.2.2.2.2.2.2.2.2.2.2.2.2.2.2.1 o.1
  T := fun rec ex d o => startcode_Unescape_L7_T d.1 d.2.2.2.2.2.2.2.2.2.2.2.2.2.2.2.2.2.2.2.2.2.1 d.2.2.2.2.2.2.2.2.2.2.2.2.2.2.2.2.2.2.2.2.2.2.1 (fun v0 v1 v2 => rec (d.1, ((), ((), ((), ((), ((), (v0, ((), ((), ((), ((), ((), ((), ((), ((), ((), ((), ((), ((), ((), ((), (d.2.2.2.2.2.2.2.2.2.2.2.2.2.2.2.2.2.2.2.2.2.1, (d.2.2.2.2.2.2.2.2.2.2.2.2.2.2.2.2.2.2.2.2.2.2.1, (v1, ((), ((), ((), ((), ((), ((), ((), ((), ((), ((), ((), ((), ((), ((), ((), ((), ((), ((), ((), ((), ((), ((), ((), ((), ((), ((), ((), ((), ((), ((), ((), ((), ((), ((), ((), ((), ((), ()))))))))))))))))))))))))))))))))))))))))))))))))))))))))))))) (v2, ())) (fun e0 e1 e2 => ex (.inl (e0, e1, e2))) (fun e0 => ex (.inr e0)) d.2.2.2.2.2.2.1 d.2.2.2.2.2.2.2.2.2.2.2.2.2.2.2.2.2.2.2.2.2.2.2.1 o.1
  hn := rfl
  hT := fun _ _ _ _ => by kernel_rfl
  hx := fun d o x => match x with | .inl z => ⟨.ret, _, nofun, fun _ _ => rfl⟩ | .inr z => ⟨(.exit 0), _, nofun, fun _ _ => rfl⟩
  hS := fun d o hd ho hp R rec ex Good hr hx => startcode_Unescape_L7_ok d.1 d.2.2.2.2.2.2.2.2.2.2.2.2.2.2.2.2.2.2.2.2.2.1 d.2.2.2.2.2.2.2.2.2.2.2.2.2.2.2.2.2.2.2.2.2.2.1 d.2.2.2.2.2.2.1 d.2.2.2.2.2.2.2.2.2.2.2.2.2.2.2.2.2.2.2.2.2.2.2.1 o.1 hd.1 hd.2.2.2.2.2.2.1 hd.2.2.2.2.2.2.2.2.2.2.2.2.2.2.2.2.2.2.2.2.2.1 hd.2.2.2.2.2.2.2.2.2.2.2.2.2.2.2.2.2.2.2.2.2.2.1 hd.2.2.2.2.2.2.2.2.2.2.2.2.2.2.2.2.2.2.2.2.2.2.2.1 ho.1 hp (fun v0 v1 v2 => rec (d.1, ((), ((), ((), ((), ((), (v0, ((), ((), ((), ((), ((), ((), ((), ((), ((), ((), ((), ((), ((), ((), (d.2.2.2.2.2.2.2.2.2.2.2.2.2.2.2.2.2.2.2.2.2.1, (d.2.2.2.2.2.2.2.2.2.2.2.2.2.2.2.2.2.2.2.2.2.2.1, (v1, ((), ((), ((), ((), ((), ((), ((), ((), ((), ((), ((), ((), ((), ((), ((), ((), ((), ((), ((), ((), ((), ((), ((), ((), ((), ((), ((), ((), ((), ((), ((), ((), ((), ((), ((), ((), ((), ()))))))))))))))))))))))))))))))))))))))))))))))))))))))))))))) (v2, ())) (fun e0 e1 e2 => ex (.inl (e0, e1, e2))) (fun e0 => ex (.inr e0)) Good
    (fun v0 v1 v2 h1 h2 h3 => hr (d.1, ((), ((), ((), ((), ((), (v0, ((), ((), ((), ((), ((), ((), ((), ((), ((), ((), ((), ((), ((), ((), (d.2.2.2.2.2.2.2.2.2.2.2.2.2.2.2.2.2.2.2.2.2.1, (d.2.2.2.2.2.2.2.2.2.2.2.2.2.2.2.2.2.2.2.2.2.2.1, (v1, ((), ((), ((), ((), ((), ((), ((), ((), ((), ((), ((), ((), ((), ((), ((), ((), ((), ((), ((), ((), ((), ((), ((), ((), ((), ((), ((), ((), ((), ((), ((), ((), ((), ((), ((), ((), ((), ()))))))))))))))))))))))))))))))))))))))))))))))))))))))))))))) (v2, ()) (fun _ _ _ => by kernel_rfl) (cast (by kernel_rfl) h1) (cast (by kernel_rfl) h2) (cast (by kernel_rfl) h3))
    (fun e0 e1 e2 he => (show Good (ex (.inl (e0, e1, e2))) from he ▸ hx))
    (fun e0 he => (show Good (ex (.inr e0)) from he ▸ hx))
theorem startcode_Unescape_L7_snd (h : CtxOK Try.prog C10) : LoopS Try.prog (getLoop Try.f18 7) startcode_Unescape_L7.G := startcode_Unescape_L7.sound h (startcode_Unescape_L7_lok h)
noncomputable def startcode_Unescape_J4_LP : Loops := (addL noLoops 7 startcode_Unescape_L7.G)
theorem startcode_Unescape_J4_lok (h : CtxOK Try.prog C10) : LOK Try.prog startcode_Unescape_J4_LP (getJoin Try.f18 4) := LOK_list (l := [(false, getLoop Try.f18 7, startcode_Unescape_L7.G)]) (by kernel_rfl) ⟨startcode_Unescape_L7_snd h, trivial⟩
abbrev startcode_Unescape_J4_sh : List SD × OSh := ([.v false (.sl (.int .u8)), .dead, .dead, .dead, .dead, .dead, .dead, .dead, .dead, .dead, .dead, .dead, .dead, .dead, .dead, .dead, .dead, .dead, .dead, .dead, .dead, .dead, .dead, .dead, .dead, .dead, .dead, .dead, .dead, .dead, .dead, .dead, .dead, .dead, .dead, .dead, .dead, .dead, .dead, .dead, .dead, .dead, .dead, .dead, .dead, .dead, .dead, .dead, .dead, .dead, .dead, .dead, .dead, .dead, .dead, .dead, .dead, .dead, .dead, .dead, .dead], [])
abbrev startcode_Unescape_J4_x0 : List SD × OSh := ([.dead, .dead, .sl 96, .v true (.int .i64), .dead, .dead, .dead, .dead, .dead, .dead, .dead, .dead, .dead, .dead, .dead, .dead, .dead, .dead, .dead, .dead, .dead, .dead, .dead, .dead, .dead, .dead, .dead, .dead, .dead, .dead, .dead, .dead, .dead, .dead, .dead, .dead, .dead, .dead, .dead, .dead, .dead, .dead, .dead, .dead, .dead, .dead, .dead, .dead, .dead, .dead, .dead, .dead, .dead, .dead, .dead, .dead, .dead, .dead, .dead, .dead, .dead], [(96, .arr true (.int .u8)), (144, .arr true (.int .u8))])
abbrev startcode_Unescape_J4_x1 : List SD × OSh := ([.dead, .dead, .sl 144, .v true (.int .i64), .dead, .dead, .dead, .dead, .dead, .dead, .dead, .dead, .dead, .dead, .dead, .dead, .dead, .dead, .dead, .dead, .dead, .dead, .dead, .dead, .dead, .dead, .dead, .dead, .dead, .dead, .dead, .dead, .dead, .dead, .dead, .dead, .dead, .dead, .dead, .dead, .dead, .dead, .dead, .dead, .dead, .dead, .dead, .dead, .dead, .dead, .dead, .dead, .dead, .dead, .dead, .dead, .dead, .dead, .dead, .dead, .dead], [(144, .arr true (.int .u8))])
noncomputable def startcode_Unescape_J4 : JoinK C10 startcode_Unescape_M startcode_Unescape_J4_LP (getJoin Try.f18 4) where
  sh := startcode_Unescape_J4_sh
  X := (Int × List Int × List Int) ⊕ (Int × List Int)
  go := fun d o x k => caseS x (fun a0 => k .ret (mkS startcode_Unescape_J4_x0 ((), ((), ((), (a0.1, ((), ((), ((), ((), ((), ((), ((), ((), ((), ((), ((), ((), ((), ((), ((), ((), ((), ((), ((), ((), ((), ((), ((), ((), ((), ((), ((), ((), ((), ((), ((), ((), ((), ((), ((), ((), ((), ((), ((), ((), ((), ((), ((), ((), ((), ((), ((), ((), ((), ((), ((), ((), ((), ((), ((), ((), ((), ()))))))))))))))))))))))))))))))))))))))))))))))))))))))))))))) (a0.2.1, (a0.2.2, ())))) (fun b0 => k .ret (mkS startcode_Unescape_J4_x1 ((), ((), ((), (b0.1, ((), ((), ((), ((), ((), ((), ((), ((), ((), ((), ((), ((), ((), ((), ((), ((), ((), ((), ((), ((), ((), ((), ((), ((), ((), ((), ((), ((), ((), ((), ((), ((), ((), ((), ((), ((), ((), ((), ((), ((), ((), ((), ((), ((), ((), ((), ((), ((), ((), ((), ((), ((), ((), ((), ((), ((), ((), ()))))))))))))))))))))))))))))))))))))))))))))))))))))))))))))) (b0.2, ())))
  T := fun ex d o => startcode_Unescape_J4_T (fun e0 e1 e2 => ex (.inl (e0, e1, e2))) (fun e0 e1 => ex (.inr (e0, e1))) d.1
  hT := fun _ _ _ _ => by kernel_rfl
theorem startcode_Unescape_J4_snd (h : CtxOK Try.prog C10) : CodeS Try.prog (getJoin Try.f18 4) startcode_Unescape_J4.G := startcode_Unescape_J4.sound h (startcode_Unescape_J4_lok h)
noncomputable def startcode_Unescape_LP : Loops := (addL (addL noLoops 7 startcode_Unescape_L7.G) 1048580 startcode_Unescape_J4.G)
theorem startcode_Unescape_lok (h : CtxOK Try.prog C10) : LOK Try.prog startcode_Unescape_LP (Try.f18.body.getD .skip) := LOK_list (l := [(true, getJoin Try.f18 4, startcode_Unescape_J4.G)]) (by kernel_rfl) ⟨startcode_Unescape_J4_snd h, trivial⟩
noncomputable def startcode_Unescape : FnK C10 startcode_Unescape_M startcode_Unescape_LP [none, none] Try.f18 where
  sh := [.v false (.sl (.int .u8))]
  osh := []
  rsh := [.sl 0, .v true (.int .i64)]
  rosh := [(0, .arr true (.int .u8))]
  pre := fun d o => startcode_Unescape_pre d.1
  S := fun d o => (((), ((startcode_Unescape_S d.1).1, ())), ((startcode_Unescape_S d.1).2, ()))
  F := fun k d o => startcode_Unescape_F (fun v0 v1 => k ((), (v0, ())) (v1, ())) d.1
  hn := rfl
  hF := fun _ _ _ _ => by kernel_rfl
  hS := fun d o hd ho hp R k => startcode_Unescape_ok d.1 hd.1 hp (fun v0 v1 => k ((), (v0, ())) (v1, ())) (fun z => z = k ((), ((startcode_Unescape_S d.1).1, ())) ((startcode_Unescape_S d.1).2, ())) rfl
theorem startcode_Unescape_snd (h : CtxOK Try.prog C10) : Sound Try.prog 18 startcode_Unescape.G := startcode_Unescape.sound h rfl (body_LOK (startcode_Unescape_lok h))
noncomputable def C11 : Ctx := addF C10 18 startcode_Unescape.G
theorem C11_ok : CtxOK Try.prog C11 := C10_ok.add (startcode_Unescape_snd C10_ok) Try.f18 rfl (by kernel_rfl) rfl

def cutroomlaw03_StartcodeEscape_mt : List (Nat × Nat × List Nat) := [(1, 1, []), (3, 1, []), (4, 25, [288]), (5, 121, [288, 368]), (7, 25, [288]), (9, 9, [288]), (10, 385, [640]), (999999, 4, [])]
def cutroomlaw03_StartcodeEscape_M : Masks := maskOf cutroomlaw03_StartcodeEscape_mt
noncomputable def cutroomlaw03_StartcodeEscape_LP : Loops := noLoops
theorem cutroomlaw03_StartcodeEscape_lok (_h : CtxOK Try.prog C11) : LOK Try.prog cutroomlaw03_StartcodeEscape_LP (Try.f5.body.getD .skip) := LOK_list (l := []) (by kernel_rfl) trivial
noncomputable def cutroomlaw03_StartcodeEscape : FnK C11 cutroomlaw03_StartcodeEscape_M cutroomlaw03_StartcodeEscape_LP [none] Try.f5 where
  sh := [.v false (.sl (.int .u8))]
  osh := []
  rsh := [.v true .bool]
  rosh := []
  pre := fun d o => cutroomlaw03_StartcodeEscape_pre d.1
  S := fun d o => (((cutroomlaw03_StartcodeEscape_S d.1), ()), ())
  F := fun k d o => cutroomlaw03_StartcodeEscape_F (fun v0 => k (v0, ()) ()) d.1
  hn := rfl
  hF := fun _ _ _ _ => by kernel_rfl
  hS := fun d o hd ho hp R k => cutroomlaw03_StartcodeEscape_ok d.1 hd.1 hp (fun v0 => k (v0, ()) ()) (fun z => z = k ((cutroomlaw03_StartcodeEscape_S d.1), ()) ()) rfl
theorem cutroomlaw03_StartcodeEscape_snd (h : CtxOK Try.prog C11) : Sound Try.prog 5 cutroomlaw03_StartcodeEscape.G := cutroomlaw03_StartcodeEscape.sound h rfl (body_LOK (cutroomlaw03_StartcodeEscape_lok h))
noncomputable def C12 : Ctx := addF C11 5 cutroomlaw03_StartcodeEscape.G
theorem C12_ok : CtxOK Try.prog C12 := C11_ok.add (cutroomlaw03_StartcodeEscape_snd C11_ok) Try.f5 rfl (by kernel_rfl) rfl

def cutroomref03_Unescape_mt : List (Nat × Nat × List Nat) := [(1, 1, []), (2, 17, [128]), (3, 49, [128]), (4, 113, [128]), (5, 113, [128]), (6, 113, [128]), (8, 113, [128]), (9, 113, [128]), (12, 17, [128]), (13, 401, [128, 720]), (15, 16, [128]), (999999, 12, [96, 128]), (1000000, 17, [128]), (1000001, 113, [128])]
def cutroomref03_Unescape_M : Masks := maskOf cutroomref03_Unescape_mt
noncomputable def cutroomref03_Unescape_L4_LP : Loops := noLoops
theorem cutroomref03_Unescape_L4_lok (_h : CtxOK Try.prog C12) : LOK Try.prog cutroomref03_Unescape_L4_LP (getLoop Try.f19 4) := LOK_list (l := []) (by kernel_rfl) trivial
abbrev cutroomref03_Unescape_L4_sh : List SD × OSh := ([.v false (.sl (.int .u8)), .dead, .dead, .dead, .sl 128, .v true (.int .i64), .v true (.int .i64), .dead, .dead, .dead, .dead, .dead, .dead, .dead, .dead, .dead, .dead, .dead, .dead, .dead, .dead, .dead, .dead, .dead, .dead, .dead, .dead, .dead, .dead, .dead, .dead, .dead, .dead, .dead, .dead, .dead, .dead, .dead, .dead, .dead, .dead, .dead, .dead, .dead, .dead, .dead, .dead, .dead, .dead, .dead, .dead, .dead, .dead], [(128, .arr true (.int .u8))])
abbrev cutroomref03_Unescape_L4_x0 : List SD × OSh := ([.v false (.sl (.int .u8)), .dead, .dead, .dead, .sl 128, .dead, .dead, .dead, .dead, .dead, .dead, .dead, .dead, .dead, .dead, .dead, .dead, .dead, .dead, .dead, .dead, .dead, .dead, .dead, .dead, .dead, .dead, .dead, .dead, .dead, .dead, .dead, .dead, .dead, .dead, .dead, .dead, .dead, .dead, .dead, .dead, .dead, .dead, .dead, .dead, .dead, .dead, .dead, .dead, .dead, .dead, .dead, .dead], [(128, .arr true (.int .u8))])
noncomputable def cutroomref03_Unescape_L4 : LoopK C12 cutroomref03_Unescape_M cutroomref03_Unescape_L4_LP (getLoop Try.f19 4) where
  sh := cutroomref03_Unescape_L4_sh
  X := List Int
  go := fun d o x k => k (.exit 0) (mkS cutroomref03_Unescape_L4_x0 (d.1, ((), ((), ((), ((), ((), ((), ((), ((), ((), ((), ((), ((), ((), ((), ((), ((), ((), ((), ((), ((), ((), ((), ((), ((), ((), ((), ((), ((), ((), ((), ((), ((), ((), ((), ((), ((), ((), ((), ((), ((), ((), ((), ((), ((), ((), ((), ((), ((), ((), ((), ((), ((), ()))))))))))))))))))))))))))))))))))))))))))))))))))))) (x, ()))
  pre := fun d o => cutroomref03_Unescape_L4_pre d.1 d.2.2.2.2.2.1 d.2.2.2.2.2.2.1 o.1
  mu := fun d o => cutroomref03_Unescape_L4_mu d.1 d.2.2.2.2.2.1 d.2.2.2.2.2.2.1 o.1
  S := fun d o => cutroomref03_Unescape_L4_S d.1 d.2.2.2.2.2.1 d.2.2.2.2.2.2.1 o.1
  T := fun rec ex d o => cutroomref03_Unescape_L4_T d.1 (fun v0 v1 v2 => rec (d.1, ((), ((), ((), ((), (v0, (v1, ((), ((), ((), ((), ((), ((), ((), ((), ((), ((), ((), ((), ((), ((), ((), ((), ((), ((), ((), ((), ((), ((), ((), ((), ((), ((), ((), ((), ((), ((), ((), ((), ((), ((), ((), ((), ((), ((), ((), ((), ((), ((), ((), ((), ((), ((), ()))))))))))))))))))))))))))))))))))))))))))))))))))))) (v2, ())) (fun e0 => ex e0) d.2.2.2.2.2.1 d.2.2.2.2.2.2.1 o.1
  hn := rfl
  hT := fun _ _ _ _ => by kernel_rfl
  hx := fun d o x => ⟨(.exit 0), _, nofun, fun _ _ => rfl⟩
  hS := fun d o hd ho hp R rec ex Good hr hx => cutroomref03_Unescape_L4_ok d.1 d.2.2.2.2.2.1 d.2.2.2.2.2.2.1 o.1 hd.1 hd.2.2.2.2.2.1 hd.2.2.2.2.2.2.1 ho.1 hp (fun v0 v1 v2 => rec (d.1, ((), ((), ((), ((), (v0, (v1, ((), ((), ((), ((), ((), ((), ((), ((), ((), ((), ((), ((), ((), ((), ((), ((), ((), ((), ((), ((), ((), ((), ((), ((), ((), ((), ((), ((), ((), ((), ((), ((), ((), ((), ((), ((), ((), ((), ((), ((), ((), ((), ((), ((), ((), ((), ()))))))))))))))))))))))))))))))))))))))))))))))))))))) (v2, ())) (fun e0 => ex e0) Good
    (fun v0 v1 v2 h1 h2 h3 => hr (d.1, ((), ((), ((), ((), (v0, (v1, ((), ((), ((), ((), ((), ((), ((), ((), ((), ((), ((), ((), ((), ((), ((), ((), ((), ((), ((), ((), ((), ((), ((), ((), ((), ((), ((), ((), ((), ((), ((), ((), ((), ((), ((), ((), ((), ((), ((), ((), ((), ((), ((), ((), ((), ((), ()))))))))))))))))))))))))))))))))))))))))))))))))))))) (v2, ()) (fun _ _ _ => by kernel_rfl) (cast (by kernel_rfl) h1) (cast (by kernel_rfl) h2) (cast (by kernel_rfl) h3))
    (fun e0 he => (show Good (ex e0) from he ▸ hx))
theorem cutroomref03_Unescape_L4_snd (h : CtxOK Try.prog C12) : LoopS Try.prog (getLoop Try.f19 4) cutroomref03_Unescape_L4.G := cutroomref03_Unescape_L4.sound h (cutroomref03_Unescape_L4_lok h)
noncomputable def cutroomref03_Unescape_LP : Loops := (addL noLoops 4 cutroomref03_Unescape_L4.G)
theorem cutroomref03_Unescape_lok (h : CtxOK Try.prog C12) : LOK Try.prog cutroomref03_Unescape_LP (Try.f19.body.getD .skip) := LOK_list (l := [(false, getLoop Try.f19 4, cutroomref03_Unescape_L4.G)]) (by kernel_rfl) ⟨cutroomref03_Unescape_L4_snd h, trivial⟩
noncomputable def cutroomref03_Unescape : FnK C12 cutroomref03_Unescape_M cutroomref03_Unescape_LP [none, none] Try.f19 where
  sh := [.v false (.sl (.int .u8))]
  osh := []
  rsh := [.sl 0, .v true (.int .i64)]
  rosh := [(0, .arr true (.int .u8))]
  pre := fun d o => cutroomref03_Unescape_pre d.1
  S := fun d o => (((), ((cutroomref03_Unescape_S d.1).1, ())), ((cutroomref03_Unescape_S d.1).2, ()))
  F := fun k d o => cutroomref03_Unescape_F (fun v0 v1 => k ((), (v0, ())) (v1, ())) d.1
  hn := rfl
  hF := fun _ _ _ _ => by kernel_rfl
  hS := fun d o hd ho hp R k => cutroomref03_Unescape_ok d.1 hd.1 hp (fun v0 v1 => k ((), (v0, ())) (v1, ())) (fun z => z = k ((), ((cutroomref03_Unescape_S d.1).1, ())) ((cutroomref03_Unescape_S d.1).2, ())) rfl
theorem cutroomref03_Unescape_snd (h : CtxOK Try.prog C12) : Sound Try.prog 19 cutroomref03_Unescape.G := cutroomref03_Unescape.sound h rfl (body_LOK (cutroomref03_Unescape_lok h))
noncomputable def C13 : Ctx := addF C12 19 cutroomref03_Unescape.G
theorem C13_ok : CtxOK Try.prog C13 := C12_ok.add (cutroomref03_Unescape_snd C12_ok) Try.f19 rfl (by kernel_rfl) rfl

def cutroomlaw03_StartcodeUnescape_mt : List (Nat × Nat × List Nat) := [(1, 1, []), (3, 1, []), (4, 25, [288]), (5, 121, [288, 368]), (7, 25, [288]), (9, 9, [288]), (10, 385, [640]), (999999, 4, [])]
def cutroomlaw03_StartcodeUnescape_M : Masks := maskOf cutroomlaw03_StartcodeUnescape_mt
noncomputable def cutroomlaw03_StartcodeUnescape_LP : Loops := noLoops
theorem cutroomlaw03_StartcodeUnescape_lok (_h : CtxOK Try.prog C13) : LOK Try.prog cutroomlaw03_StartcodeUnescape_LP (Try.f6.body.getD .skip) := LOK_list (l := []) (by kernel_rfl) trivial
noncomputable def cutroomlaw03_StartcodeUnescape : FnK C13 cutroomlaw03_StartcodeUnescape_M cutroomlaw03_StartcodeUnescape_LP [none] Try.f6 where
  sh := [.v false (.sl (.int .u8))]
  osh := []
  rsh := [.v true .bool]
  rosh := []
  pre := fun d o => cutroomlaw03_StartcodeUnescape_pre d.1
  S := fun d o => (((cutroomlaw03_StartcodeUnescape_S d.1), ()), ())
  F := fun k d o => cutroomlaw03_StartcodeUnescape_F (fun v0 => k (v0, ()) ()) d.1
  hn := rfl
  hF := fun _ _ _ _ => by kernel_rfl
  hS := fun d o hd ho hp R k => cutroomlaw03_StartcodeUnescape_ok d.1 hd.1 hp (fun v0 => k (v0, ()) ()) (fun z => z = k ((cutroomlaw03_StartcodeUnescape_S d.1), ()) ()) rfl
theorem cutroomlaw03_StartcodeUnescape_snd (h : CtxOK Try.prog C13) : Sound Try.prog 6 cutroomlaw03_StartcodeUnescape.G := cutroomlaw03_StartcodeUnescape.sound h rfl (body_LOK (cutroomlaw03_StartcodeUnescape_lok h))
noncomputable def C14 : Ctx := addF C13 6 cutroomlaw03_StartcodeUnescape.G
theorem C14_ok : CtxOK Try.prog C14 := C13_ok.add (cutroomlaw03_StartcodeUnescape_snd C13_ok) Try.f6 rfl (by kernel_rfl) rfl

def startcode_codes_mt : List (Nat × Nat × List Nat) := [(1, 1, []), (2, 9, [112]), (3, 25, [112]), (4, 25, [112]), (6, 25, [112]), (8, 8, [112]), (999999, 4, [112]), (1000000, 8, [112])]
def startcode_codes_M : Masks := maskOf startcode_codes_mt
noncomputable def startcode_codes_L3_LP : Loops := noLoops
theorem startcode_codes_L3_lok (_h : CtxOK Try.prog C14) : LOK Try.prog startcode_codes_L3_LP (getLoop Try.f25 3) := LOK_list (l := []) (by kernel_rfl) trivial
abbrev startcode_codes_L3_sh : List SD × OSh := ([.v false (.sl (.int .u8)), .dead, .dead, .sl 112, .v true (.int .i64), .dead, .dead, .dead, .dead, .dead, .dead, .dead, .dead, .dead, .dead, .dead, .dead, .dead, .dead, .dead, .dead, .dead, .dead, .dead, .dead, .dead, .dead, .dead, .dead, .dead, .dead, .dead, .dead, .dead, .dead, .dead, .dead, .dead, .dead, .dead, .dead, .dead, .dead, .dead, .dead, .dead, .dead, .dead], [(112, .arr true (.int .i64))])
abbrev startcode_codes_L3_x0 : List SD × OSh := ([.dead, .dead, .dead, .sl 112, .dead, .dead, .dead, .dead, .dead, .dead, .dead, .dead, .dead, .dead, .dead, .dead, .dead, .dead, .dead, .dead, .dead, .dead, .dead, .dead, .dead, .dead, .dead, .dead, .dead, .dead, .dead, .dead, .dead, .dead, .dead, .dead, .dead, .dead, .dead, .dead, .dead, .dead, .dead, .dead, .dead, .dead, .dead, .dead], [(112, .arr true (.int .i64))])
noncomputable def startcode_codes_L3 : LoopK C14 startcode_codes_M startcode_codes_L3_LP (getLoop Try.f25 3) where
  sh := startcode_codes_L3_sh
  X := List Int
  go := fun d o x k => k (.exit 0) (mkS startcode_codes_L3_x0 ((), ((), ((), ((), ((), ((), ((), ((), ((), ((), ((), ((), ((), ((), ((), ((), ((), ((), ((), ((), ((), ((), ((), ((), ((), ((), ((), ((), ((), ((), ((), ((), ((), ((), ((), ((), ((), ((), ((), ((), ((), ((), ((), ((), ((), ((), ((), ((), ())))))))))))))))))))))))))))))))))))))))))))))))) (x, ()))
  pre := fun d o => startcode_codes_L3_pre d.1 d.2.2.2.2.1 o.1
  mu := fun d o => startcode_codes_L3_mu d.1 d.2.2.2.2.1 o.1
  S := fun d o => startcode_codes_L3_S d.1 d.2.2.2.2.1 o.1
  T := fun rec ex d o => startcode_codes_L3_T d.1 (fun v0 v1 => rec (d.1, ((), ((), ((), (v0, ((), ((), ((), ((), ((), ((), ((), ((), ((), ((), ((), ((), ((), ((), ((), ((), ((), ((), ((), ((), ((), ((), ((), ((), ((), ((), ((), ((), ((), ((), ((), ((), ((), ((), ((), ((), ((), ((), ((), ((), ((), ((), ((), ())))))))))))))))))))))))))))))))))))))))))))))))) (v1, ())) (fun e0 => ex e0) d.2.2.2.2.1 o.1
  hn := rfl
  hT := fun _ _ _ _ => by kernel_rfl
  hx := fun d o x => ⟨(.exit 0), _, nofun, fun _ _ => rfl⟩
  hS := fun d o hd ho hp R rec ex Good hr hx => startcode_codes_L3_ok d.1 d.2.2.2.2.1 o.1 hd.1 hd.2.2.2.2.1 ho.1 hp (fun v0 v1 => rec (d.1, ((), ((), ((), (v0, ((), ((), ((), ((), ((), ((), ((), ((), ((), ((), ((), ((), ((), ((), ((), ((), ((), ((), ((), ((), ((), ((), ((), ((), ((), ((), ((), ((), ((), ((), ((), ((), ((), ((), ((), ((), ((), ((), ((), ((), ((), ((), ((), ())))))))))))))))))))))))))))))))))))))))))))))))) (v1, ())) (fun e0 => ex e0) Good
    (fun v0 v1 h1 h2 h3 => hr (d.1, ((), ((), ((), (v0, ((), ((), ((), ((), ((), ((), ((), ((), ((), ((), ((), ((), ((), ((), ((), ((), ((), ((), ((), ((), ((), ((), ((), ((), ((), ((), ((), ((), ((), ((), ((), ((), ((), ((), ((), ((), ((), ((), ((), ((), ((), ((), ((), ())))))))))))))))))))))))))))))))))))))))))))))))) (v1, ()) (fun _ _ _ => by kernel_rfl) (cast (by kernel_rfl) h1) (cast (by kernel_rfl) h2) (cast (by kernel_rfl) h3))
    (fun e0 he => (show Good (ex e0) from he ▸ hx))
theorem startcode_codes_L3_snd (h : CtxOK Try.prog C14) : LoopS Try.prog (getLoop Try.f25 3) startcode_codes_L3.G := startcode_codes_L3.sound h (startcode_codes_L3_lok h)
noncomputable def startcode_codes_LP : Loops := (addL noLoops 3 startcode_codes_L3.G)
theorem startcode_codes_lok (h : CtxOK Try.prog C14) : LOK Try.prog startcode_codes_LP (Try.f25.body.getD .skip) := LOK_list (l := [(false, getLoop Try.f25 3, startcode_codes_L3.G)]) (by kernel_rfl) ⟨startcode_codes_L3_snd h, trivial⟩
noncomputable def startcode_codes : FnK C14 startcode_codes_M startcode_codes_LP [none] Try.f25 where
  sh := [.v false (.sl (.int .u8))]
  osh := []
  rsh := [.sl 0]
  rosh := [(0, .arr true (.int .i64))]
  pre := fun d o => startcode_codes_pre d.1
  S := fun d o => (((), ()), ((startcode_codes_S d.1), ()))
  F := fun k d o => startcode_codes_F (fun v0 => k ((), ()) (v0, ())) d.1
  hn := rfl
  hF := fun _ _ _ _ => by kernel_rfl
  hS := fun d o hd ho hp R k => startcode_codes_ok d.1 hd.1 hp (fun v0 => k ((), ()) (v0, ())) (fun z => z = k ((), ()) ((startcode_codes_S d.1), ())) rfl
theorem startcode_codes_snd (h : CtxOK Try.prog C14) : Sound Try.prog 25 startcode_codes.G := startcode_codes.sound h rfl (body_LOK (startcode_codes_lok h))
noncomputable def C15 : Ctx := addF C14 25 startcode_codes.G
theorem C15_ok : CtxOK Try.prog C15 := C14_ok.add (startcode_codes_snd C14_ok) Try.f25 rfl (by kernel_rfl) rfl

def startcode_trimmed_mt : List (Nat × Nat × List Nat) := [(1, 1, []), (2, 9, []), (3, 9, []), (4, 8, []), (999999, 4, []), (1000000, 8, [])]
def startcode_trimmed_M : Masks := maskOf startcode_trimmed_mt
noncomputable def startcode_trimmed_L2_LP : Loops := noLoops
theorem startcode_trimmed_L2_lok (_h : CtxOK Try.prog C15) : LOK Try.prog startcode_trimmed_L2_LP (getLoop Try.f26 2) := LOK_list (l := []) (by kernel_rfl) trivial
abbrev startcode_trimmed_L2_sh : List SD × OSh := ([.v false (.sl (.int .u8)), .dead, .dead, .v true (.int .i64), .dead, .dead, .dead, .dead, .dead, .dead, .dead, .dead, .dead, .dead, .dead, .dead, .dead, .dead, .dead], [])
abbrev startcode_trimmed_L2_x0 : List SD × OSh := ([.dead, .dead, .dead, .v true (.int .i64), .dead, .dead, .dead, .dead, .dead, .dead, .dead, .dead, .dead, .dead, .dead, .dead, .dead, .dead, .dead], [])
noncomputable def startcode_trimmed_L2 : LoopK C15 startcode_trimmed_M startcode_trimmed_L2_LP (getLoop Try.f26 2) where
  sh := startcode_trimmed_L2_sh
  X := Int
  go := fun d o x k => k (.exit 0) (mkS startcode_trimmed_L2_x0 ((), ((), ((), (x, ((), ((), ((), ((), ((), ((), ((), ((), ((), ((), ((), ((), ((), ((), ((), ()))))))))))))))))))) ())
  pre := fun d o => startcode_trimmed_L2_pre d.1 d.2.2.2.1
  mu := fun d o => startcode_trimmed_L2_mu d.1 d.2.2.2.1
  S := fun d o => startcode_trimmed_L2_S d.1 d.2.2.2.1
  T := fun rec ex d o => startcode_trimmed_L2_T d.1 (fun v0 => rec (d.1, ((), ((), (v0, ((), ((), ((), ((), ((), ((), ((), ((), ((), ((), ((), ((), ((), ((), ((), ()))))))))))))))))))) ()) (fun e0 => ex e0) d.2.2.2.1
  hn := rfl
  hT := fun _ _ _ _ => by kernel_rfl
  hx := fun d o x => ⟨(.exit 0), _, nofun, fun _ _ => rfl⟩
  hS := fun d o hd ho hp R rec ex Good hr hx => startcode_trimmed_L2_ok d.1 d.2.2.2.1 hd.1 hd.2.2.2.1 hp (fun v0 => rec (d.1, ((), ((), (v0, ((), ((), ((), ((), ((), ((), ((), ((), ((), ((), ((), ((), ((), ((), ((), ()))))))))))))))))))) ()) (fun e0 => ex e0) Good
    (fun v0 h1 h2 h3 => hr (d.1, ((), ((), (v0, ((), ((), ((), ((), ((), ((), ((), ((), ((), ((), ((), ((), ((), ((), ((), ()))))))))))))))))))) () (fun _ _ _ => by kernel_rfl) (cast (by kernel_rfl) h1) (cast (by kernel_rfl) h2) (cast (by kernel_rfl) h3))
    (fun e0 he => (show Good (ex e0) from he ▸ hx))
theorem startcode_trimmed_L2_snd (h : CtxOK Try.prog C15) : LoopS Try.prog (getLoop Try.f26 2) startcode_trimmed_L2.G := startcode_trimmed_L2.sound h (startcode_trimmed_L2_lok h)
noncomputable def startcode_trimmed_LP : Loops := (addL noLoops 2 startcode_trimmed_L2.G)
theorem startcode_trimmed_lok (h : CtxOK Try.prog C15) : LOK Try.prog startcode_trimmed_LP (Try.f26.body.getD .skip) := LOK_list (l := [(false, getLoop Try.f26 2, startcode_trimmed_L2.G)]) (by kernel_rfl) ⟨startcode_trimmed_L2_snd h, trivial⟩
noncomputable def startcode_trimmed : FnK C15 startcode_trimmed_M startcode_trimmed_LP [none] Try.f26 where
  sh := [.v false (.sl (.int .u8))]
  osh := []
  rsh := [.v true (.int .i64)]
  rosh := []
  pre := fun d o => startcode_trimmed_pre d.1
  S := fun d o => (((startcode_trimmed_S d.1), ()), ())
  F := fun k d o => startcode_trimmed_F (fun v0 => k (v0, ()) ()) d.1
  hn := rfl
  hF := fun _ _ _ _ => by kernel_rfl
  hS := fun d o hd ho hp R k => startcode_trimmed_ok d.1 hd.1 hp (fun v0 => k (v0, ()) ()) (fun z => z = k ((startcode_trimmed_S d.1), ()) ()) rfl
theorem startcode_trimmed_snd (h : CtxOK Try.prog C15) : Sound Try.prog 26 startcode_trimmed.G := startcode_trimmed.sound h rfl (body_LOK (startcode_trimmed_lok h))
noncomputable def C16 : Ctx := addF C15 26 startcode_trimmed.G
theorem C16_ok : CtxOK Try.prog C16 := C15_ok.add (startcode_trimmed_snd C15_ok) Try.f26 rfl (by kernel_rfl) rfl

def startcode_Split_mt : List (Nat × Nat × List Nat) := [(1, 1, []), (2, 17, [128]), (3, 49, [128, 144]), (4, 113, [128, 144, 304]), (6, 113, [128, 144, 304]), (7, 15393162788977, [128, 144, 304]), (8, 15393162788977, [128, 144, 304]), (9, 15393162789361, [128, 144, 304]), (10, 15393162789745, [128, 144, 304]), (11, 15393162790769, [128, 144, 304]), (12, 15393162792817, [128, 144, 304]), (13, 15393162804081, [128, 144, 304, 1168]), (15, 15393162795889, [128, 144, 304, 1168]), (16, 15393162788977, [128, 144, 304]), (17, 48, [128, 144]), (999999, 12, [128, 144]), (1000000, 48, [128, 144]), (1000001, 15393162788977, [128, 144, 304])]
def startcode_Split_M : Masks := maskOf startcode_Split_mt
noncomputable def startcode_Split_L7_LP : Loops := noLoops
theorem startcode_Split_L7_lok (_h : CtxOK Try.prog C16) : LOK Try.prog startcode_Split_L7_LP (getLoop Try.f20 7) := LOK_list (l := []) (by kernel_rfl) trivial
abbrev startcode_Split_L7_sh : List SD × OSh := ([.v false (.sl (.int .u8)), .dead, .dead, .dead, .sl 128, .sl 144, .sl 304, .dead, .dead, .dead, .dead, .dead, .dead, .dead, .dead, .dead, .dead, .dead, .dead, .dead, .dead, .dead, .dead, .dead, .dead, .dead, .dead, .dead, .dead, .dead, .dead, .dead, .dead, .dead, .dead, .dead, .dead, .dead, .dead, .dead, .dead, .sub 304, .v true (.int .i64), .v true (.int .i64), .dead, .dead, .dead, .dead, .dead, .dead, .dead, .dead, .dead, .dead, .dead, .dead, .dead, .dead, .dead, .dead, .dead, .dead, .dead, .dead, .dead, .dead, .dead, .dead, .dead, .dead, .dead, .dead, .dead, .dead, .dead, .dead, .dead, .dead, .dead, .dead, .dead, .dead, .dead, .dead, .dead, .dead, .dead, .dead, .dead, .dead, .dead, .dead, .dead, .dead, .dead, .dead, .dead, .dead], [(128, .arr true T_startcode_Found), (144, .arr true T_startcode_Defect), (304, .arr true (.int .i64))])
abbrev startcode_Split_L7_x0 : List SD × OSh := ([.dead, .dead, .dead, .dead, .sl 128, .sl 144, .dead, .dead, .dead, .dead, .dead, .dead, .dead, .dead, .dead, .dead, .dead, .dead, .dead, .dead, .dead, .dead, .dead, .dead, .dead, .dead, .dead, .dead, .dead, .dead, .dead, .dead, .dead, .dead, .dead, .dead, .dead, .dead, .dead, .dead, .dead, .dead, .dead, .dead, .dead, .dead, .dead, .dead, .dead, .dead, .dead, .dead, .dead, .dead, .dead, .dead, .dead, .dead, .dead, .dead, .dead, .dead, .dead, .dead, .dead, .dead, .dead, .dead, .dead, .dead, .dead, .dead, .dead, .dead, .dead, .dead, .dead, .dead, .dead, .dead, .dead, .dead, .dead, .dead, .dead, .dead, .dead, .dead, .dead, .dead, .dead, .dead, .dead, .dead, .dead, .dead, .dead, .dead], [(128, .arr true T_startcode_Found), (144, .arr true T_startcode_Defect)])
noncomputable def startcode_Split_L7 : LoopK C16 startcode_Split_M startcode_Split_L7_LP (getLoop Try.f20 7) where
  sh := startcode_Split_L7_sh
  X := List D_startcode_Found × List D_startcode_Defect
  go := fun d o x k => k (.exit 0) (mkS startcode_Split_L7_x0 ((), ((), ((), ((), ((), ((), ((), ((), ((), ((), ((), ((), ((), ((), ((), ((), ((), ((), ((), ((), ((), ((), ((), ((), ((), ((), ((), ((), ((), ((), ((), ((), ((), ((), ((), ((), ((), ((), ((), ((), ((), ((), ((), ((), ((), ((), ((), ((), ((), ((), ((), ((), ((), ((), ((), ((), ((), ((), ((), ((), ((), ((), ((), ((), ((), ((), ((), ((), ((), ((), ((), ((), ((), ((), ((), ((), ((), ((), ((), ((), ((), ((), ((), ((), ((), ((), ((), ((), ((), ((), ((), ((), ((), ((), ((), ((), ((), ((), ())))))))))))))))))))))))))))))))))))))))))))))))))))))))))))))))))))))))))))))))))))))))))))))))))) (x.1, (x.2, ())))
  pre := fun d o => startcode_Split_L7_pre d.1 d.2.2.2.2.2.2.2.2.2.2.2.2.2.2.2.2.2.2.2.2.2.2.2.2.2.2.2.2.2.2.2.2.2.2.2.2.2.2.2.2.2.1.1 d.2.2.2.2.2.2.2.2.2.2.2.2.2.2.2.2.2.2.2.2.2.2.2.2.2.2.2.2.2.2.2.2.2.2.2.2.2.2.2.2.2.1.2 d.2.2.2.2.2.2.2.2.2.2.2.2.2.2.2.2.2.2.2.2.2.2.2.2.2.2.2.2.2.2.2.2.2.2.2.2.2.2.2.2.2.2.1 o.2.2.1 d.2.2.2.2.2.2.2.2.2.2.2.2.2.2.2.2.2.2.2.2.2.2.2.2.2.2.2.2.2.2.2.2.2.2.2.2.2.2.2.2.2.2.2.1 o.1 o.2.1
  mu := fun d o => startcode_Split_L7_mu d.1 d.2.2.2.2.2.2.2.2.2.2.2.2.2.2.2.2.2.2.2.2.2.2.2.2.2.2.2.2.2.2.2.2.2.2.2.2.2.2.2.2.2.1.1 d.2.2.2.2.2.2.2.2.2.2.2.2.2.2.2.2.2.2.2.2.2.2.2.2.2.2.2.2.2.2.2.2.2.2.2.2.2.2.2.2.2.1.2 d.2.2.2.2.2.2.2.2.2.2.2.2.2.2.2.2.2.2.2.2.2.2.2.2.2.2.2.2.2.2.2.2.2.2.2.2.2.2.2.2.2.2.1 o.2.2.1 d.2.2.2.2.2.2.2.2.2.2.2.2.2.2.2.2.2.2.2.2.2.2.2.2.2.2.2.2.2.2.2.2.2.2.2.2.2.2.2.2.2.2.2.1 o.1 o.2.1
  S := fun d o => startcode_Split_L7_S d.1 d.2.2.2.2.2.2.2.2.2.2.2.2.2.2.2.2.2.2.2.2.2.2.2.2.2.2.2.2.2.2.2.2.2.2.2.2.2.2.2.2.2.1.1 d.2.2.2.2.2.2.2.2.2.2.2.2.2.2.2.2.2.2.2.2.2.2.2.2.2.2.2.2.2.2.2.2.2.2.2.2.2.2.2.2.2.1.2 d.2.2.2.2.2.2.2.2.2.2.2.2.2.2.2.2.2.2.2.2.2.2.2.2.2.2.2.2.2.2.2.2.2.2.2.2.2.2.2.2.2.2.1 o.2.2.1 d.2.2.2.2.2.2.2.2.2.2.2.2.2.2.2.2.2.2.2.2.2.2.2.2.2.2.2.2.2.2.2.2.2.2.2.2.2.2.2.2.2.2.2.1 o.1 o.2.1
  T := fun rec ex d o => startcode_Split_L7_T d.1 d.2.2.2.2.2.2.2.2.2.2.2.2.2.2.2.2.2.2.2.2.2.2.2.2.2.2.2.2.2.2.2.2.2.2.2.2.2.2.2.2.2.1.1 d.2.2.2.2.2.2.2.2.2.2.2.2.2.2.2.2.2.2.2.2.2.2.2.2.2.2.2.2.2.2.2.2.2.2.2.2.2.2.2.2.2.1.2 d.2.2.2.2.2.2.2.2.2.2.2.2.2.2.2.2.2.2.2.2.2.2.2.2.2.2.2.2.2.2.2.2.2.2.2.2.2.2.2.2.2.2.1 o.2.2.1 (fun v0 v1 v2 => rec (d.1, ((), ((), ((), ((), ((), ((), ((), ((), ((), ((), ((), ((), ((), ((), ((), ((), ((), ((), ((), ((), ((), ((), ((), ((), ((), ((), ((), ((), ((), ((), ((), ((), ((), ((), ((), ((), ((), ((), ((), ((), ((d.2.2.2.2.2.2.2.2.2.2.2.2.2.2.2.2.2.2.2.2.2.2.2.2.2.2.2.2.2.2.2.2.2.2.2.2.2.2.2.2.2.1.1, d.2.2.2.2.2.2.2.2.2.2.2.2.2.2.2.2.2.2.2.2.2.2.2.2.2.2.2.2.2.2.2.2.2.2.2.2.2.2.2.2.2.1.2), (d.2.2.2.2.2.2.2.2.2.2.2.2.2.2.2.2.2.2.2.2.2.2.2.2.2.2.2.2.2.2.2.2.2.2.2.2.2.2.2.2.2.2.1, (v0, ((), ((), ((), ((), ((), ((), ((), ((), ((), ((), ((), ((), ((), ((), ((), ((), ((), ((), ((), ((), ((), ((), ((), ((), ((), ((), ((), ((), ((), ((), ((), ((), ((), ((), ((), ((), ((), ((), ((), ((), ((), ((), ((), ((), ((), ((), ((), ((), ((), ((), ((), ((), ((), ((), ())))))))))))))))))))))))))))))))))))))))))))))))))))))))))))))))))))))))))))))))))))))))))))))))))) (v1, (v2, (o.2.2.1, ())))) (fun e0 e1 => ex (e0, e1)) d.2.2.2.2.2.2.2.2.2.2.2.2.2.2.2.2.2.2.2.2.2.2.2.2.2.2.2.2.2.2.2.2.2.2.2.2.2.2.2.2.2.2.2.1 o.1 o.2.1
  hn := rfl
  hT := fun _ _ _ _ => by kernel_rfl
  hx := fun d o x => ⟨(.exit 0), _, nofun, fun _ _ => rfl⟩
  hS := fun d o hd ho hp R rec ex Good hr hx => startcode_Split_L7_ok d.1 d.2.2.2.2.2.2.2.2.2.2.2.2.2.2.2.2.2.2.2.2.2.2.2.2.2.2.2.2.2.2.2.2.2.2.2.2.2.2.2.2.2.1.1 d.2.2.2.2.2.2.2.2.2.2.2.2.2.2.2.2.2.2.2.2.2.2.2.2.2.2.2.2.2.2.2.2.2.2.2.2.2.2.2.2.2.1.2 d.2.2.2.2.2.2.2.2.2.2.2.2.2.2.2.2.2.2.2.2.2.2.2.2.2.2.2.2.2.2.2.2.2.2.2.2.2.2.2.2.2.2.1 o.2.2.1 d.2.2.2.2.2.2.2.2.2.2.2.2.2.2.2.2.2.2.2.2.2.2.2.2.2.2.2.2.2.2.2.2.2.2.2.2.2.2.2.2.2.2.2.1 o.1 o.2.1 hd.1 hd.2.2.2.2.2.2.2.2.2.2.2.2.2.2.2.2.2.2.2.2.2.2.2.2.2.2.2.2.2.2.2.2.2.2.2.2.2.2.2.2.2.2.1 hd.2.2.2.2.2.2.2.2.2.2.2.2.2.2.2.2.2.2.2.2.2.2.2.2.2.2.2.2.2.2.2.2.2.2.2.2.2.2.2.2.2.2.2.1 ho.1 ho.2.1 ho.2.2.1 hp (fun v0 v1 v2 => rec (d.1, ((), ((), ((), ((), ((), ((), ((), ((), ((), ((), ((), ((), ((), ((), ((), ((), ((), ((), ((), ((), ((), ((), ((), ((), ((), ((), ((), ((), ((), ((), ((), ((), ((), ((), ((), ((), ((), ((), ((), ((), ((d.2.2.2.2.2.2.2.2.2.2.2.2.2.2.2.2.2.2.2.2.2.2.2.2.2.2.2.2.2.2.2.2.2.2.2.2.2.2.2.2.2.1.1, d.2.2.2.2.2.2.2.2.2.2.2.2.2.2.2.2.2.2.2.2.2.2.2.2.2.2.2.2.2.2.2.2.2.2.2.2.2.2.2.2.2.1.2), (d.2.2.2.2.2.2.2.2.2.2.2.2.2.2.2.2.2.2.2.2.2.2.2.2.2.2.2.2.2.2.2.2.2.2.2.2.2.2.2.2.2.2.1, (v0, ((), ((), ((), ((), ((), ((), ((), ((), ((), ((), ((), ((), ((), ((), ((), ((), ((), ((), ((), ((), ((), ((), ((), ((), ((), ((), ((), ((), ((), ((), ((), ((), ((), ((), ((), ((), ((), ((), ((), ((), ((), ((), ((), ((), ((), ((), ((), ((), ((), ((), ((), ((), ((), ((), ())))))))))))))))))))))))))))))))))))))))))))))))))))))))))))))))))))))))))))))))))))))))))))))))))) (v1, (v2, (o.2.2.1, ())))) (fun e0 e1 => ex (e0, e1)) Good
    (fun v0 v1 v2 h1 h2 h3 => hr (d.1, ((), ((), ((), ((), ((), ((), ((), ((), ((), ((), ((), ((), ((), ((), ((), ((), ((), ((), ((), ((), ((), ((), ((), ((), ((), ((), ((), ((), ((), ((), ((), ((), ((), ((), ((), ((), ((), ((), ((), ((), ((d.2.2.2.2.2.2.2.2.2.2.2.2.2.2.2.2.2.2.2.2.2.2.2.2.2.2.2.2.2.2.2.2.2.2.2.2.2.2.2.2.2.1.1, d.2.2.2.2.2.2.2.2.2.2.2.2.2.2.2.2.2.2.2.2.2.2.2.2.2.2.2.2.2.2.2.2.2.2.2.2.2.2.2.2.2.1.2), (d.2.2.2.2.2.2.2.2.2.2.2.2.2.2.2.2.2.2.2.2.2.2.2.2.2.2.2.2.2.2.2.2.2.2.2.2.2.2.2.2.2.2.1, (v0, ((), ((), ((), ((), ((), ((), ((), ((), ((), ((), ((), ((), ((), ((), ((), ((), ((), ((), ((), ((), ((), ((), ((), ((), ((), ((), ((), ((), ((), ((), ((), ((), ((), ((), ((), ((), ((), ((), ((), ((), ((), ((), ((), ((), ((), ((), ((), ((), ((), ((), ((), ((), ((), ((), ())))))))))))))))))))))))))))))))))))))))))))))))))))))))))))))))))))))))))))))))))))))))))))))))))) (v1, (v2, (o.2.2.1, ()))) (fun _ _ _ => by kernel_rfl) (cast (by kernel_rfl) h1) (cast (by kernel_rfl) h2) (cast (by kernel_rfl) h3))
    (fun e0 e1 he => (show Good (ex (e0, e1)) from he ▸ hx))
theorem startcode_Split_L7_snd (h : CtxOK Try.prog C16) : LoopS Try.prog (getLoop Try.f20 7) startcode_Split_L7.G := startcode_Split_L7.sound h (startcode_Split_L7_lok h)
noncomputable def startcode_Split_J6_LP : Loops := (addL noLoops 7 startcode_Split_L7.G)
theorem startcode_Split_J6_lok (h : CtxOK Try.prog C16) : LOK Try.prog startcode_Split_J6_LP (getJoin Try.f20 6) := LOK_list (l := [(false, getLoop Try.f20 7, startcode_Split_L7.G)]) (by kernel_rfl) ⟨startcode_Split_L7_snd h, trivial⟩
abbrev startcode_Split_J6_sh : List SD × OSh := ([.v false (.sl (.int .u8)), .dead, .dead, .dead, .sl 128, .sl 144, .sl 304, .dead, .dead, .dead, .dead, .dead, .dead, .dead, .dead, .dead, .dead, .dead, .dead, .dead, .dead, .dead, .dead, .dead, .dead, .dead, .dead, .dead, .dead, .dead, .dead, .dead, .dead, .dead, .dead, .dead, .dead, .dead, .dead, .dead, .dead, .dead, .dead, .dead, .dead, .dead, .dead, .dead, .dead, .dead, .dead, .dead, .dead, .dead, .dead, .dead, .dead, .dead, .dead, .dead, .dead, .dead, .dead, .dead, .dead, .dead, .dead, .dead, .dead, .dead, .dead, .dead, .dead, .dead, .dead, .dead, .dead, .dead, .dead, .dead, .dead, .dead, .dead, .dead, .dead, .dead, .dead, .dead, .dead, .dead, .dead, .dead, .dead, .dead, .dead, .dead, .dead, .dead], [(128, .arr true T_startcode_Found), (144, .arr true T_startcode_Defect), (304, .arr true (.int .i64))])
abbrev startcode_Split_J6_x0 : List SD × OSh := ([.dead, .dead, .sl 128, .sl 144, .dead, .dead, .dead, .dead, .dead, .dead, .dead, .dead, .dead, .dead, .dead, .dead, .dead, .dead, .dead, .dead, .dead, .dead, .dead, .dead, .dead, .dead, .dead, .dead, .dead, .dead, .dead, .dead, .dead, .dead, .dead, .dead, .dead, .dead, .dead, .dead, .dead, .dead, .dead, .dead, .dead, .dead, .dead, .dead, .dead, .dead, .dead, .dead, .dead, .dead, .dead, .dead, .dead, .dead, .dead, .dead, .dead, .dead, .dead, .dead, .dead, .dead, .dead, .dead, .dead, .dead, .dead, .dead, .dead, .dead, .dead, .dead, .dead, .dead, .dead, .dead, .dead, .dead, .dead, .dead, .dead, .dead, .dead, .dead, .dead, .dead, .dead, .dead, .dead, .dead, .dead, .dead, .dead, .dead], [(128, .arr true T_startcode_Found), (144, .arr true T_startcode_Defect)])
noncomputable def startcode_Split_J6 : JoinK C16 startcode_Split_M startcode_Split_J6_LP (getJoin Try.f20 6) where
  sh := startcode_Split_J6_sh
  X := List D_startcode_Found × List D_startcode_Defect
  go := fun d o x k => k .ret (mkS startcode_Split_J6_x0 ((), ((), ((), ((), ((), ((), ((), ((), ((), ((), ((), ((), ((), ((), ((), ((), ((), ((), ((), ((), ((), ((), ((), ((), ((), ((), ((), ((), ((), ((), ((), ((), ((), ((), ((), ((), ((), ((), ((), ((), ((), ((), ((), ((), ((), ((), ((), ((), ((), ((), ((), ((), ((), ((), ((), ((), ((), ((), ((), ((), ((), ((), ((), ((), ((), ((), ((), ((), ((), ((), ((), ((), ((), ((), ((), ((), ((), ((), ((), ((), ((), ((), ((), ((), ((), ((), ((), ((), ((), ((), ((), ((), ((), ((), ((), ((), ((), ((), ())))))))))))))))))))))))))))))))))))))))))))))))))))))))))))))))))))))))))))))))))))))))))))))))))) (x.1, (x.2, ())))
  T := fun ex d o => startcode_Split_J6_T (fun e0 e1 => ex (e0, e1)) d.1 o.1 o.2.1 o.2.2.1
  hT := fun _ _ _ _ => by kernel_rfl
theorem startcode_Split_J6_snd (h : CtxOK Try.prog C16) : CodeS Try.prog (getJoin Try.f20 6) startcode_Split_J6.G := startcode_Split_J6.sound h (startcode_Split_J6_lok h)
noncomputable def startcode_Split_LP : Loops := (addL (addL noLoops 7 startcode_Split_L7.G) 1048582 startcode_Split_J6.G)
theorem startcode_Split_lok (h : CtxOK Try.prog C16) : LOK Try.prog startcode_Split_LP (Try.f20.body.getD .skip) := LOK_list (l := [(true, getJoin Try.f20 6, startcode_Split_J6.G)]) (by kernel_rfl) ⟨startcode_Split_J6_snd h, trivial⟩
noncomputable def startcode_Split : FnK C16 startcode_Split_M startcode_Split_LP [none, none] Try.f20 where
  sh := [.v false (.sl (.int .u8))]
  osh := []
  rsh := [.sl 0, .sl 1]
  rosh := [(0, .arr true T_startcode_Found), (1, .arr true T_startcode_Defect)]
  pre := fun d o => startcode_Split_pre d.1
  S := fun d o => (((), ((), ())), ((startcode_Split_S d.1).1, ((startcode_Split_S d.1).2, ())))
  F := fun k d o => startcode_Split_F (fun v0 v1 => k ((), ((), ())) (v0, (v1, ()))) d.1
  hn := rfl
  hF := fun _ _ _ _ => by kernel_rfl
  hS := fun d o hd ho hp R k => startcode_Split_ok d.1 hd.1 hp (fun v0 v1 => k ((), ((), ())) (v0, (v1, ()))) (fun z => z = k ((), ((), ())) ((startcode_Split_S d.1).1, ((startcode_Split_S d.1).2, ()))) rfl
theorem startcode_Split_snd (h : CtxOK Try.prog C16) : Sound Try.prog 20 startcode_Split.G := startcode_Split.sound h rfl (body_LOK (startcode_Split_lok h))
noncomputable def C17 : Ctx := addF C16 20 startcode_Split.G
theorem C17_ok : CtxOK Try.prog C17 := C16_ok.add (startcode_Split_snd C16_ok) Try.f20 rfl (by kernel_rfl) rfl

def cutroomref03_next_mt : List (Nat × Nat × List Nat) := [(1, 3, []), (2, 3, []), (3, 3, []), (5, 1, []), (999999, 16, []), (1000000, 1, [])]
def cutroomref03_next_M : Masks := maskOf cutroomref03_next_mt
noncomputable def cutroomref03_next_L1_LP : Loops := noLoops
theorem cutroomref03_next_L1_lok (_h : CtxOK Try.prog C17) : LOK Try.prog cutroomref03_next_L1_LP (getLoop Try.f27 1) := LOK_list (l := []) (by kernel_rfl) trivial
abbrev cutroomref03_next_L1_sh : List SD × OSh := ([.v false (.sl (.int .u8)), .v true (.int .i64), .dead, .dead, .dead, .dead, .dead, .dead, .dead, .dead, .dead, .dead, .dead, .dead, .dead, .dead, .dead, .dead, .dead, .dead, .dead, .dead, .dead, .dead, .dead, .dead, .dead, .dead, .dead, .dead, .dead, .dead, .dead, .dead, .dead, .dead, .dead, .dead, .dead, .dead, .dead, .dead, .dead, .dead], [])
abbrev cutroomref03_next_L1_x0 : List SD × OSh := ([.dead, .dead, .dead, .dead, .v true (.int .i64), .dead, .dead, .dead, .dead, .dead, .dead, .dead, .dead, .dead, .dead, .dead, .dead, .dead, .dead, .dead, .dead, .dead, .dead, .dead, .dead, .dead, .dead, .dead, .dead, .dead, .dead, .dead, .dead, .dead, .dead, .dead, .dead, .dead, .dead, .dead, .dead, .dead, .dead, .dead], [])
abbrev cutroomref03_next_L1_x1 : List SD × OSh := ([.v false (.sl (.int .u8)), .dead, .dead, .dead, .dead, .dead, .dead, .dead, .dead, .dead, .dead, .dead, .dead, .dead, .dead, .dead, .dead, .dead, .dead, .dead, .dead, .dead, .dead, .dead, .dead, .dead, .dead, .dead, .dead, .dead, .dead, .dead, .dead, .dead, .dead, .dead, .dead, .dead, .dead, .dead, .dead, .dead, .dead, .dead], [])
noncomputable def cutroomref03_next_L1 : LoopK C17 cutroomref03_next_M cutroomref03_next_L1_LP (getLoop Try.f27 1) where
  sh := cutroomref03_next_L1_sh
  X := (Int) ⊕ (Unit)
  go := fun d o x k => caseS x (fun a0 => k .ret (mkS cutroomref03_next_L1_x0 ((), ((), ((), ((), (a0, ((), ((), ((), ((), ((), ((), ((), ((), ((), ((), ((), ((), ((), ((), ((), ((), ((), ((), ((), ((), ((), ((), ((), ((), ((), ((), ((), ((), ((), ((), ((), ((), ((), ((), ((), ((), ((), ((), ((), ())))))))))))))))))))))))))))))))))))))))))))) ())) (fun b0 => k (.exit 0) (mkS cutroomref03_next_L1_x1 (d.1, ((), ((), ((), ((), ((), ((), ((), ((), ((), ((), ((), ((), ((), ((), ((), ((), ((), ((), ((), ((), ((), ((), ((), ((), ((), ((), ((), ((), ((), ((), ((), ((), ((), ((), ((), ((), ((), ((), ((), ((), ((), ((), ((), ())))))))))))))))))))))))))))))))))))))))))))) ()))
  pre := fun d o => cutroomref03_next_L1_pre d.1 d.2.1
  mu := fun d o => cutroomref03_next_L1_mu d.1 d.2.1
  S := fun d o => cutroomref03_next_L1_S d.1 d.2.1
  T := fun rec ex d o => cutroomref03_next_L1_T d.1 (fun v0 => rec (d.1, (v0, ((), ((), ((), ((), ((), ((), ((), ((), ((), ((), ((), ((), ((), ((), ((), ((), ((), ((), ((), ((), ((), ((), ((), ((), ((), ((), ((), ((), ((), ((), ((), ((), ((), ((), ((), ((), ((), ((), ((), ((), ((), ((), ())))))))))))))))))))))))))))))))))))))))))))) ()) (fun e0 => ex (.inl e0)) (fun _ => ex (.inr ())) d.2.1
  hn := rfl
  hT := fun _ _ _ _ => by kernel_rfl
  hx := fun d o x => match x with | .inl z => ⟨.ret, _, nofun, fun _ _ => rfl⟩ | .inr z => ⟨(.exit 0), _, nofun, fun _ _ => rfl⟩
  hS := fun d o hd ho hp R rec ex Good hr hx => cutroomref03_next_L1_ok d.1 d.2.1 hd.1 hd.2.1 hp (fun v0 => rec (d.1, (v0, ((), ((), ((), ((), ((), ((), ((), ((), ((), ((), ((), ((), ((), ((), ((), ((), ((), ((), ((), ((), ((), ((), ((), ((), ((), ((), ((), ((), ((), ((), ((), ((), ((), ((), ((), ((), ((), ((), ((), ((), ((), ((), ())))))))))))))))))))))))))))))))))))))))))))) ()) (fun e0 => ex (.inl e0)) (fun _ => ex (.inr ())) Good
    (fun v0 h1 h2 h3 => hr (d.1, (v0, ((), ((), ((), ((), ((), ((), ((), ((), ((), ((), ((), ((), ((), ((), ((), ((), ((), ((), ((), ((), ((), ((), ((), ((), ((), ((), ((), ((), ((), ((), ((), ((), ((), ((), ((), ((), ((), ((), ((), ((), ((), ((), ())))))))))))))))))))))))))))))))))))))))))))) () (fun _ _ _ => by kernel_rfl) (cast (by kernel_rfl) h1) (cast (by kernel_rfl) h2) (cast (by kernel_rfl) h3))
    (fun e0 he => (show Good (ex (.inl e0)) from he ▸ hx))
    (fun he => (show Good (ex (.inr ())) from he ▸ hx))
theorem cutroomref03_next_L1_snd (h : CtxOK Try.prog C17) : LoopS Try.prog (getLoop Try.f27 1) cutroomref03_next_L1.G := cutroomref03_next_L1.sound h (cutroomref03_next_L1_lok h)
noncomputable def cutroomref03_next_LP : Loops := (addL noLoops 1 cutroomref03_next_L1.G)
theorem cutroomref03_next_lok (h : CtxOK Try.prog C17) : LOK Try.prog cutroomref03_next_LP (Try.f27.body.getD .skip) := LOK_list (l := [(false, getLoop Try.f27 1, cutroomref03_next_L1.G)]) (by kernel_rfl) ⟨cutroomref03_next_L1_snd h, trivial⟩
noncomputable def cutroomref03_next : FnK C17 cutroomref03_next_M cutroomref03_next_LP [none] Try.f27 where
  sh := [.v false (.sl (.int .u8)), .v true (.int .i64)]
  osh := []
  rsh := [.v true (.int .i64)]
  rosh := []
  pre := fun d o => cutroomref03_next_pre d.1 d.2.1
  S := fun d o => (((cutroomref03_next_S d.1 d.2.1), ()), ())
  F := fun k d o => cutroomref03_next_F (fun v0 => k (v0, ()) ()) d.1 d.2.1
  hn := rfl
  hF := fun _ _ _ _ => by kernel_rfl
  hS := fun d o hd ho hp R k => cutroomref03_next_ok d.1 d.2.1 hd.1 hd.2.1 hp (fun v0 => k (v0, ()) ()) (fun z => z = k ((cutroomref03_next_S d.1 d.2.1), ()) ()) rfl
theorem cutroomref03_next_snd (h : CtxOK Try.prog C17) : Sound Try.prog 27 cutroomref03_next.G := cutroomref03_next.sound h rfl (body_LOK (cutroomref03_next_lok h))
noncomputable def C18 : Ctx := addF C17 27 cutroomref03_next.G
theorem C18_ok : CtxOK Try.prog C18 := C17_ok.add (cutroomref03_next_snd C17_ok) Try.f27 rfl (by kernel_rfl) rfl

def cutroomref03_clean_mt : List (Nat × Nat × List Nat) := [(1, 1, []), (2, 9, []), (3, 9, []), (4, 9, []), (6, 0, []), (999999, 4, []), (1000000, 0, [])]
def cutroomref03_clean_M : Masks := maskOf cutroomref03_clean_mt
noncomputable def cutroomref03_clean_L2_LP : Loops := noLoops
theorem cutroomref03_clean_L2_lok (_h : CtxOK Try.prog C18) : LOK Try.prog cutroomref03_clean_L2_LP (getLoop Try.f28 2) := LOK_list (l := []) (by kernel_rfl) trivial
abbrev cutroomref03_clean_L2_sh : List SD × OSh := ([.v false (.sl (.int .u8)), .dead, .dead, .v true (.int .i64), .dead, .dead, .dead, .dead, .dead, .dead, .dead, .dead, .dead, .dead, .dead], [])
abbrev cutroomref03_clean_L2_x0 : List SD × OSh := ([.dead, .dead, .v true .bool, .dead, .dead, .dead, .dead, .dead, .dead, .dead, .dead, .dead, .dead, .dead, .dead], [])
abbrev cutroomref03_clean_L2_x1 : List SD × OSh := ([.dead, .dead, .dead, .dead, .dead, .dead, .dead, .dead, .dead, .dead, .dead, .dead, .dead, .dead, .dead], [])
noncomputable def cutroomref03_clean_L2 : LoopK C18 cutroomref03_clean_M cutroomref03_clean_L2_LP (getLoop Try.f28 2) where
  sh := cutroomref03_clean_L2_sh
  X := (Bool) ⊕ (Unit)
  go := fun d o x k => caseS x (fun a0 => k .ret (mkS cutroomref03_clean_L2_x0 ((), ((), (a0, ((), ((), ((), ((), ((), ((), ((), ((), ((), ((), ((), ((), ()))))))))))))))) ())) (fun b0 => k (.exit 0) (mkS cutroomref03_clean_L2_x1 ((), ((), ((), ((), ((), ((), ((), ((), ((), ((), ((), ((), ((), ((), ((), ()))))))))))))))) ()))
  pre := fun d o => cutroomref03_clean_L2_pre d.1 d.2.2.2.1
  mu := fun d o => cutroomref03_clean_L2_mu d.1 d.2.2.2.1
  S := fun d o => cutroomref03_clean_L2_S d.1 d.2.2.2.1
  T := fun rec ex d o => cutroomref03_clean_L2_T d.1 (fun v0 => rec (d.1, ((), ((), (v0, ((), ((), ((), ((), ((), ((), ((), ((), ((), ((), ((), ()))))))))))))))) ()) (fun e0 => ex (.inl e0)) (fun _ => ex (.inr ())) d.2.2.2.1
  hn := rfl
  hT := fun _ _ _ _ => by kernel_rfl
  hx := fun d o x => match x with | .inl z => ⟨.ret, _, nofun, fun _ _ => rfl⟩ | .inr z => ⟨(.exit 0), _, nofun, fun _ _ => rfl⟩
  hS := fun d o hd ho hp R rec ex Good hr hx => cutroomref03_clean_L2_ok d.1 d.2.2.2.1 hd.1 hd.2.2.2.1 hp (fun v0 => rec (d.1, ((), ((), (v0, ((), ((), ((), ((), ((), ((), ((), ((), ((), ((), ((), ()))))))))))))))) ()) (fun e0 => ex (.inl e0)) (fun _ => ex (.inr ())) Good
    (fun v0 h1 h2 h3 => hr (d.1, ((), ((), (v0, ((), ((), ((), ((), ((), ((), ((), ((), ((), ((), ((), ()))))))))))))))) () (fun _ _ _ => by kernel_rfl) (cast (by kernel_rfl) h1) (cast (by kernel_rfl) h2) (cast (by kernel_rfl) h3))
    (fun e0 he => (show Good (ex (.inl e0)) from he ▸ hx))
    (fun he => (show Good (ex (.inr ())) from he ▸ hx))
theorem cutroomref03_clean_L2_snd (h : CtxOK Try.prog C18) : LoopS Try.prog (getLoop Try.f28 2) cutroomref03_clean_L2.G := cutroomref03_clean_L2.sound h (cutroomref03_clean_L2_lok h)
noncomputable def cutroomref03_clean_LP : Loops := (addL noLoops 2 cutroomref03_clean_L2.G)
theorem cutroomref03_clean_lok (h : CtxOK Try.prog C18) : LOK Try.prog cutroomref03_clean_LP (Try.f28.body.getD .skip) := LOK_list (l := [(false, getLoop Try.f28 2, cutroomref03_clean_L2.G)]) (by kernel_rfl) ⟨cutroomref03_clean_L2_snd h, trivial⟩
noncomputable def cutroomref03_clean : FnK C18 cutroomref03_clean_M cutroomref03_clean_LP [none] Try.f28 where
  sh := [.v false (.sl (.int .u8))]
  osh := []
  rsh := [.v true .bool]
  rosh := []
  pre := fun d o => cutroomref03_clean_pre d.1
  S := fun d o => (((cutroomref03_clean_S d.1), ()), ())
  F := fun k d o => cutroomref03_clean_F (fun v0 => k (v0, ()) ()) d.1
  hn := rfl
  hF := fun _ _ _ _ => by kernel_rfl
  hS := fun d o hd ho hp R k => cutroomref03_clean_ok d.1 hd.1 hp (fun v0 => k (v0, ()) ()) (fun z => z = k ((cutroomref03_clean_S d.1), ()) ()) rfl
theorem cutroomref03_clean_snd (h : CtxOK Try.prog C18) : Sound Try.prog 28 cutroomref03_clean.G := cutroomref03_clean.sound h rfl (body_LOK (cutroomref03_clean_lok h))
noncomputable def C19 : Ctx := addF C18 28 cutroomref03_clean.G
theorem C19_ok : CtxOK Try.prog C19 := C18_ok.add (cutroomref03_clean_snd C18_ok) Try.f28 rfl (by kernel_rfl) rfl

def cutroomref03_Split_mt : List (Nat × Nat × List Nat) := [(1, 1, []), (2, 17, [128]), (3, 49, [128, 144]), (4, 113, [128, 144]), (6, 113, [128, 144]), (7, 113, [128, 144]), (8, 241, [128, 144, 176]), (9, 241, [128, 144, 176]), (10, 241, [128, 144, 176]), (11, 241, [128, 144, 176]), (12, 1009, [128, 144, 176, 1024]), (14, 177, [128, 144, 176, 1024]), (16, 177, [128, 144, 176]), (17, 48, [128, 144]), (999999, 12, [128, 144]), (1000000, 48, [128, 144]), (1000002, 241, [128, 144, 176])]
def cutroomref03_Split_M : Masks := maskOf cutroomref03_Split_mt
noncomputable def cutroomref03_Split_L9_LP : Loops := noLoops
theorem cutroomref03_Split_L9_lok (_h : CtxOK Try.prog C19) : LOK Try.prog cutroomref03_Split_L9_LP (getLoop Try.f21 9) := LOK_list (l := []) (by kernel_rfl) trivial
abbrev cutroomref03_Split_L9_sh : List SD × OSh := ([.v false (.sl (.int .u8)), .dead, .dead, .dead, .sl 128, .sl 144, .v true (.int .i64), .pb 176 [], .dead, .dead, .dead, .dead, .dead, .dead, .dead, .dead, .dead, .dead, .dead, .dead, .dead, .dead, .dead, .dead, .dead, .dead, .dead, .dead, .dead, .dead, .dead, .dead, .dead, .dead, .dead, .dead, .dead, .dead, .dead, .dead, .dead, .dead, .dead, .dead, .dead, .dead, .dead, .dead, .dead, .dead, .dead, .dead, .dead, .dead, .dead, .dead, .dead, .dead, .dead, .dead, .dead, .dead, .dead, .dead, .dead, .dead, .dead, .dead, .dead, .dead, .dead, .dead, .dead, .dead, .dead, .dead, .dead, .dead, .dead, .dead, .dead, .dead, .dead, .dead, .dead, .dead, .dead, .dead, .dead, .dead], [(128, .arr true T_startcode_Found), (144, .arr true T_startcode_Defect), (176, .box T_startcode_Found (.v true T_startcode_Found))])
abbrev cutroomref03_Split_L9_x0 : List SD × OSh := ([.v false (.sl (.int .u8)), .dead, .dead, .dead, .sl 128, .sl 144, .v true (.int .i64), .pb 176 [], .dead, .dead, .dead, .dead, .dead, .dead, .dead, .dead, .dead, .dead, .dead, .dead, .dead, .dead, .dead, .dead, .dead, .dead, .dead, .dead, .dead, .dead, .dead, .dead, .dead, .dead, .dead, .dead, .dead, .dead, .dead, .dead, .dead, .dead, .dead, .dead, .dead, .dead, .dead, .dead, .dead, .dead, .dead, .dead, .dead, .dead, .dead, .dead, .dead, .dead, .dead, .dead, .dead, .dead, .dead, .dead, .dead, .dead, .dead, .dead, .dead, .dead, .dead, .dead, .dead, .dead, .dead, .dead, .dead, .dead, .dead, .dead, .dead, .dead, .dead, .dead, .dead, .dead, .dead, .dead, .dead, .dead], [(128, .arr true T_startcode_Found), (144, .arr true T_startcode_Defect), (176, .box T_startcode_Found (.v true T_startcode_Found))])
noncomputable def cutroomref03_Split_L9 : LoopK C19 cutroomref03_Split_M cutroomref03_Split_L9_LP (getLoop Try.f21 9) where
  sh := cutroomref03_Split_L9_sh
  X := D_startcode_Found
  go := fun d o x k => k (.exit 2) (mkS cutroomref03_Split_L9_x0 (d.1, ((), ((), ((), ((), ((), (d.2.2.2.2.2.2.1, ((), ((), ((), ((), ((), ((), ((), ((), ((), ((), ((), ((), ((), ((), ((), ((), ((), ((), ((), ((), ((), ((), ((), ((), ((), ((), ((), ((), ((), ((), ((), ((), ((), ((), ((), ((), ((), ((), ((), ((), ((), ((), ((), ((), ((), ((), ((), ((), ((), ((), ((), ((), ((), ((), ((), ((), ((), ((), ((), ((), ((), ((), ((), ((), ((), ((), ((), ((), ((), ((), ((), ((), ((), ((), ((), ((), ((), ((), ((), ((), ((), ((), ((), ())))))))))))))))))))))))))))))))))))))))))))))))))))))))))))))))))))))))))))))))))))))))))) (o.1, (o.2.1, (x, ()))))
  pre := fun d o => cutroomref03_Split_L9_pre d.1 d.2.2.2.2.2.2.1 o.1 o.2.1 o.2.2.1
  mu := fun d o => cutroomref03_Split_L9_mu d.1 d.2.2.2.2.2.2.1 o.1 o.2.1 o.2.2.1
  S := fun d o => cutroomref03_Split_L9_S d.1 d.2.2.2.2.2.2.1 o.1 o.2.1 o.2.2.1
  T := fun rec ex d o => cutroomref03_Split_L9_T d.1 d.2.2.2.2.2.2.1 o.1 o.2.1 (fun v0 => rec (d.1, ((), ((), ((), ((), ((), (d.2.2.2.2.2.2.1, ((), ((), ((), ((), ((), ((), ((), ((), ((), ((), ((), ((), ((), ((), ((), ((), ((), ((), ((), ((), ((), ((), ((), ((), ((), ((), ((), ((), ((), ((), ((), ((), ((), ((), ((), ((), ((), ((), ((), ((), ((), ((), ((), ((), ((), ((), ((), ((), ((), ((), ((), ((), ((), ((), ((), ((), ((), ((), ((), ((), ((), ((), ((), ((), ((), ((), ((), ((), ((), ((), ((), ((), ((), ((), ((), ((), ((), ((), ((), ((), ((), ((), ((), ())))))))))))))))))))))))))))))))))))))))))))))))))))))))))))))))))))))))))))))))))))))))))) (o.1, (o.2.1, (v0, ())))) (fun e0 => ex e0) o.2.2.1
  hn := rfl
  hT := fun _ _ _ _ => by kernel_rfl
  hx := fun d o x => ⟨(.exit 2), _, nofun, fun _ _ => rfl⟩
  hS := fun d o hd ho hp R rec ex Good hr hx => cutroomref03_Split_L9_ok d.1 d.2.2.2.2.2.2.1 o.1 o.2.1 o.2.2.1 hd.1 hd.2.2.2.2.2.2.1 ho.1 ho.2.1 ho.2.2.1 hp (fun v0 => rec (d.1, ((), ((), ((), ((), ((), (d.2.2.2.2.2.2.1, ((), ((), ((), ((), ((), ((), ((), ((), ((), ((), ((), ((), ((), ((), ((), ((), ((), ((), ((), ((), ((), ((), ((), ((), ((), ((), ((), ((), ((), ((), ((), ((), ((), ((), ((), ((), ((), ((), ((), ((), ((), ((), ((), ((), ((), ((), ((), ((), ((), ((), ((), ((), ((), ((), ((), ((), ((), ((), ((), ((), ((), ((), ((), ((), ((), ((), ((), ((), ((), ((), ((), ((), ((), ((), ((), ((), ((), ((), ((), ((), ((), ((), ((), ())))))))))))))))))))))))))))))))))))))))))))))))))))))))))))))))))))))))))))))))))))))))))) (o.1, (o.2.1, (v0, ())))) (fun e0 => ex e0) Good
    (fun v0 h1 h2 h3 => hr (d.1, ((), ((), ((), ((), ((), (d.2.2.2.2.2.2.1, ((), ((), ((), ((), ((), ((), ((), ((), ((), ((), ((), ((), ((), ((), ((), ((), ((), ((), ((), ((), ((), ((), ((), ((), ((), ((), ((), ((), ((), ((), ((), ((), ((), ((), ((), ((), ((), ((), ((), ((), ((), ((), ((), ((), ((), ((), ((), ((), ((), ((), ((), ((), ((), ((), ((), ((), ((), ((), ((), ((), ((), ((), ((), ((), ((), ((), ((), ((), ((), ((), ((), ((), ((), ((), ((), ((), ((), ((), ((), ((), ((), ((), ((), ())))))))))))))))))))))))))))))))))))))))))))))))))))))))))))))))))))))))))))))))))))))))))) (o.1, (o.2.1, (v0, ()))) (fun _ _ _ => by kernel_rfl) (cast (by kernel_rfl) h1) (cast (by kernel_rfl) h2) (cast (by kernel_rfl) h3))
    (fun e0 he => (show Good (ex e0) from he ▸ hx))
theorem cutroomref03_Split_L9_snd (h : CtxOK Try.prog C19) : LoopS Try.prog (getLoop Try.f21 9) cutroomref03_Split_L9.G := cutroomref03_Split_L9.sound h (cutroomref03_Split_L9_lok h)
noncomputable def cutroomref03_Split_L6_LP : Loops := (addL noLoops 9 cutroomref03_Split_L9.G)
theorem cutroomref03_Split_L6_lok (h : CtxOK Try.prog C19) : LOK Try.prog cutroomref03_Split_L6_LP (getLoop Try.f21 6) := LOK_list (l := [(false, getLoop Try.f21 9, cutroomref03_Split_L9.G)]) (by kernel_rfl) ⟨cutroomref03_Split_L9_snd h, trivial⟩
abbrev cutroomref03_Split_L6_sh : List SD × OSh := ([.v false (.sl (.int .u8)), .dead, .dead, .dead, .sl 128, .sl 144, .v true (.int .i64), .dead, .dead, .dead, .dead, .dead, .dead, .dead, .dead, .dead, .dead, .dead, .dead, .dead, .dead, .dead, .dead, .dead, .dead, .dead, .dead, .dead, .dead, .dead, .dead, .dead, .dead, .dead, .dead, .dead, .dead, .dead, .dead, .dead, .dead, .dead, .dead, .dead, .dead, .dead, .dead, .dead, .dead, .dead, .dead, .dead, .dead, .dead, .dead, .dead, .dead, .dead, .dead, .dead, .dead, .dead, .dead, .dead, .dead, .dead, .dead, .dead, .dead, .dead, .dead, .dead, .dead, .dead, .dead, .dead, .dead, .dead, .dead, .dead, .dead, .dead, .dead, .dead, .dead, .dead, .dead, .dead, .dead, .dead], [(128, .arr true T_startcode_Found), (144, .arr true T_startcode_Defect)])
abbrev cutroomref03_Split_L6_x0 : List SD × OSh := ([.dead, .dead, .dead, .dead, .sl 128, .sl 144, .dead, .dead, .dead, .dead, .dead, .dead, .dead, .dead, .dead, .dead, .dead, .dead, .dead, .dead, .dead, .dead, .dead, .dead, .dead, .dead, .dead, .dead, .dead, .dead, .dead, .dead, .dead, .dead, .dead, .dead, .dead, .dead, .dead, .dead, .dead, .dead, .dead, .dead, .dead, .dead, .dead, .dead, .dead, .dead, .dead, .dead, .dead, .dead, .dead, .dead, .dead, .dead, .dead, .dead, .dead, .dead, .dead, .dead, .dead, .dead, .dead, .dead, .dead, .dead, .dead, .dead, .dead, .dead, .dead, .dead, .dead, .dead, .dead, .dead, .dead, .dead, .dead, .dead, .dead, .dead, .dead, .dead, .dead, .dead], [(128, .arr true T_startcode_Found), (144, .arr true T_startcode_Defect)])
noncomputable def cutroomref03_Split_L6 : LoopK C19 cutroomref03_Split_M cutroomref03_Split_L6_LP (getLoop Try.f21 6) where
  sh := cutroomref03_Split_L6_sh
  X := List D_startcode_Found × List D_startcode_Defect
  go := fun d o x k => k (.exit 0) (mkS cutroomref03_Split_L6_x0 ((), ((), ((), ((), ((), ((), ((), ((), ((), ((), ((), ((), ((), ((), ((), ((), ((), ((), ((), ((), ((), ((), ((), ((), ((), ((), ((), ((), ((), ((), ((), ((), ((), ((), ((), ((), ((), ((), ((), ((), ((), ((), ((), ((), ((), ((), ((), ((), ((), ((), ((), ((), ((), ((), ((), ((), ((), ((), ((), ((), ((), ((), ((), ((), ((), ((), ((), ((), ((), ((), ((), ((), ((), ((), ((), ((), ((), ((), ((), ((), ((), ((), ((), ((), ((), ((), ((), ((), ((), ((), ())))))))))))))))))))))))))))))))))))))))))))))))))))))))))))))))))))))))))))))))))))))))))) (x.1, (x.2, ())))
  pre := fun d o => cutroomref03_Split_L6_pre d.1 d.2.2.2.2.2.2.1 o.1 o.2.1
  mu := fun d o => cutroomref03_Split_L6_mu d.1 d.2.2.2.2.2.2.1 o.1 o.2.1
  S := fun d o => cutroomref03_Split_L6_S d.1 d.2.2.2.2.2.2.1 o.1 o.2.1
  T := fun rec ex d o => cutroomref03_Split_L6_T d.1 (fun v0 v1 v2 => rec (d.1, ((), ((), ((), ((), ((), (v0, ((), ((), ((), ((), ((), ((), ((), ((), ((), ((), ((), ((), ((), ((), ((), ((), ((), ((), ((), ((), ((), ((), ((), ((), ((), ((), ((), ((), ((), ((), ((), ((), ((), ((), ((), ((), ((), ((), ((), ((), ((), ((), ((), ((), ((), ((), ((), ((), ((), ((), ((), ((), ((), ((), ((), ((), ((), ((), ((), ((), ((), ((), ((), ((), ((), ((), ((), ((), ((), ((), ((), ((), ((), ((), ((), ((), ((), ((), ((), ((), ((), ((), ((), ())))))))))))))))))))))))))))))))))))))))))))))))))))))))))))))))))))))))))))))))))))))))))) (v1, (v2, ()))) (fun e0 e1 => ex (e0, e1)) d.2.2.2.2.2.2.1 o.1 o.2.1
  hn := rfl
  hT := fun _ _ _ _ => by kernel_rfl
  hx := fun d o x => ⟨(.exit 0), _, nofun, fun _ _ => rfl⟩
  hS := fun d o hd ho hp R rec ex Good hr hx => cutroomref03_Split_L6_ok d.1 d.2.2.2.2.2.2.1 o.1 o.2.1 hd.1 hd.2.2.2.2.2.2.1 ho.1 ho.2.1 hp (fun v0 v1 v2 => rec (d.1, ((), ((), ((), ((), ((), (v0, ((), ((), ((), ((), ((), ((), ((), ((), ((), ((), ((), ((), ((), ((), ((), ((), ((), ((), ((), ((), ((), ((), ((), ((), ((), ((), ((), ((), ((), ((), ((), ((), ((), ((), ((), ((), ((), ((), ((), ((), ((), ((), ((), ((), ((), ((), ((), ((), ((), ((), ((), ((), ((), ((), ((), ((), ((), ((), ((), ((), ((), ((), ((), ((), ((), ((), ((), ((), ((), ((), ((), ((), ((), ((), ((), ((), ((), ((), ((), ((), ((), ((), ((), ())))))))))))))))))))))))))))))))))))))))))))))))))))))))))))))))))))))))))))))))))))))))))) (v1, (v2, ()))) (fun e0 e1 => ex (e0, e1)) Good
    (fun v0 v1 v2 h1 h2 h3 => hr (d.1, ((), ((), ((), ((), ((), (v0, ((), ((), ((), ((), ((), ((), ((), ((), ((), ((), ((), ((), ((), ((), ((), ((), ((), ((), ((), ((), ((), ((), ((), ((), ((), ((), ((), ((), ((), ((), ((), ((), ((), ((), ((), ((), ((), ((), ((), ((), ((), ((), ((), ((), ((), ((), ((), ((), ((), ((), ((), ((), ((), ((), ((), ((), ((), ((), ((), ((), ((), ((), ((), ((), ((), ((), ((), ((), ((), ((), ((), ((), ((), ((), ((), ((), ((), ((), ((), ((), ((), ((), ((), ())))))))))))))))))))))))))))))))))))))))))))))))))))))))))))))))))))))))))))))))))))))))))) (v1, (v2, ())) (fun _ _ _ => by kernel_rfl) (cast (by kernel_rfl) h1) (cast (by kernel_rfl) h2) (cast (by kernel_rfl) h3))
    (fun e0 e1 he => (show Good (ex (e0, e1)) from he ▸ hx))
theorem cutroomref03_Split_L6_snd (h : CtxOK Try.prog C19) : LoopS Try.prog (getLoop Try.f21 6) cutroomref03_Split_L6.G := cutroomref03_Split_L6.sound h (cutroomref03_Split_L6_lok h)
noncomputable def cutroomref03_Split_J6_LP : Loops := (addL (addL noLoops 9 cutroomref03_Split_L9.G) 6 cutroomref03_Split_L6.G)
theorem cutroomref03_Split_J6_lok (h : CtxOK Try.prog C19) : LOK Try.prog cutroomref03_Split_J6_LP (getJoin Try.f21 6) := LOK_list (l := [(false, getLoop Try.f21 6, cutroomref03_Split_L6.G)]) (by kernel_rfl) ⟨cutroomref03_Split_L6_snd h, trivial⟩
abbrev cutroomref03_Split_J6_sh : List SD × OSh := ([.v false (.sl (.int .u8)), .dead, .dead, .dead, .sl 128, .sl 144, .v true (.int .i64), .dead, .dead, .dead, .dead, .dead, .dead, .dead, .dead, .dead, .dead, .dead, .dead, .dead, .dead, .dead, .dead, .dead, .dead, .dead, .dead, .dead, .dead, .dead, .dead, .dead, .dead, .dead, .dead, .dead, .dead, .dead, .dead, .dead, .dead, .dead, .dead, .dead, .dead, .dead, .dead, .dead, .dead, .dead, .dead, .dead, .dead, .dead, .dead, .dead, .dead, .dead, .dead, .dead, .dead, .dead, .dead, .dead, .dead, .dead, .dead, .dead, .dead, .dead, .dead, .dead, .dead, .dead, .dead, .dead, .dead, .dead, .dead, .dead, .dead, .dead, .dead, .dead, .dead, .dead, .dead, .dead, .dead, .dead], [(128, .arr true T_startcode_Found), (144, .arr true T_startcode_Defect)])
abbrev cutroomref03_Split_J6_x0 : List SD × OSh := ([.dead, .dead, .sl 128, .sl 144, .dead, .dead, .dead, .dead, .dead, .dead, .dead, .dead, .dead, .dead, .dead, .dead, .dead, .dead, .dead, .dead, .dead, .dead, .dead, .dead, .dead, .dead, .dead, .dead, .dead, .dead, .dead, .dead, .dead, .dead, .dead, .dead, .dead, .dead, .dead, .dead, .dead, .dead, .dead, .dead, .dead, .dead, .dead, .dead, .dead, .dead, .dead, .dead, .dead, .dead, .dead, .dead, .dead, .dead, .dead, .dead, .dead, .dead, .dead, .dead, .dead, .dead, .dead, .dead, .dead, .dead, .dead, .dead, .dead, .dead, .dead, .dead, .dead, .dead, .dead, .dead, .dead, .dead, .dead, .dead, .dead, .dead, .dead, .dead, .dead, .dead], [(128, .arr true T_startcode_Found), (144, .arr true T_startcode_Defect)])
noncomputable def cutroomref03_Split_J6 : JoinK C19 cutroomref03_Split_M cutroomref03_Split_J6_LP (getJoin Try.f21 6) where
  sh := cutroomref03_Split_J6_sh
  X := List D_startcode_Found × List D_startcode_Defect
  go := fun d o x k => k .ret (mkS cutroomref03_Split_J6_x0 ((), ((), ((), ((), ((), ((), ((), ((), ((), ((), ((), ((), ((), ((), ((), ((), ((), ((), ((), ((), ((), ((), ((), ((), ((), ((), ((), ((), ((), ((), ((), ((), ((), ((), ((), ((), ((), ((), ((), ((), ((), ((), ((), ((), ((), ((), ((), ((), ((), ((), ((), ((), ((), ((), ((), ((), ((), ((), ((), ((), ((), ((), ((), ((), ((), ((), ((), ((), ((), ((), ((), ((), ((), ((), ((), ((), ((), ((), ((), ((), ((), ((), ((), ((), ((), ((), ((), ((), ((), ((), ())))))))))))))))))))))))))))))))))))))))))))))))))))))))))))))))))))))))))))))))))))))))))) (x.1, (x.2, ())))
  T := fun ex d o => cutroomref03_Split_J6_T (fun e0 e1 => ex (e0, e1)) d.1 d.2.2.2.2.2.2.1 o.1 o.2.1
  hT := fun _ _ _ _ => by kernel_rfl
theorem cutroomref03_Split_J6_snd (h : CtxOK Try.prog C19) : CodeS Try.prog (getJoin Try.f21 6) cutroomref03_Split_J6.G := cutroomref03_Split_J6.sound h (cutroomref03_Split_J6_lok h)
noncomputable def cutroomref03_Split_LP : Loops := (addL (addL (addL noLoops 9 cutroomref03_Split_L9.G) 6 cutroomref03_Split_L6.G) 1048582 cutroomref03_Split_J6.G)
theorem cutroomref03_Split_lok (h : CtxOK Try.prog C19) : LOK Try.prog cutroomref03_Split_LP (Try.f21.body.getD .skip) := LOK_list (l := [(true, getJoin Try.f21 6, cutroomref03_Split_J6.G)]) (by kernel_rfl) ⟨cutroomref03_Split_J6_snd h, trivial⟩
noncomputable def cutroomref03_Split : FnK C19 cutroomref03_Split_M cutroomref03_Split_LP [none, none] Try.f21 where
  sh := [.v false (.sl (.int .u8))]
  osh := []
  rsh := [.sl 0, .sl 1]
  rosh := [(0, .arr true T_startcode_Found), (1, .arr true T_startcode_Defect)]
  pre := fun d o => cutroomref03_Split_pre d.1
  S := fun d o => (((), ((), ())), ((cutroomref03_Split_S d.1).1, ((cutroomref03_Split_S d.1).2, ())))
  F := fun k d o => cutroomref03_Split_F (fun v0 v1 => k ((), ((), ())) (v0, (v1, ()))) d.1
  hn := rfl
  hF := fun _ _ _ _ => by kernel_rfl
  hS := fun d o hd ho hp R k => cutroomref03_Split_ok d.1 hd.1 hp (fun v0 v1 => k ((), ((), ())) (v0, (v1, ()))) (fun z => z = k ((), ((), ())) ((cutroomref03_Split_S d.1).1, ((cutroomref03_Split_S d.1).2, ()))) rfl
theorem cutroomref03_Split_snd (h : CtxOK Try.prog C19) : Sound Try.prog 21 cutroomref03_Split.G := cutroomref03_Split.sound h rfl (body_LOK (cutroomref03_Split_lok h))
noncomputable def C20 : Ctx := addF C19 21 cutroomref03_Split.G
theorem C20_ok : CtxOK Try.prog C20 := C19_ok.add (cutroomref03_Split_snd C19_ok) Try.f21 rfl (by kernel_rfl) rfl

def cutroomref03_SameUnit_mt : List (Nat × Nat × List Nat) := [(1, 12, [96, 112]), (999999, 16, [])]
def cutroomref03_SameUnit_M : Masks := maskOf cutroomref03_SameUnit_mt
noncomputable def cutroomref03_SameUnit_LP : Loops := noLoops
theorem cutroomref03_SameUnit_lok (_h : CtxOK Try.prog C20) : LOK Try.prog cutroomref03_SameUnit_LP (Try.f29.body.getD .skip) := LOK_list (l := []) (by kernel_rfl) trivial
noncomputable def cutroomref03_SameUnit : FnK C20 cutroomref03_SameUnit_M cutroomref03_SameUnit_LP [none] Try.f29 where
  sh := [.v false T_api_Unit, .v false T_api_Unit]
  osh := []
  rsh := [.v true .bool]
  rosh := []
  pre := fun d o => cutroomref03_SameUnit_pre d.1 d.2.1
  S := fun d o => (((cutroomref03_SameUnit_S d.1 d.2.1), ()), ())
  F := fun k d o => cutroomref03_SameUnit_F (fun v0 => k (v0, ()) ()) d.1 d.2.1
  hn := rfl
  hF := fun _ _ _ _ => by kernel_rfl
  hS := fun d o hd ho hp R k => cutroomref03_SameUnit_ok d.1 d.2.1 hd.1 hd.2.1 hp (fun v0 => k (v0, ()) ()) (fun z => z = k ((cutroomref03_SameUnit_S d.1 d.2.1), ()) ()) rfl
theorem cutroomref03_SameUnit_snd (h : CtxOK Try.prog C20) : Sound Try.prog 29 cutroomref03_SameUnit.G := cutroomref03_SameUnit.sound h rfl (body_LOK (cutroomref03_SameUnit_lok h))
noncomputable def C21 : Ctx := addF C20 29 cutroomref03_SameUnit.G
theorem C21_ok : CtxOK Try.prog C21 := C20_ok.add (cutroomref03_SameUnit_snd C20_ok) Try.f29 rfl (by kernel_rfl) rfl

def cutroomlaw03_same_mt : List (Nat × Nat × List Nat) := [(1, 12, [96, 112]), (999999, 16, [])]
def cutroomlaw03_same_M : Masks := maskOf cutroomlaw03_same_mt
noncomputable def cutroomlaw03_same_LP : Loops := noLoops
theorem cutroomlaw03_same_lok (_h : CtxOK Try.prog C21) : LOK Try.prog cutroomlaw03_same_LP (Try.f22.body.getD .skip) := LOK_list (l := []) (by kernel_rfl) trivial
noncomputable def cutroomlaw03_same : FnK C21 cutroomlaw03_same_M cutroomlaw03_same_LP [none] Try.f22 where
  sh := [.v false T_startcode_Found, .v false T_startcode_Found]
  osh := []
  rsh := [.v true .bool]
  rosh := []
  pre := fun d o => cutroomlaw03_same_pre d.1 d.2.1
  S := fun d o => (((cutroomlaw03_same_S d.1 d.2.1), ()), ())
  F := fun k d o => cutroomlaw03_same_F (fun v0 => k (v0, ()) ()) d.1 d.2.1
  hn := rfl
  hF := fun _ _ _ _ => by kernel_rfl
  hS := fun d o hd ho hp R k => cutroomlaw03_same_ok d.1 d.2.1 hd.1 hd.2.1 hp (fun v0 => k (v0, ()) ()) (fun z => z = k ((cutroomlaw03_same_S d.1 d.2.1), ()) ()) rfl
theorem cutroomlaw03_same_snd (h : CtxOK Try.prog C21) : Sound Try.prog 22 cutroomlaw03_same.G := cutroomlaw03_same.sound h rfl (body_LOK (cutroomlaw03_same_lok h))
noncomputable def C22 : Ctx := addF C21 22 cutroomlaw03_same.G
theorem C22_ok : CtxOK Try.prog C22 := C21_ok.add (cutroomlaw03_same_snd C21_ok) Try.f22 rfl (by kernel_rfl) rfl

def cutroomlaw03_StartcodeSplit_mt : List (Nat × Nat × List Nat) := [(1, 1, []), (3, 1, []), (4, 25, [288, 289]), (5, 120, [288, 289, 368, 369]), (7, 120, [288, 289, 368, 369]), (8, 248, [288, 289, 368, 369]), (9, 248, [288, 289, 368, 369]), (10, 248, [288, 289, 368, 369]), (12, 80, [289, 369]), (13, 336, [289, 369]), (14, 336, [289, 369]), (15, 336, [289, 369]), (17, 0, []), (999999, 4, []), (1000000, 80, [289, 369]), (1000002, 0, [])]
def cutroomlaw03_StartcodeSplit_M : Masks := maskOf cutroomlaw03_StartcodeSplit_mt
noncomputable def cutroomlaw03_StartcodeSplit_L8_LP : Loops := noLoops
theorem cutroomlaw03_StartcodeSplit_L8_lok (_h : CtxOK Try.prog C22) : LOK Try.prog cutroomlaw03_StartcodeSplit_L8_LP (getLoop Try.f7 8) := LOK_list (l := []) (by kernel_rfl) trivial
abbrev cutroomlaw03_StartcodeSplit_L8_sh : List SD × OSh := ([.dead, .dead, .dead, .sl 288, .sl 289, .sl 368, .sl 369, .v true (.int .i64), .dead, .dead, .dead, .dead, .dead, .dead, .dead, .dead, .dead, .dead, .dead, .dead, .dead, .dead, .dead, .dead, .dead, .dead, .dead, .dead, .dead, .dead, .dead, .dead, .dead, .dead, .dead, .dead, .dead, .dead, .dead, .dead, .dead, .dead, .dead, .dead, .dead, .dead, .dead, .dead, .dead, .dead, .dead, .dead, .dead, .dead, .dead, .dead, .dead, .dead, .dead, .dead, .dead, .dead, .dead, .dead, .dead, .dead, .dead, .dead, .dead, .dead, .dead, .dead, .dead, .dead, .dead, .dead, .dead, .dead, .dead, .dead, .dead], [(288, .arr true T_startcode_Found), (289, .arr true T_startcode_Defect), (368, .arr true T_startcode_Found), (369, .arr true T_startcode_Defect)])
abbrev cutroomlaw03_StartcodeSplit_L8_x0 : List SD × OSh := ([.dead, .dead, .v true .bool, .dead, .dead, .dead, .dead, .dead, .dead, .dead, .dead, .dead, .dead, .dead, .dead, .dead, .dead, .dead, .dead, .dead, .dead, .dead, .dead, .dead, .dead, .dead, .dead, .dead, .dead, .dead, .dead, .dead, .dead, .dead, .dead, .dead, .dead, .dead, .dead, .dead, .dead, .dead, .dead, .dead, .dead, .dead, .dead, .dead, .dead, .dead, .dead, .dead, .dead, .dead, .dead, .dead, .dead, .dead, .dead, .dead, .dead, .dead, .dead, .dead, .dead, .dead, .dead, .dead, .dead, .dead, .dead, .dead, .dead, .dead, .dead, .dead, .dead, .dead, .dead, .dead, .dead], [])
abbrev cutroomlaw03_StartcodeSplit_L8_x1 : List SD × OSh := ([.dead, .dead, .dead, .dead, .sl 289, .dead, .sl 369, .dead, .dead, .dead, .dead, .dead, .dead, .dead, .dead, .dead, .dead, .dead, .dead, .dead, .dead, .dead, .dead, .dead, .dead, .dead, .dead, .dead, .dead, .dead, .dead, .dead, .dead, .dead, .dead, .dead, .dead, .dead, .dead, .dead, .dead, .dead, .dead, .dead, .dead, .dead, .dead, .dead, .dead, .dead, .dead, .dead, .dead, .dead, .dead, .dead, .dead, .dead, .dead, .dead, .dead, .dead, .dead, .dead, .dead, .dead, .dead, .dead, .dead, .dead, .dead, .dead, .dead, .dead, .dead, .dead, .dead, .dead, .dead, .dead, .dead], [(289, .arr true T_startcode_Defect), (369, .arr true T_startcode_Defect)])
noncomputable def cutroomlaw03_StartcodeSplit_L8 : LoopK C22 cutroomlaw03_StartcodeSplit_M cutroomlaw03_StartcodeSplit_L8_LP (getLoop Try.f7 8) where
  sh := cutroomlaw03_StartcodeSplit_L8_sh
  X := (Bool) ⊕ (Unit)
  go := fun d o x k => caseS x (fun a0 => k .ret (mkS cutroomlaw03_StartcodeSplit_L8_x0 ((), ((), (a0, ((), ((), ((), ((), ((), ((), ((), ((), ((), ((), ((), ((), ((), ((), ((), ((), ((), ((), ((), ((), ((), ((), ((), ((), ((), ((), ((), ((), ((), ((), ((), ((), ((), ((), ((), ((), ((), ((), ((), ((), ((), ((), ((), ((), ((), ((), ((), ((), ((), ((), ((), ((), ((), ((), ((), ((), ((), ((), ((), ((), ((), ((), ((), ((), ((), ((), ((), ((), ((), ((), ((), ((), ((), ((), ((), ((), ((), ((), ()))))))))))))))))))))))))))))))))))))))))))))))))))))))))))))))))))))))))))))))))) ())) (fun b0 => k (.exit 0) (mkS cutroomlaw03_StartcodeSplit_L8_x1 ((), ((), ((), ((), ((), ((), ((), ((), ((), ((), ((), ((), ((), ((), ((), ((), ((), ((), ((), ((), ((), ((), ((), ((), ((), ((), ((), ((), ((), ((), ((), ((), ((), ((), ((), ((), ((), ((), ((), ((), ((), ((), ((), ((), ((), ((), ((), ((), ((), ((), ((), ((), ((), ((), ((), ((), ((), ((), ((), ((), ((), ((), ((), ((), ((), ((), ((), ((), ((), ((), ((), ((), ((), ((), ((), ((), ((), ((), ((), ((), ((), ()))))))))))))))))))))))))))))))))))))))))))))))))))))))))))))))))))))))))))))))))) (o.2.1, (o.2.2.2.1, ()))))
  pre := fun d o => cutroomlaw03_StartcodeSplit_L8_pre o.1 o.2.1 o.2.2.1 o.2.2.2.1 d.2.2.2.2.2.2.2.1
  mu := fun d o => cutroomlaw03_StartcodeSplit_L8_mu o.1 o.2.1 o.2.2.1 o.2.2.2.1 d.2.2.2.2.2.2.2.1
  S := fun d o => cutroomlaw03_StartcodeSplit_L8_S o.1 o.2.1 o.2.2.1 o.2.2.2.1 d.2.2.2.2.2.2.2.1
  T := fun rec ex d o => cutroomlaw03_StartcodeSplit_L8_T o.1 o.2.1 o.2.2.1 o.2.2.2.1 (fun v0 => rec ((), ((), ((), ((), ((), ((), ((), (v0, ((), ((), ((), ((), ((), ((), ((), ((), ((), ((), ((), ((), ((), ((), ((), ((), ((), ((), ((), ((), ((), ((), ((), ((), ((), ((), ((), ((), ((), ((), ((), ((), ((), ((), ((), ((), ((), ((), ((), ((), ((), ((), ((), ((), ((), ((), ((), ((), ((), ((), ((), ((), ((), ((), ((), ((), ((), ((), ((), ((), ((), ((), ((), ((), ((), ((), ((), ((), ((), ((), ((), ((), ((), ()))))))))))))))))))))))))))))))))))))))))))))))))))))))))))))))))))))))))))))))))) (o.1, (o.2.1, (o.2.2.1, (o.2.2.2.1, ()))))) (fun e0 => ex (.inl e0)) (fun _ => ex (.inr ())) d.2.2.2.2.2.2.2.1
  hn := rfl
  hT := fun _ _ _ _ => by kernel_rfl
  hx := fun d o x => match x with | .inl z => ⟨.ret, _, nofun, fun _ _ => rfl⟩ | .inr z => ⟨(.exit 0), _, nofun, fun _ _ => rfl⟩
  hS := fun d o hd ho hp R rec ex Good hr hx => cutroomlaw03_StartcodeSplit_L8_ok o.1 o.2.1 o.2.2.1 o.2.2.2.1 d.2.2.2.2.2.2.2.1 hd.2.2.2.2.2.2.2.1 ho.1 ho.2.1 ho.2.2.1 ho.2.2.2.1 hp (fun v0 => rec ((), ((), ((), ((), ((), ((), ((), (v0, ((), ((), ((), ((), ((), ((), ((), ((), ((), ((), ((), ((), ((), ((), ((), ((), ((), ((), ((), ((), ((), ((), ((), ((), ((), ((), ((), ((), ((), ((), ((), ((), ((), ((), ((), ((), ((), ((), ((), ((), ((), ((), ((), ((), ((), ((), ((), ((), ((), ((), ((), ((), ((), ((), ((), ((), ((), ((), ((), ((), ((), ((), ((), ((), ((), ((), ((), ((), ((), ((), ((), ((), ((), ()))))))))))))))))))))))))))))))))))))))))))))))))))))))))))))))))))))))))))))))))) (o.1, (o.2.1, (o.2.2.1, (o.2.2.2.1, ()))))) (fun e0 => ex (.inl e0)) (fun _ => ex (.inr ())) Good
    (fun v0 h1 h2 h3 => hr ((), ((), ((), ((), ((), ((), ((), (v0, ((), ((), ((), ((), ((), ((), ((), ((), ((), ((), ((), ((), ((), ((), ((), ((), ((), ((), ((), ((), ((), ((), ((), ((), ((), ((), ((), ((), ((), ((), ((), ((), ((), ((), ((), ((), ((), ((), ((), ((), ((), ((), ((), ((), ((), ((), ((), ((), ((), ((), ((), ((), ((), ((), ((), ((), ((), ((), ((), ((), ((), ((), ((), ((), ((), ((), ((), ((), ((), ((), ((), ((), ((), ()))))))))))))))))))))))))))))))))))))))))))))))))))))))))))))))))))))))))))))))))) (o.1, (o.2.1, (o.2.2.1, (o.2.2.2.1, ())))) (fun _ _ _ => by kernel_rfl) (cast (by kernel_rfl) h1) (cast (by kernel_rfl) h2) (cast (by kernel_rfl) h3))
    (fun e0 he => (show Good (ex (.inl e0)) from he ▸ hx))
    (fun he => (show Good (ex (.inr ())) from he ▸ hx))
theorem cutroomlaw03_StartcodeSplit_L8_snd (h : CtxOK Try.prog C22) : LoopS Try.prog (getLoop Try.f7 8) cutroomlaw03_StartcodeSplit_L8.G := cutroomlaw03_StartcodeSplit_L8.sound h (cutroomlaw03_StartcodeSplit_L8_lok h)
noncomputable def cutroomlaw03_StartcodeSplit_L13_LP : Loops := (addL noLoops 8 cutroomlaw03_StartcodeSplit_L8.G)
theorem cutroomlaw03_StartcodeSplit_L13_lok (_h : CtxOK Try.prog C22) : LOK Try.prog cutroomlaw03_StartcodeSplit_L13_LP (getLoop Try.f7 13) := LOK_list (l := []) (by kernel_rfl) trivial
abbrev cutroomlaw03_StartcodeSplit_L13_sh : List SD × OSh := ([.dead, .dead, .dead, .dead, .sl 289, .dead, .sl 369, .dead, .v true (.int .i64), .dead, .dead, .dead, .dead, .dead, .dead, .dead, .dead, .dead, .dead, .dead, .dead, .dead, .dead, .dead, .dead, .dead, .dead, .dead, .dead, .dead, .dead, .dead, .dead, .dead, .dead, .dead, .dead, .dead, .dead, .dead, .dead, .dead, .dead, .dead, .dead, .dead, .dead, .dead, .dead, .dead, .dead, .dead, .dead, .dead, .dead, .dead, .dead, .dead, .dead, .dead, .dead, .dead, .dead, .dead, .dead, .dead, .dead, .dead, .dead, .dead, .dead, .dead, .dead, .dead, .dead, .dead, .dead, .dead, .dead, .dead, .dead], [(289, .arr true T_startcode_Defect), (369, .arr true T_startcode_Defect)])
abbrev cutroomlaw03_StartcodeSplit_L13_x0 : List SD × OSh := ([.dead, .dead, .v true .bool, .dead, .dead, .dead, .dead, .dead, .dead, .dead, .dead, .dead, .dead, .dead, .dead, .dead, .dead, .dead, .dead, .dead, .dead, .dead, .dead, .dead, .dead, .dead, .dead, .dead, .dead, .dead, .dead, .dead, .dead, .dead, .dead, .dead, .dead, .dead, .dead, .dead, .dead, .dead, .dead, .dead, .dead, .dead, .dead, .dead, .dead, .dead, .dead, .dead, .dead, .dead, .dead, .dead, .dead, .dead, .dead, .dead, .dead, .dead, .dead, .dead, .dead, .dead, .dead, .dead, .dead, .dead, .dead, .dead, .dead, .dead, .dead, .dead, .dead, .dead, .dead, .dead, .dead], [])
abbrev cutroomlaw03_StartcodeSplit_L13_x1 : List SD × OSh := ([.dead, .dead, .dead, .dead, .dead, .dead, .dead, .dead, .dead, .dead, .dead, .dead, .dead, .dead, .dead, .dead, .dead, .dead, .dead, .dead, .dead, .dead, .dead, .dead, .dead, .dead, .dead, .dead, .dead, .dead, .dead, .dead, .dead, .dead, .dead, .dead, .dead, .dead, .dead, .dead, .dead, .dead, .dead, .dead, .dead, .dead, .dead, .dead, .dead, .dead, .dead, .dead, .dead, .dead, .dead, .dead, .dead, .dead, .dead, .dead, .dead, .dead, .dead, .dead, .dead, .dead, .dead, .dead, .dead, .dead, .dead, .dead, .dead, .dead, .dead, .dead, .dead, .dead, .dead, .dead, .dead], [])
noncomputable def cutroomlaw03_StartcodeSplit_L13 : LoopK C22 cutroomlaw03_StartcodeSplit_M cutroomlaw03_StartcodeSplit_L13_LP (getLoop Try.f7 13) where
  sh := cutroomlaw03_StartcodeSplit_L13_sh
  X := (Bool) ⊕ (Unit)
  go := fun d o x k => caseS x (fun a0 => k .ret (mkS cutroomlaw03_StartcodeSplit_L13_x0 ((), ((), (a0, ((), ((), ((), ((), ((), ((), ((), ((), ((), ((), ((), ((), ((), ((), ((), ((), ((), ((), ((), ((), ((), ((), ((), ((), ((), ((), ((), ((), ((), ((), ((), ((), ((), ((), ((), ((), ((), ((), ((), ((), ((), ((), ((), ((), ((), ((), ((), ((), ((), ((), ((), ((), ((), ((), ((), ((), ((), ((), ((), ((), ((), ((), ((), ((), ((), ((), ((), ((), ((), ((), ((), ((), ((), ((), ((), ((), ((), ((), ()))))))))))))))))))))))))))))))))))))))))))))))))))))))))))))))))))))))))))))))))) ())) (fun b0 => k (.exit 2) (mkS cutroomlaw03_StartcodeSplit_L13_x1 ((), ((), ((), ((), ((), ((), ((), ((), ((), ((), ((), ((), ((), ((), ((), ((), ((), ((), ((), ((), ((), ((), ((), ((), ((), ((), ((), ((), ((), ((), ((), ((), ((), ((), ((), ((), ((), ((), ((), ((), ((), ((), ((), ((), ((), ((), ((), ((), ((), ((), ((), ((), ((), ((), ((), ((), ((), ((), ((), ((), ((), ((), ((), ((), ((), ((), ((), ((), ((), ((), ((), ((), ((), ((), ((), ((), ((), ((), ((), ((), ((), ()))))))))))))))))))))))))))))))))))))))))))))))))))))))))))))))))))))))))))))))))) ()))
  pre := fun d o => cutroomlaw03_StartcodeSplit_L13_pre o.1 o.2.1 d.2.2.2.2.2.2.2.2.1
  mu := fun d o => cutroomlaw03_StartcodeSplit_L13_mu o.1 o.2.1 d.2.2.2.2.2.2.2.2.1
  S := fun d o => cutroomlaw03_StartcodeSplit_L13_S o.1 o.2.1 d.2.2.2.2.2.2.2.2.1
  T := fun rec ex d o => cutroomlaw03_StartcodeSplit_L13_T o.1 o.2.1 (fun v0 => rec ((), ((), ((), ((), ((), ((), ((), ((), (v0, ((), ((), ((), ((), ((), ((), ((), ((), ((), ((), ((), ((), ((), ((), ((), ((), ((), ((), ((), ((), ((), ((), ((), ((), ((), ((), ((), ((), ((), ((), ((), ((), ((), ((), ((), ((), ((), ((), ((), ((), ((), ((), ((), ((), ((), ((), ((), ((), ((), ((), ((), ((), ((), ((), ((), ((), ((), ((), ((), ((), ((), ((), ((), ((), ((), ((), ((), ((), ((), ((), ((), ((), ()))))))))))))))))))))))))))))))))))))))))))))))))))))))))))))))))))))))))))))))))) (o.1, (o.2.1, ()))) (fun e0 => ex (.inl e0)) (fun _ => ex (.inr ())) d.2.2.2.2.2.2.2.2.1
  hn := rfl
  hT := fun _ _ _ _ => by kernel_rfl
  hx := fun d o x => match x with | .inl z => ⟨.ret, _, nofun, fun _ _ => rfl⟩ | .inr z => ⟨(.exit 2), _, nofun, fun _ _ => rfl⟩
  hS := fun d o hd ho hp R rec ex Good hr hx => cutroomlaw03_StartcodeSplit_L13_ok o.1 o.2.1 d.2.2.2.2.2.2.2.2.1 hd.2.2.2.2.2.2.2.2.1 ho.1 ho.2.1 hp (fun v0 => rec ((), ((), ((), ((), ((), ((), ((), ((), (v0, ((), ((), ((), ((), ((), ((), ((), ((), ((), ((), ((), ((), ((), ((), ((), ((), ((), ((), ((), ((), ((), ((), ((), ((), ((), ((), ((), ((), ((), ((), ((), ((), ((), ((), ((), ((), ((), ((), ((), ((), ((), ((), ((), ((), ((), ((), ((), ((), ((), ((), ((), ((), ((), ((), ((), ((), ((), ((), ((), ((), ((), ((), ((), ((), ((), ((), ((), ((), ((), ((), ((), ((), ()))))))))))))))))))))))))))))))))))))))))))))))))))))))))))))))))))))))))))))))))) (o.1, (o.2.1, ()))) (fun e0 => ex (.inl e0)) (fun _ => ex (.inr ())) Good
    (fun v0 h1 h2 h3 => hr ((), ((), ((), ((), ((), ((), ((), ((), (v0, ((), ((), ((), ((), ((), ((), ((), ((), ((), ((), ((), ((), ((), ((), ((), ((), ((), ((), ((), ((), ((), ((), ((), ((), ((), ((), ((), ((), ((), ((), ((), ((), ((), ((), ((), ((), ((), ((), ((), ((), ((), ((), ((), ((), ((), ((), ((), ((), ((), ((), ((), ((), ((), ((), ((), ((), ((), ((), ((), ((), ((), ((), ((), ((), ((), ((), ((), ((), ((), ((), ((), ((), ()))))))))))))))))))))))))))))))))))))))))))))))))))))))))))))))))))))))))))))))))) (o.1, (o.2.1, ())) (fun _ _ _ => by kernel_rfl) (cast (by kernel_rfl) h1) (cast (by kernel_rfl) h2) (cast (by kernel_rfl) h3))
    (fun e0 he => (show Good (ex (.inl e0)) from he ▸ hx))
    (fun he => (show Good (ex (.inr ())) from he ▸ hx))
theorem cutroomlaw03_StartcodeSplit_L13_snd (h : CtxOK Try.prog C22) : LoopS Try.prog (getLoop Try.f7 13) cutroomlaw03_StartcodeSplit_L13.G := cutroomlaw03_StartcodeSplit_L13.sound h (cutroomlaw03_StartcodeSplit_L13_lok h)
noncomputable def cutroomlaw03_StartcodeSplit_LP : Loops := (addL (addL noLoops 8 cutroomlaw03_StartcodeSplit_L8.G) 13 cutroomlaw03_StartcodeSplit_L13.G)
theorem cutroomlaw03_StartcodeSplit_lok (h : CtxOK Try.prog C22) : LOK Try.prog cutroomlaw03_StartcodeSplit_LP (Try.f7.body.getD .skip) := LOK_list (l := [(false, getLoop Try.f7 8, cutroomlaw03_StartcodeSplit_L8.G), (false, getLoop Try.f7 13, cutroomlaw03_StartcodeSplit_L13.G)]) (by kernel_rfl) ⟨cutroomlaw03_StartcodeSplit_L8_snd h, ⟨cutroomlaw03_StartcodeSplit_L13_snd h, trivial⟩⟩
noncomputable def cutroomlaw03_StartcodeSplit : FnK C22 cutroomlaw03_StartcodeSplit_M cutroomlaw03_StartcodeSplit_LP [none] Try.f7 where
  sh := [.v false (.sl (.int .u8))]
  osh := []
  rsh := [.v true .bool]
  rosh := []
  pre := fun d o => cutroomlaw03_StartcodeSplit_pre d.1
  S := fun d o => (((cutroomlaw03_StartcodeSplit_S d.1), ()), ())
  F := fun k d o => cutroomlaw03_StartcodeSplit_F (fun v0 => k (v0, ()) ()) d.1
  hn := rfl
  hF := fun _ _ _ _ => by kernel_rfl
  hS := fun d o hd ho hp R k => cutroomlaw03_StartcodeSplit_ok d.1 hd.1 hp (fun v0 => k (v0, ()) ()) (fun z => z = k ((cutroomlaw03_StartcodeSplit_S d.1), ()) ()) rfl
theorem cutroomlaw03_StartcodeSplit_snd (h : CtxOK Try.prog C22) : Sound Try.prog 7 cutroomlaw03_StartcodeSplit.G := cutroomlaw03_StartcodeSplit.sound h rfl (body_LOK (cutroomlaw03_StartcodeSplit_lok h))
noncomputable def C23 : Ctx := addF C22 7 cutroomlaw03_StartcodeSplit.G
theorem C23_ok : CtxOK Try.prog C23 := C22_ok.add (cutroomlaw03_StartcodeSplit_snd C22_ok) Try.f7 rfl (by kernel_rfl) rfl

def cutroomlaw03_joined_mt : List (Nat × Nat × List Nat) := [(1, 3, []), (2, 131, [176]), (3, 387, [176, 192]), (4, 899, [176, 192]), (5, 899, [176, 192]), (6, 899, [176, 192]), (8, 899, [176, 192]), (9, 3971, [176, 192, 736]), (11, 1923, [176, 192, 736]), (12, 1923, [176, 192, 736]), (13, 384, [176, 192]), (14, 4480, [176, 192]), (15, 4480, [176, 192]), (16, 4480, [176, 192]), (17, 4480, [176, 192]), (19, 384, [176, 192]), (999999, 112, [128, 144, 176, 192]), (1000000, 384, [176, 192]), (1000002, 384, [176, 192])]
def cutroomlaw03_joined_M : Masks := maskOf cutroomlaw03_joined_mt
noncomputable def cutroomlaw03_joined_J8_LP : Loops := noLoops
theorem cutroomlaw03_joined_J8_lok (_h : CtxOK Try.prog C23) : LOK Try.prog cutroomlaw03_joined_J8_LP (getJoin Try.f23 8) := LOK_list (l := []) (by kernel_rfl) trivial
abbrev cutroomlaw03_joined_J8_sh : List SD × OSh := ([.v false (.sl T_api_Unit), .v false (.sl (.int .i64)), .dead, .dead, .dead, .dead, .dead, .sl 176, .sl 192, .v true (.int .i64), .dead, .dead, .dead, .dead, .dead, .dead, .dead, .dead, .dead, .dead, .dead, .dead, .dead, .dead, .dead, .dead, .dead, .dead, .dead, .dead, .dead, .dead, .dead, .dead, .dead, .dead, .dead, .dead, .dead, .dead, .dead, .dead, .dead, .dead, .dead, .dead, .dead, .dead, .dead, .dead, .dead, .dead, .dead, .dead, .dead, .dead, .dead, .dead, .dead, .dead, .dead, .dead, .dead, .dead, .dead, .dead, .dead, .dead, .dead, .dead, .dead, .dead, .dead, .dead, .dead, .dead, .dead, .dead, .dead, .dead, .dead, .dead, .dead, .dead, .dead, .dead, .dead, .dead, .dead, .dead, .dead, .dead, .dead, .dead], [(176, .arr true (.int .u8)), (192, .arr false T_startcode_Found)])
abbrev cutroomlaw03_joined_J8_x0 : List SD × OSh := ([.dead, .dead, .dead, .dead, .sl 128, .sl 144, .v true .bool, .dead, .dead, .dead, .dead, .dead, .dead, .dead, .dead, .dead, .dead, .dead, .dead, .dead, .dead, .dead, .dead, .dead, .dead, .dead, .dead, .dead, .dead, .dead, .dead, .dead, .dead, .dead, .dead, .dead, .dead, .dead, .dead, .dead, .dead, .dead, .dead, .dead, .dead, .dead, .dead, .dead, .dead, .dead, .dead, .dead, .dead, .dead, .dead, .dead, .dead, .dead, .dead, .dead, .dead, .dead, .dead, .dead, .dead, .dead, .dead, .dead, .dead, .dead, .dead, .dead, .dead, .dead, .dead, .dead, .dead, .dead, .dead, .dead, .dead, .dead, .dead, .dead, .dead, .dead, .dead, .dead, .dead, .dead, .dead, .dead, .dead, .dead], [(128, .arr true (.int .u8)), (144, .arr true T_startcode_Found), (176, .arr true (.int .u8)), (192, .arr false T_startcode_Found)])
abbrev cutroomlaw03_joined_J8_x1 : List SD × OSh := ([.v false (.sl T_api_Unit), .v false (.sl (.int .i64)), .dead, .dead, .dead, .dead, .dead, .sl 176, .sl 192, .v true (.int .i64), .sl 736, .dead, .dead, .dead, .dead, .dead, .dead, .dead, .dead, .dead, .dead, .dead, .dead, .dead, .dead, .dead, .dead, .dead, .dead, .dead, .dead, .dead, .dead, .dead, .dead, .dead, .dead, .dead, .dead, .dead, .dead, .dead, .dead, .dead, .dead, .dead, .dead, .dead, .dead, .dead, .dead, .dead, .dead, .dead, .dead, .dead, .dead, .dead, .dead, .dead, .dead, .dead, .dead, .sl 736, .sl 176, .dead, .dead, .dead, .dead, .dead, .dead, .dead, .dead, .dead, .dead, .dead, .dead, .dead, .dead, .dead, .dead, .dead, .dead, .dead, .dead, .dead, .dead, .dead, .dead, .dead, .dead, .dead, .dead, .dead], [(176, .arr true (.int .u8)), (192, .arr false T_startcode_Found), (736, .arr true (.int .u8))])
noncomputable def cutroomlaw03_joined_J8 : JoinK C23 cutroomlaw03_joined_M cutroomlaw03_joined_J8_LP (getJoin Try.f23 8) where
  sh := cutroomlaw03_joined_J8_sh
  X := (Bool × List Int × List D_startcode_Found) ⊕ (List Int × List D_startcode_Found × List Int)
  go := fun d o x k => caseS x (fun a0 => k .ret (mkS cutroomlaw03_joined_J8_x0 ((), ((), ((), ((), ((), ((), (a0.1, ((), ((), ((), ((), ((), ((), ((), ((), ((), ((), ((), ((), ((), ((), ((), ((), ((), ((), ((), ((), ((), ((), ((), ((), ((), ((), ((), ((), ((), ((), ((), ((), ((), ((), ((), ((), ((), ((), ((), ((), ((), ((), ((), ((), ((), ((), ((), ((), ((), ((), ((), ((), ((), ((), ((), ((), ((), ((), ((), ((), ((), ((), ((), ((), ((), ((), ((), ((), ((), ((), ((), ((), ((), ((), ((), ((), ((), ((), ((), ((), ((), ((), ((), ((), ((), ((), ((), ())))))))))))))))))))))))))))))))))))))))))))))))))))))))))))))))))))))))))))))))))))))))))))))) (a0.2.1, (a0.2.2, (o.1, (o.2.1, ())))))) (fun b0 => k .normal (mkS cutroomlaw03_joined_J8_x1 (d.1, (d.2.1, ((), ((), ((), ((), ((), ((), ((), (d.2.2.2.2.2.2.2.2.2.1, ((), ((), ((), ((), ((), ((), ((), ((), ((), ((), ((), ((), ((), ((), ((), ((), ((), ((), ((), ((), ((), ((), ((), ((), ((), ((), ((), ((), ((), ((), ((), ((), ((), ((), ((), ((), ((), ((), ((), ((), ((), ((), ((), ((), ((), ((), ((), ((), ((), ((), ((), ((), ((), ((), ((), ((), ((), ((), ((), ((), ((), ((), ((), ((), ((), ((), ((), ((), ((), ((), ((), ((), ((), ((), ((), ((), ((), ((), ((), ((), ((), ((), ((), ((), ())))))))))))))))))))))))))))))))))))))))))))))))))))))))))))))))))))))))))))))))))))))))))))))) (b0.1, (b0.2.1, (b0.2.2, ())))))
  T := fun ex d o => cutroomlaw03_joined_J8_T (fun e0 e1 e2 => ex (.inl (e0, e1, e2))) (fun e0 e1 e2 => ex (.inr (e0, e1, e2))) d.1 d.2.1 d.2.2.2.2.2.2.2.2.2.1 o.1 o.2.1
  hT := fun _ _ _ _ => by kernel_rfl
theorem cutroomlaw03_joined_J8_snd (h : CtxOK Try.prog C23) : CodeS Try.prog (getJoin Try.f23 8) cutroomlaw03_joined_J8.G := cutroomlaw03_joined_J8.sound h (cutroomlaw03_joined_J8_lok h)
noncomputable def cutroomlaw03_joined_L4_LP : Loops := (addL noLoops 1048584 cutroomlaw03_joined_J8.G)
theorem cutroomlaw03_joined_L4_lok (h : CtxOK Try.prog C23) : LOK Try.prog cutroomlaw03_joined_L4_LP (getLoop Try.f23 4) := LOK_list (l := [(true, getJoin Try.f23 8, cutroomlaw03_joined_J8.G)]) (by kernel_rfl) ⟨cutroomlaw03_joined_J8_snd h, trivial⟩
abbrev cutroomlaw03_joined_L4_sh : List SD × OSh := ([.v false (.sl T_api_Unit), .v false (.sl (.int .i64)), .dead, .dead, .dead, .dead, .dead, .sl 176, .sl 192, .v true (.int .i64), .dead, .dead, .dead, .dead, .dead, .dead, .dead, .dead, .dead, .dead, .dead, .dead, .dead, .dead, .dead, .dead, .dead, .dead, .dead, .dead, .dead, .dead, .dead, .dead, .dead, .dead, .dead, .dead, .dead, .dead, .dead, .dead, .dead, .dead, .dead, .dead, .dead, .dead, .dead, .dead, .dead, .dead, .dead, .dead, .dead, .dead, .dead, .dead, .dead, .dead, .dead, .dead, .dead, .dead, .dead, .dead, .dead, .dead, .dead, .dead, .dead, .dead, .dead, .dead, .dead, .dead, .dead, .dead, .dead, .dead, .dead, .dead, .dead, .dead, .dead, .dead, .dead, .dead, .dead, .dead, .dead, .dead, .dead, .dead], [(176, .arr true (.int .u8)), (192, .arr false T_startcode_Found)])
abbrev cutroomlaw03_joined_L4_x0 : List SD × OSh := ([.dead, .dead, .dead, .dead, .sl 128, .sl 144, .v true .bool, .dead, .dead, .dead, .dead, .dead, .dead, .dead, .dead, .dead, .dead, .dead, .dead, .dead, .dead, .dead, .dead, .dead, .dead, .dead, .dead, .dead, .dead, .dead, .dead, .dead, .dead, .dead, .dead, .dead, .dead, .dead, .dead, .dead, .dead, .dead, .dead, .dead, .dead, .dead, .dead, .dead, .dead, .dead, .dead, .dead, .dead, .dead, .dead, .dead, .dead, .dead, .dead, .dead, .dead, .dead, .dead, .dead, .dead, .dead, .dead, .dead, .dead, .dead, .dead, .dead, .dead, .dead, .dead, .dead, .dead, .dead, .dead, .dead, .dead, .dead, .dead, .dead, .dead, .dead, .dead, .dead, .dead, .dead, .dead, .dead, .dead, .dead], [(128, .arr true (.int .u8)), (144, .arr true T_startcode_Found), (176, .arr true (.int .u8)), (192, .arr false T_startcode_Found)])
abbrev cutroomlaw03_joined_L4_x1 : List SD × OSh := ([.dead, .dead, .dead, .dead, .dead, .dead, .dead, .sl 176, .sl 192, .dead, .dead, .dead, .dead, .dead, .dead, .dead, .dead, .dead, .dead, .dead, .dead, .dead, .dead, .dead, .dead, .dead, .dead, .dead, .dead, .dead, .dead, .dead, .dead, .dead, .dead, .dead, .dead, .dead, .dead, .dead, .dead, .dead, .dead, .dead, .dead, .dead, .dead, .dead, .dead, .dead, .dead, .dead, .dead, .dead, .dead, .dead, .dead, .dead, .dead, .dead, .dead, .dead, .dead, .dead, .dead, .dead, .dead, .dead, .dead, .dead, .dead, .dead, .dead, .dead, .dead, .dead, .dead, .dead, .dead, .dead, .dead, .dead, .dead, .dead, .dead, .dead, .dead, .dead, .dead, .dead, .dead, .dead, .dead, .dead], [(176, .arr true (.int .u8)), (192, .arr false T_startcode_Found)])
noncomputable def cutroomlaw03_joined_L4 : LoopK C23 cutroomlaw03_joined_M cutroomlaw03_joined_L4_LP (getLoop Try.f23 4) where
  sh := cutroomlaw03_joined_L4_sh
  X := (Bool × List Int × List D_startcode_Found × List Int × List D_startcode_Found) ⊕ (List Int × List D_startcode_Found)
  go := fun d o x k => caseS x (fun a0 => k .ret (mkS cutroomlaw03_joined_L4_x0 ((), ((), ((), ((), ((), ((), (a0.1, ((), ((), ((), ((), ((), ((), ((), ((), ((), ((), ((), ((), ((), ((), ((), ((), ((), ((), ((), ((), ((), ((), ((), ((), ((), ((), ((), ((), ((), ((), ((), ((), ((), ((), ((), ((), ((), ((), ((), ((), ((), ((), ((), ((), ((), ((), ((), ((), ((), ((), ((), ((), ((), ((), ((), ((), ((), ((), ((), ((), ((), ((), ((), ((), ((), ((), ((), ((), ((), ((), ((), ((), ((), ((), ((), ((), ((), ((), ((), ((), ((), ((), ((), ((), ((), ((), ((), ())))))))))))))))))))))))))))))))))))))))))))))))))))))))))))))))))))))))))))))))))))))))))))))) (a0.2.1, (a0.2.2.1, (a0.2.2.2.1, (a0.2.2.2.2, ())))))) (fun b0 => k (.exit 0) (mkS cutroomlaw03_joined_L4_x1 ((), ((), ((), ((), ((), ((), ((), ((), ((), ((), ((), ((), ((), ((), ((), ((), ((), ((), ((), ((), ((), ((), ((), ((), ((), ((), ((), ((), ((), ((), ((), ((), ((), ((), ((), ((), ((), ((), ((), ((), ((), ((), ((), ((), ((), ((), ((), ((), ((), ((), ((), ((), ((), ((), ((), ((), ((), ((), ((), ((), ((), ((), ((), ((), ((), ((), ((), ((), ((), ((), ((), ((), ((), ((), ((), ((), ((), ((), ((), ((), ((), ((), ((), ((), ((), ((), ((), ((), ((), ((), ((), ((), ((), ((), ())))))))))))))))))))))))))))))))))))))))))))))))))))))))))))))))))))))))))))))))))))))))))))))) (b0.1, (b0.2, ()))))
  pre := fun d o => cutroomlaw03_joined_L4_pre d.1 d.2.1 d.2.2.2.2.2.2.2.2.2.1 o.1 o.2.1
  mu := fun d o => cutroomlaw03_joined_L4_mu d.1 d.2.1 d.2.2.2.2.2.2.2.2.2.1 o.1 o.2.1
  S := fun d o => cutroomlaw03_joined_L4_S d.1 d.2.1 d.2.2.2.2.2.2.2.2.2.1 o.1 o.2.1
  T := fun rec ex d o => cutroomlaw03_joined_L4_T d.1 d.2.1 (fun v0 v1 v2 => rec (d.1, (d.2.1, ((), ((), ((), ((), ((), ((), ((), (v0, ((), ((), ((), ((), ((), ((), ((), ((), ((), ((), ((), ((), ((), ((), ((), ((), ((), ((), ((), ((), ((), ((), ((), ((), ((), ((), ((), ((), ((), ((), ((), ((), ((), ((), ((), ((), ((), ((), ((), ((), ((), ((), ((), ((), ((), ((), ((), ((), ((), ((), ((), ((), ((), ((), ((), ((), ((), ((), ((), ((), ((), ((), ((), ((), ((), ((), ((), ((), ((), ((), ((), ((), ((), ((), ((), ((), ((), ((), ((), ((), ((), ((), ((), ((), ())))))))))))))))))))))))))))))))))))))))))))))))))))))))))))))))))))))))))))))))))))))))))))))) (v1, (v2, ()))) (fun e0 e1 e2 e3 e4 => ex (.inl (e0, e1, e2, e3, e4))) (fun e0 e1 => ex (.inr (e0, e1))) d.2.2.2.2.2.2.2.2.2.1 o.1 o.2.1
  hn := rfl
  hT := fun _ _ _ _ => by kernel_rfl
  hx := fun d o x => match x with | .inl z => ⟨.ret, _, nofun, fun _ _ => rfl⟩ | .inr z => ⟨(.exit 0), _, nofun, fun _ _ => rfl⟩
  hS := fun d o hd ho hp R rec ex Good hr hx => cutroomlaw03_joined_L4_ok d.1 d.2.1 d.2.2.2.2.2.2.2.2.2.1 o.1 o.2.1 hd.1 hd.2.1 hd.2.2.2.2.2.2.2.2.2.1 ho.1 ho.2.1 hp (fun v0 v1 v2 => rec (d.1, (d.2.1, ((), ((), ((), ((), ((), ((), ((), (v0, ((), ((), ((), ((), ((), ((), ((), ((), ((), ((), ((), ((), ((), ((), ((), ((), ((), ((), ((), ((), ((), ((), ((), ((), ((), ((), ((), ((), ((), ((), ((), ((), ((), ((), ((), ((), ((), ((), ((), ((), ((), ((), ((), ((), ((), ((), ((), ((), ((), ((), ((), ((), ((), ((), ((), ((), ((), ((), ((), ((), ((), ((), ((), ((), ((), ((), ((), ((), ((), ((), ((), ((), ((), ((), ((), ((), ((), ((), ((), ((), ((), ((), ((), ((), ())))))))))))))))))))))))))))))))))))))))))))))))))))))))))))))))))))))))))))))))))))))))))))))) (v1, (v2, ()))) (fun e0 e1 e2 e3 e4 => ex (.inl (e0, e1, e2, e3, e4))) (fun e0 e1 => ex (.inr (e0, e1))) Good
    (fun v0 v1 v2 h1 h2 h3 => hr (d.1, (d.2.1, ((), ((), ((), ((), ((), ((), ((), (v0, ((), ((), ((), ((), ((), ((), ((), ((), ((), ((), ((), ((), ((), ((), ((), ((), ((), ((), ((), ((), ((), ((), ((), ((), ((), ((), ((), ((), ((), ((), ((), ((), ((), ((), ((), ((), ((), ((), ((), ((), ((), ((), ((), ((), ((), ((), ((), ((), ((), ((), ((), ((), ((), ((), ((), ((), ((), ((), ((), ((), ((), ((), ((), ((), ((), ((), ((), ((), ((), ((), ((), ((), ((), ((), ((), ((), ((), ((), ((), ((), ((), ((), ((), ((), ())))))))))))))))))))))))))))))))))))))))))))))))))))))))))))))))))))))))))))))))))))))))))))))) (v1, (v2, ())) (fun _ _ _ => by kernel_rfl) (cast (by kernel_rfl) h1) (cast (by kernel_rfl) h2) (cast (by kernel_rfl) h3))
    (fun e0 e1 e2 e3 e4 he => (show Good (ex (.inl (e0, e1, e2, e3, e4))) from he ▸ hx))
    (fun e0 e1 he => (show Good (ex (.inr (e0, e1))) from he ▸ hx))
theorem cutroomlaw03_joined_L4_snd (h : CtxOK Try.prog C23) : LoopS Try.prog (getLoop Try.f23 4) cutroomlaw03_joined_L4.G := cutroomlaw03_joined_L4.sound h (cutroomlaw03_joined_L4_lok h)
noncomputable def cutroomlaw03_joined_L14_LP : Loops := (addL (addL noLoops 1048584 cutroomlaw03_joined_J8.G) 4 cutroomlaw03_joined_L4.G)
theorem cutroomlaw03_joined_L14_lok (_h : CtxOK Try.prog C23) : LOK Try.prog cutroomlaw03_joined_L14_LP (getLoop Try.f23 14) := LOK_list (l := []) (by kernel_rfl) trivial
abbrev cutroomlaw03_joined_L14_sh : List SD × OSh := ([.dead, .dead, .dead, .dead, .dead, .dead, .dead, .sl 176, .sl 192, .dead, .dead, .dead, .v true (.int .i64), .dead, .dead, .dead, .dead, .dead, .dead, .dead, .dead, .dead, .dead, .dead, .dead, .dead, .dead, .dead, .dead, .dead, .dead, .dead, .dead, .dead, .dead, .dead, .dead, .dead, .dead, .dead, .dead, .dead, .dead, .dead, .dead, .dead, .dead, .dead, .dead, .dead, .dead, .dead, .dead, .dead, .dead, .dead, .dead, .dead, .dead, .dead, .dead, .dead, .dead, .dead, .dead, .dead, .dead, .dead, .dead, .dead, .dead, .dead, .dead, .dead, .dead, .dead, .dead, .dead, .dead, .dead, .dead, .dead, .dead, .dead, .dead, .dead, .dead, .dead, .dead, .dead, .dead, .dead, .dead, .dead], [(176, .arr true (.int .u8)), (192, .arr false T_startcode_Found)])
abbrev cutroomlaw03_joined_L14_x0 : List SD × OSh := ([.dead, .dead, .dead, .dead, .dead, .dead, .dead, .sl 176, .sl 192, .dead, .dead, .dead, .dead, .dead, .dead, .dead, .dead, .dead, .dead, .dead, .dead, .dead, .dead, .dead, .dead, .dead, .dead, .dead, .dead, .dead, .dead, .dead, .dead, .dead, .dead, .dead, .dead, .dead, .dead, .dead, .dead, .dead, .dead, .dead, .dead, .dead, .dead, .dead, .dead, .dead, .dead, .dead, .dead, .dead, .dead, .dead, .dead, .dead, .dead, .dead, .dead, .dead, .dead, .dead, .dead, .dead, .dead, .dead, .dead, .dead, .dead, .dead, .dead, .dead, .dead, .dead, .dead, .dead, .dead, .dead, .dead, .dead, .dead, .dead, .dead, .dead, .dead, .dead, .dead, .dead, .dead, .dead, .dead, .dead], [(176, .arr true (.int .u8)), (192, .arr false T_startcode_Found)])
noncomputable def cutroomlaw03_joined_L14 : LoopK C23 cutroomlaw03_joined_M cutroomlaw03_joined_L14_LP (getLoop Try.f23 14) where
  sh := cutroomlaw03_joined_L14_sh
  X := List D_startcode_Found
  go := fun d o x k => k (.exit 2) (mkS cutroomlaw03_joined_L14_x0 ((), ((), ((), ((), ((), ((), ((), ((), ((), ((), ((), ((), ((), ((), ((), ((), ((), ((), ((), ((), ((), ((), ((), ((), ((), ((), ((), ((), ((), ((), ((), ((), ((), ((), ((), ((), ((), ((), ((), ((), ((), ((), ((), ((), ((), ((), ((), ((), ((), ((), ((), ((), ((), ((), ((), ((), ((), ((), ((), ((), ((), ((), ((), ((), ((), ((), ((), ((), ((), ((), ((), ((), ((), ((), ((), ((), ((), ((), ((), ((), ((), ((), ((), ((), ((), ((), ((), ((), ((), ((), ((), ((), ((), ((), ())))))))))))))))))))))))))))))))))))))))))))))))))))))))))))))))))))))))))))))))))))))))))))))) (o.1, (x, ())))
  pre := fun d o => cutroomlaw03_joined_L14_pre o.1 d.2.2.2.2.2.2.2.2.2.2.2.2.1 o.2.1
  mu := fun d o => cutroomlaw03_joined_L14_mu o.1 d.2.2.2.2.2.2.2.2.2.2.2.2.1 o.2.1
  S := fun d o => cutroomlaw03_joined_L14_S o.1 d.2.2.2.2.2.2.2.2.2.2.2.2.1 o.2.1
  T := fun rec ex d o => cutroomlaw03_joined_L14_T o.1 (fun v0 v1 => rec ((), ((), ((), ((), ((), ((), ((), ((), ((), ((), ((), ((), (v0, ((), ((), ((), ((), ((), ((), ((), ((), ((), ((), ((), ((), ((), ((), ((), ((), ((), ((), ((), ((), ((), ((), ((), ((), ((), ((), ((), ((), ((), ((), ((), ((), ((), ((), ((), ((), ((), ((), ((), ((), ((), ((), ((), ((), ((), ((), ((), ((), ((), ((), ((), ((), ((), ((), ((), ((), ((), ((), ((), ((), ((), ((), ((), ((), ((), ((), ((), ((), ((), ((), ((), ((), ((), ((), ((), ((), ((), ((), ((), ((), ((), ())))))))))))))))))))))))))))))))))))))))))))))))))))))))))))))))))))))))))))))))))))))))))))))) (o.1, (v1, ()))) (fun e0 => ex e0) d.2.2.2.2.2.2.2.2.2.2.2.2.1 o.2.1
  hn := rfl
  hT := fun _ _ _ _ => by kernel_rfl
  hx := fun d o x => ⟨(.exit 2), _, nofun, fun _ _ => rfl⟩
  hS := fun d o hd ho hp R rec ex Good hr hx => cutroomlaw03_joined_L14_ok o.1 d.2.2.2.2.2.2.2.2.2.2.2.2.1 o.2.1 hd.2.2.2.2.2.2.2.2.2.2.2.2.1 ho.1 ho.2.1 hp (fun v0 v1 => rec ((), ((), ((), ((), ((), ((), ((), ((), ((), ((), ((), ((), (v0, ((), ((), ((), ((), ((), ((), ((), ((), ((), ((), ((), ((), ((), ((), ((), ((), ((), ((), ((), ((), ((), ((), ((), ((), ((), ((), ((), ((), ((), ((), ((), ((), ((), ((), ((), ((), ((), ((), ((), ((), ((), ((), ((), ((), ((), ((), ((), ((), ((), ((), ((), ((), ((), ((), ((), ((), ((), ((), ((), ((), ((), ((), ((), ((), ((), ((), ((), ((), ((), ((), ((), ((), ((), ((), ((), ((), ((), ((), ((), ((), ((), ())))))))))))))))))))))))))))))))))))))))))))))))))))))))))))))))))))))))))))))))))))))))))))))) (o.1, (v1, ()))) (fun e0 => ex e0) Good
    (fun v0 v1 h1 h2 h3 => hr ((), ((), ((), ((), ((), ((), ((), ((), ((), ((), ((), ((), (v0, ((), ((), ((), ((), ((), ((), ((), ((), ((), ((), ((), ((), ((), ((), ((), ((), ((), ((), ((), ((), ((), ((), ((), ((), ((), ((), ((), ((), ((), ((), ((), ((), ((), ((), ((), ((), ((), ((), ((), ((), ((), ((), ((), ((), ((), ((), ((), ((), ((), ((), ((), ((), ((), ((), ((), ((), ((), ((), ((), ((), ((), ((), ((), ((), ((), ((), ((), ((), ((), ((), ((), ((), ((), ((), ((), ((), ((), ((), ((), ((), ((), ())))))))))))))))))))))))))))))))))))))))))))))))))))))))))))))))))))))))))))))))))))))))))))))) (o.1, (v1, ())) (fun _ _ _ => by kernel_rfl) (cast (by kernel_rfl) h1) (cast (by kernel_rfl) h2) (cast (by kernel_rfl) h3))
    (fun e0 he => (show Good (ex e0) from he ▸ hx))
theorem cutroomlaw03_joined_L14_snd (h : CtxOK Try.prog C23) : LoopS Try.prog (getLoop Try.f23 14) cutroomlaw03_joined_L14.G := cutroomlaw03_joined_L14.sound h (cutroomlaw03_joined_L14_lok h)
noncomputable def cutroomlaw03_joined_LP : Loops := (addL (addL (addL noLoops 1048584 cutroomlaw03_joined_J8.G) 4 cutroomlaw03_joined_L4.G) 14 cutroomlaw03_joined_L14.G)
theorem cutroomlaw03_joined_lok (h : CtxOK Try.prog C23) : LOK Try.prog cutroomlaw03_joined_LP (Try.f23.body.getD .skip) := LOK_list (l := [(false, getLoop Try.f23 4, cutroomlaw03_joined_L4.G), (false, getLoop Try.f23 14, cutroomlaw03_joined_L14.G)]) (by kernel_rfl) ⟨cutroomlaw03_joined_L4_snd h, ⟨cutroomlaw03_joined_L14_snd h, trivial⟩⟩
noncomputable def cutroomlaw03_joined : FnK C23 cutroomlaw03_joined_M cutroomlaw03_joined_LP [none, none, none] Try.f23 where
  sh := [.v false (.sl T_api_Unit), .v false (.sl (.int .i64))]
  osh := []
  rsh := [.sl 0, .sl 1, .v true .bool]
  rosh := [(0, .arr true (.int .u8)), (1, .arr false T_startcode_Found)]
  pre := fun d o => cutroomlaw03_joined_pre d.1 d.2.1
  S := fun d o => (((), ((), ((cutroomlaw03_joined_S d.1 d.2.1).1, ()))), ((cutroomlaw03_joined_S d.1 d.2.1).2.1, ((cutroomlaw03_joined_S d.1 d.2.1).2.2, ())))
  F := fun k d o => cutroomlaw03_joined_F (fun v0 v1 v2 => k ((), ((), (v0, ()))) (v1, (v2, ()))) d.1 d.2.1
  hn := rfl
  hF := fun _ _ _ _ => by kernel_rfl
  hS := fun d o hd ho hp R k => cutroomlaw03_joined_ok d.1 d.2.1 hd.1 hd.2.1 hp (fun v0 v1 v2 => k ((), ((), (v0, ()))) (v1, (v2, ()))) (fun z => z = k ((), ((), ((cutroomlaw03_joined_S d.1 d.2.1).1, ()))) ((cutroomlaw03_joined_S d.1 d.2.1).2.1, ((cutroomlaw03_joined_S d.1 d.2.1).2.2, ()))) rfl
theorem cutroomlaw03_joined_snd (h : CtxOK Try.prog C23) : Sound Try.prog 23 cutroomlaw03_joined.G := cutroomlaw03_joined.sound h rfl (body_LOK (cutroomlaw03_joined_lok h))
noncomputable def C24 : Ctx := addF C23 23 cutroomlaw03_joined.G
theorem C24_ok : CtxOK Try.prog C24 := C23_ok.add (cutroomlaw03_joined_snd C23_ok) Try.f23 rfl (by kernel_rfl) rfl

def cutroomlaw03_StartcodeBack_mt : List (Nat × Nat × List Nat) := [(1, 3, []), (3, 3, []), (4, 224, [352, 353]), (6, 96, [352, 353]), (7, 832, [353, 480, 481]), (9, 320, [353, 480]), (10, 1344, [353, 480]), (11, 1344, [353, 480]), (12, 1344, [353, 480]), (14, 0, []), (999999, 16, []), (1000000, 0, [])]
def cutroomlaw03_StartcodeBack_M : Masks := maskOf cutroomlaw03_StartcodeBack_mt
noncomputable def cutroomlaw03_StartcodeBack_L10_LP : Loops := noLoops
theorem cutroomlaw03_StartcodeBack_L10_lok (_h : CtxOK Try.prog C24) : LOK Try.prog cutroomlaw03_StartcodeBack_L10_LP (getLoop Try.f8 10) := LOK_list (l := []) (by kernel_rfl) trivial
abbrev cutroomlaw03_StartcodeBack_L10_sh : List SD × OSh := ([.dead, .dead, .dead, .dead, .dead, .dead, .sl 353, .dead, .sl 480, .dead, .v true (.int .i64), .dead, .dead, .dead, .dead, .dead, .dead, .dead, .dead, .dead, .dead, .dead, .dead, .dead, .dead, .dead, .dead, .dead, .dead, .dead, .dead, .dead, .dead, .dead, .dead, .dead, .dead, .dead, .dead, .dead, .dead, .dead, .dead, .dead, .dead, .dead, .dead, .dead, .dead, .dead, .dead, .dead, .dead, .dead, .dead, .dead], [(353, .arr false T_startcode_Found), (480, .arr true T_startcode_Found)])
abbrev cutroomlaw03_StartcodeBack_L10_x0 : List SD × OSh := ([.dead, .dead, .dead, .dead, .v true .bool, .dead, .dead, .dead, .dead, .dead, .dead, .dead, .dead, .dead, .dead, .dead, .dead, .dead, .dead, .dead, .dead, .dead, .dead, .dead, .dead, .dead, .dead, .dead, .dead, .dead, .dead, .dead, .dead, .dead, .dead, .dead, .dead, .dead, .dead, .dead, .dead, .dead, .dead, .dead, .dead, .dead, .dead, .dead, .dead, .dead, .dead, .dead, .dead, .dead, .dead, .dead], [])
abbrev cutroomlaw03_StartcodeBack_L10_x1 : List SD × OSh := ([.dead, .dead, .dead, .dead, .dead, .dead, .dead, .dead, .dead, .dead, .dead, .dead, .dead, .dead, .dead, .dead, .dead, .dead, .dead, .dead, .dead, .dead, .dead, .dead, .dead, .dead, .dead, .dead, .dead, .dead, .dead, .dead, .dead, .dead, .dead, .dead, .dead, .dead, .dead, .dead, .dead, .dead, .dead, .dead, .dead, .dead, .dead, .dead, .dead, .dead, .dead, .dead, .dead, .dead, .dead, .dead], [])
noncomputable def cutroomlaw03_StartcodeBack_L10 : LoopK C24 cutroomlaw03_StartcodeBack_M cutroomlaw03_StartcodeBack_L10_LP (getLoop Try.f8 10) where
  sh := cutroomlaw03_StartcodeBack_L10_sh
  X := (Bool) ⊕ (Unit)
  go := fun d o x k => caseS x (fun a0 => k .ret (mkS cutroomlaw03_StartcodeBack_L10_x0 ((), ((), ((), ((), (a0, ((), ((), ((), ((), ((), ((), ((), ((), ((), ((), ((), ((), ((), ((), ((), ((), ((), ((), ((), ((), ((), ((), ((), ((), ((), ((), ((), ((), ((), ((), ((), ((), ((), ((), ((), ((), ((), ((), ((), ((), ((), ((), ((), ((), ((), ((), ((), ((), ((), ((), ((), ())))))))))))))))))))))))))))))))))))))))))))))))))))))))) ())) (fun b0 => k (.exit 0) (mkS cutroomlaw03_StartcodeBack_L10_x1 ((), ((), ((), ((), ((), ((), ((), ((), ((), ((), ((), ((), ((), ((), ((), ((), ((), ((), ((), ((), ((), ((), ((), ((), ((), ((), ((), ((), ((), ((), ((), ((), ((), ((), ((), ((), ((), ((), ((), ((), ((), ((), ((), ((), ((), ((), ((), ((), ((), ((), ((), ((), ((), ((), ((), ((), ())))))))))))))))))))))))))))))))))))))))))))))))))))))))) ()))
  pre := fun d o => cutroomlaw03_StartcodeBack_L10_pre o.1 o.2.1 d.2.2.2.2.2.2.2.2.2.2.1
  mu := fun d o => cutroomlaw03_StartcodeBack_L10_mu o.1 o.2.1 d.2.2.2.2.2.2.2.2.2.2.1
  S := fun d o => cutroomlaw03_StartcodeBack_L10_S o.1 o.2.1 d.2.2.2.2.2.2.2.2.2.2.1
  T := fun rec ex d o => cutroomlaw03_StartcodeBack_L10_T o.1 o.2.1 (fun v0 => rec ((), ((), ((), ((), ((), ((), ((), ((), ((), ((), (v0, ((), ((), ((), ((), ((), ((), ((), ((), ((), ((), ((), ((), ((), ((), ((), ((), ((), ((), ((), ((), ((), ((), ((), ((), ((), ((), ((), ((), ((), ((), ((), ((), ((), ((), ((), ((), ((), ((), ((), ((), ((), ((), ((), ((), ((), ())))))))))))))))))))))))))))))))))))))))))))))))))))))))) (o.1, (o.2.1, ()))) (fun e0 => ex (.inl e0)) (fun _ => ex (.inr ())) d.2.2.2.2.2.2.2.2.2.2.1
  hn := rfl
  hT := fun _ _ _ _ => by kernel_rfl
  hx := fun d o x => match x with | .inl z => ⟨.ret, _, nofun, fun _ _ => rfl⟩ | .inr z => ⟨(.exit 0), _, nofun, fun _ _ => rfl⟩
  hS := fun d o hd ho hp R rec ex Good hr hx => cutroomlaw03_StartcodeBack_L10_ok o.1 o.2.1 d.2.2.2.2.2.2.2.2.2.2.1 hd.2.2.2.2.2.2.2.2.2.2.1 ho.1 ho.2.1 hp (fun v0 => rec ((), ((), ((), ((), ((), ((), ((), ((), ((), ((), (v0, ((), ((), ((), ((), ((), ((), ((), ((), ((), ((), ((), ((), ((), ((), ((), ((), ((), ((), ((), ((), ((), ((), ((), ((), ((), ((), ((), ((), ((), ((), ((), ((), ((), ((), ((), ((), ((), ((), ((), ((), ((), ((), ((), ((), ((), ())))))))))))))))))))))))))))))))))))))))))))))))))))))))) (o.1, (o.2.1, ()))) (fun e0 => ex (.inl e0)) (fun _ => ex (.inr ())) Good
    (fun v0 h1 h2 h3 => hr ((), ((), ((), ((), ((), ((), ((), ((), ((), ((), (v0, ((), ((), ((), ((), ((), ((), ((), ((), ((), ((), ((), ((), ((), ((), ((), ((), ((), ((), ((), ((), ((), ((), ((), ((), ((), ((), ((), ((), ((), ((), ((), ((), ((), ((), ((), ((), ((), ((), ((), ((), ((), ((), ((), ((), ((), ())))))))))))))))))))))))))))))))))))))))))))))))))))))))) (o.1, (o.2.1, ())) (fun _ _ _ => by kernel_rfl) (cast (by kernel_rfl) h1) (cast (by kernel_rfl) h2) (cast (by kernel_rfl) h3))
    (fun e0 he => (show Good (ex (.inl e0)) from he ▸ hx))
    (fun he => (show Good (ex (.inr ())) from he ▸ hx))
theorem cutroomlaw03_StartcodeBack_L10_snd (h : CtxOK Try.prog C24) : LoopS Try.prog (getLoop Try.f8 10) cutroomlaw03_StartcodeBack_L10.G := cutroomlaw03_StartcodeBack_L10.sound h (cutroomlaw03_StartcodeBack_L10_lok h)
noncomputable def cutroomlaw03_StartcodeBack_LP : Loops := (addL noLoops 10 cutroomlaw03_StartcodeBack_L10.G)
theorem cutroomlaw03_StartcodeBack_lok (h : CtxOK Try.prog C24) : LOK Try.prog cutroomlaw03_StartcodeBack_LP (Try.f8.body.getD .skip) := LOK_list (l := [(false, getLoop Try.f8 10, cutroomlaw03_StartcodeBack_L10.G)]) (by kernel_rfl) ⟨cutroomlaw03_StartcodeBack_L10_snd h, trivial⟩
noncomputable def cutroomlaw03_StartcodeBack : FnK C24 cutroomlaw03_StartcodeBack_M cutroomlaw03_StartcodeBack_LP [none] Try.f8 where
  sh := [.v false (.sl T_api_Unit), .v false (.sl (.int .i64))]
  osh := []
  rsh := [.v true .bool]
  rosh := []
  pre := fun d o => cutroomlaw03_StartcodeBack_pre d.1 d.2.1
  S := fun d o => (((cutroomlaw03_StartcodeBack_S d.1 d.2.1), ()), ())
  F := fun k d o => cutroomlaw03_StartcodeBack_F (fun v0 => k (v0, ()) ()) d.1 d.2.1
  hn := rfl
  hF := fun _ _ _ _ => by kernel_rfl
  hS := fun d o hd ho hp R k => cutroomlaw03_StartcodeBack_ok d.1 d.2.1 hd.1 hd.2.1 hp (fun v0 => k (v0, ()) ()) (fun z => z = k ((cutroomlaw03_StartcodeBack_S d.1 d.2.1), ()) ()) rfl
theorem cutroomlaw03_StartcodeBack_snd (h : CtxOK Try.prog C24) : Sound Try.prog 8 cutroomlaw03_StartcodeBack.G := cutroomlaw03_StartcodeBack.sound h rfl (body_LOK (cutroomlaw03_StartcodeBack_lok h))
noncomputable def C25 : Ctx := addF C24 8 cutroomlaw03_StartcodeBack.G
theorem C25_ok : CtxOK Try.prog C25 := C24_ok.add (cutroomlaw03_StartcodeBack_snd C24_ok) Try.f8 rfl (by kernel_rfl) rfl

def cutroomlaw03_StartcodeResync_mt : List (Nat × Nat × List Nat) := [(1, 3, []), (3, 3, []), (4, 225, [512, 513]), (6, 97, [512, 513]), (7, 321, [513, 704]), (9, 321, [513, 704]), (10, 321, [513, 704]), (11, 1345, [513, 704]), (12, 1345, [513, 704]), (13, 1345, [513, 704]), (14, 3393, [240, 513, 704]), (15, 3393, [240, 513, 704]), (17, 0, []), (999999, 16, []), (1000000, 0, [])]
def cutroomlaw03_StartcodeResync_M : Masks := maskOf cutroomlaw03_StartcodeResync_mt
noncomputable def cutroomlaw03_StartcodeResync_L11_LP : Loops := noLoops
theorem cutroomlaw03_StartcodeResync_L11_lok (_h : CtxOK Try.prog C25) : LOK Try.prog cutroomlaw03_StartcodeResync_L11_LP (getLoop Try.f9 11) := LOK_list (l := []) (by kernel_rfl) trivial
abbrev cutroomlaw03_StartcodeResync_L11_sh : List SD × OSh := ([.v false (.sl (.int .u8)), .dead, .dead, .dead, .dead, .dead, .sl 513, .dead, .sub 704, .dead, .v true (.int .i64), .dead, .dead, .dead, .dead, .dead, .dead, .dead, .dead, .dead, .dead, .dead, .dead, .dead, .dead, .dead, .dead, .dead, .dead, .dead, .dead, .dead, .dead, .dead, .dead, .dead, .dead, .dead, .dead, .dead, .dead, .dead, .dead, .dead, .dead, .dead, .dead, .dead, .dead, .dead, .dead, .dead, .dead, .dead, .dead, .dead, .dead, .dead, .dead, .dead, .dead, .dead, .dead, .dead, .dead, .dead, .dead, .dead, .dead, .dead, .dead, .dead, .dead, .dead, .dead, .dead, .dead, .dead, .dead, .dead, .dead, .dead, .dead, .dead, .dead, .dead, .dead, .dead, .dead, .dead, .dead], [(513, .arr false T_startcode_Found), (704, .arr true T_startcode_Found)])
abbrev cutroomlaw03_StartcodeResync_L11_x0 : List SD × OSh := ([.dead, .dead, .dead, .dead, .v true .bool, .dead, .dead, .dead, .dead, .dead, .dead, .dead, .dead, .dead, .dead, .dead, .dead, .dead, .dead, .dead, .dead, .dead, .dead, .dead, .dead, .dead, .dead, .dead, .dead, .dead, .dead, .dead, .dead, .dead, .dead, .dead, .dead, .dead, .dead, .dead, .dead, .dead, .dead, .dead, .dead, .dead, .dead, .dead, .dead, .dead, .dead, .dead, .dead, .dead, .dead, .dead, .dead, .dead, .dead, .dead, .dead, .dead, .dead, .dead, .dead, .dead, .dead, .dead, .dead, .dead, .dead, .dead, .dead, .dead, .dead, .dead, .dead, .dead, .dead, .dead, .dead, .dead, .dead, .dead, .dead, .dead, .dead, .dead, .dead, .dead, .dead], [])
abbrev cutroomlaw03_StartcodeResync_L11_x1 : List SD × OSh := ([.dead, .dead, .dead, .dead, .dead, .dead, .dead, .dead, .dead, .dead, .dead, .dead, .dead, .dead, .dead, .dead, .dead, .dead, .dead, .dead, .dead, .dead, .dead, .dead, .dead, .dead, .dead, .dead, .dead, .dead, .dead, .dead, .dead, .dead, .dead, .dead, .dead, .dead, .dead, .dead, .dead, .dead, .dead, .dead, .dead, .dead, .dead, .dead, .dead, .dead, .dead, .dead, .dead, .dead, .dead, .dead, .dead, .dead, .dead, .dead, .dead, .dead, .dead, .dead, .dead, .dead, .dead, .dead, .dead, .dead, .dead, .dead, .dead, .dead, .dead, .dead, .dead, .dead, .dead, .dead, .dead, .dead, .dead, .dead, .dead, .dead, .dead, .dead, .dead, .dead, .dead], [])
noncomputable def cutroomlaw03_StartcodeResync_L11 : LoopK C25 cutroomlaw03_StartcodeResync_M cutroomlaw03_StartcodeResync_L11_LP (getLoop Try.f9 11) where
  sh := cutroomlaw03_StartcodeResync_L11_sh
  X := (Bool) ⊕ (Unit)
  go := fun d o x k => caseS x (fun a0 => k .ret (mkS cutroomlaw03_StartcodeResync_L11_x0 ((), ((), ((), ((), (a0, ((), ((), ((), ((), ((), ((), ((), ((), ((), ((), ((), ((), ((), ((), ((), ((), ((), ((), ((), ((), ((), ((), ((), ((), ((), ((), ((), ((), ((), ((), ((), ((), ((), ((), ((), ((), ((), ((), ((), ((), ((), ((), ((), ((), ((), ((), ((), ((), ((), ((), ((), ((), ((), ((), ((), ((), ((), ((), ((), ((), ((), ((), ((), ((), ((), ((), ((), ((), ((), ((), ((), ((), ((), ((), ((), ((), ((), ((), ((), ((), ((), ((), ((), ((), ((), ((), ()))))))))))))))))))))))))))))))))))))))))))))))))))))))))))))))))))))))))))))))))))))))))))) ())) (fun b0 => k (.exit 0) (mkS cutroomlaw03_StartcodeResync_L11_x1 ((), ((), ((), ((), ((), ((), ((), ((), ((), ((), ((), ((), ((), ((), ((), ((), ((), ((), ((), ((), ((), ((), ((), ((), ((), ((), ((), ((), ((), ((), ((), ((), ((), ((), ((), ((), ((), ((), ((), ((), ((), ((), ((), ((), ((), ((), ((), ((), ((), ((), ((), ((), ((), ((), ((), ((), ((), ((), ((), ((), ((), ((), ((), ((), ((), ((), ((), ((), ((), ((), ((), ((), ((), ((), ((), ((), ((), ((), ((), ((), ((), ((), ((), ((), ((), ((), ((), ((), ((), ((), ((), ()))))))))))))))))))))))))))))))))))))))))))))))))))))))))))))))))))))))))))))))))))))))))))) ()))
  pre := fun d o => cutroomlaw03_StartcodeResync_L11_pre d.1 d.2.2.2.2.2.2.2.2.1.1 d.2.2.2.2.2.2.2.2.1.2 o.1 o.2.1 d.2.2.2.2.2.2.2.2.2.2.1
  mu := fun d o => cutroomlaw03_StartcodeResync_L11_mu d.1 d.2.2.2.2.2.2.2.2.1.1 d.2.2.2.2.2.2.2.2.1.2 o.1 o.2.1 d.2.2.2.2.2.2.2.2.2.2.1
  S := fun d o => cutroomlaw03_StartcodeResync_L11_S d.1 d.2.2.2.2.2.2.2.2.1.1 d.2.2.2.2.2.2.2.2.1.2 o.1 o.2.1 d.2.2.2.2.2.2.2.2.2.2.1
  T := fun rec ex d o => cutroomlaw03_StartcodeResync_L11_T d.1 d.2.2.2.2.2.2.2.2.1.1 d.2.2.2.2.2.2.2.2.1.2 o.1 o.2.1 (fun v0 => rec (d.1, ((), ((), ((), ((), ((), ((), ((), ((d.2.2.2.2.2.2.2.2.1.1, d.2.2.2.2.2.2.2.2.1.2), ((), (v0, ((), ((), ((), ((), ((), ((), ((), ((), ((), ((), ((), ((), ((), ((), ((), ((), ((), ((), ((), ((), ((), ((), ((), ((), ((), ((), ((), ((), ((), ((), ((), ((), ((), ((), ((), ((), ((), ((), ((), ((), ((), ((), ((), ((), ((), ((), ((), ((), ((), ((), ((), ((), ((), ((), ((), ((), ((), ((), ((), ((), ((), ((), ((), ((), ((), ((), ((), ((), ((), ((), ((), ((), ((), ((), ((), ((), ((), ((), ((), ((), ()))))))))))))))))))))))))))))))))))))))))))))))))))))))))))))))))))))))))))))))))))))))))))) (o.1, (o.2.1, ()))) (fun e0 => ex (.inl e0)) (fun _ => ex (.inr ())) d.2.2.2.2.2.2.2.2.2.2.1
  hn := rfl
  hT := fun _ _ _ _ => by kernel_rfl
  hx := fun d o x => match x with | .inl z => ⟨.ret, _, nofun, fun _ _ => rfl⟩ | .inr z => ⟨(.exit 0), _, nofun, fun _ _ => rfl⟩
  hS := fun d o hd ho hp R rec ex Good hr hx => cutroomlaw03_StartcodeResync_L11_ok d.1 d.2.2.2.2.2.2.2.2.1.1 d.2.2.2.2.2.2.2.2.1.2 o.1 o.2.1 d.2.2.2.2.2.2.2.2.2.2.1 hd.1 hd.2.2.2.2.2.2.2.2.2.2.1 ho.1 ho.2.1 hp (fun v0 => rec (d.1, ((), ((), ((), ((), ((), ((), ((), ((d.2.2.2.2.2.2.2.2.1.1, d.2.2.2.2.2.2.2.2.1.2), ((), (v0, ((), ((), ((), ((), ((), ((), ((), ((), ((), ((), ((), ((), ((), ((), ((), ((), ((), ((), ((), ((), ((), ((), ((), ((), ((), ((), ((), ((), ((), ((), ((), ((), ((), ((), ((), ((), ((), ((), ((), ((), ((), ((), ((), ((), ((), ((), ((), ((), ((), ((), ((), ((), ((), ((), ((), ((), ((), ((), ((), ((), ((), ((), ((), ((), ((), ((), ((), ((), ((), ((), ((), ((), ((), ((), ((), ((), ((), ((), ((), ((), ()))))))))))))))))))))))))))))))))))))))))))))))))))))))))))))))))))))))))))))))))))))))))))) (o.1, (o.2.1, ()))) (fun e0 => ex (.inl e0)) (fun _ => ex (.inr ())) Good
    (fun v0 h1 h2 h3 => hr (d.1, ((), ((), ((), ((), ((), ((), ((), ((d.2.2.2.2.2.2.2.2.1.1, d.2.2.2.2.2.2.2.2.1.2), ((), (v0, ((), ((), ((), ((), ((), ((), ((), ((), ((), ((), ((), ((), ((), ((), ((), ((), ((), ((), ((), ((), ((), ((), ((), ((), ((), ((), ((), ((), ((), ((), ((), ((), ((), ((), ((), ((), ((), ((), ((), ((), ((), ((), ((), ((), ((), ((), ((), ((), ((), ((), ((), ((), ((), ((), ((), ((), ((), ((), ((), ((), ((), ((), ((), ((), ((), ((), ((), ((), ((), ((), ((), ((), ((), ((), ((), ((), ((), ((), ((), ((), ()))))))))))))))))))))))))))))))))))))))))))))))))))))))))))))))))))))))))))))))))))))))))))) (o.1, (o.2.1, ())) (fun _ _ _ => by kernel_rfl) (cast (by kernel_rfl) h1) (cast (by kernel_rfl) h2) (cast (by kernel_rfl) h3))
    (fun e0 he => (show Good (ex (.inl e0)) from he ▸ hx))
    (fun he => (show Good (ex (.inr ())) from he ▸ hx))
theorem cutroomlaw03_StartcodeResync_L11_snd (h : CtxOK Try.prog C25) : LoopS Try.prog (getLoop Try.f9 11) cutroomlaw03_StartcodeResync_L11.G := cutroomlaw03_StartcodeResync_L11.sound h (cutroomlaw03_StartcodeResync_L11_lok h)
noncomputable def cutroomlaw03_StartcodeResync_LP : Loops := (addL noLoops 11 cutroomlaw03_StartcodeResync_L11.G)
theorem cutroomlaw03_StartcodeResync_lok (h : CtxOK Try.prog C25) : LOK Try.prog cutroomlaw03_StartcodeResync_LP (Try.f9.body.getD .skip) := LOK_list (l := [(false, getLoop Try.f9 11, cutroomlaw03_StartcodeResync_L11.G)]) (by kernel_rfl) ⟨cutroomlaw03_StartcodeResync_L11_snd h, trivial⟩
noncomputable def cutroomlaw03_StartcodeResync : FnK C25 cutroomlaw03_StartcodeResync_M cutroomlaw03_StartcodeResync_LP [none] Try.f9 where
  sh := [.v false (.sl (.int .u8)), .v false (.sl T_api_Unit)]
  osh := []
  rsh := [.v true .bool]
  rosh := []
  pre := fun d o => cutroomlaw03_StartcodeResync_pre d.1 d.2.1
  S := fun d o => (((cutroomlaw03_StartcodeResync_S d.1 d.2.1), ()), ())
  F := fun k d o => cutroomlaw03_StartcodeResync_F (fun v0 => k (v0, ()) ()) d.1 d.2.1
  hn := rfl
  hF := fun _ _ _ _ => by kernel_rfl
  hS := fun d o hd ho hp R k => cutroomlaw03_StartcodeResync_ok d.1 d.2.1 hd.1 hd.2.1 hp (fun v0 => k (v0, ()) ()) (fun z => z = k ((cutroomlaw03_StartcodeResync_S d.1 d.2.1), ()) ()) rfl
theorem cutroomlaw03_StartcodeResync_snd (h : CtxOK Try.prog C25) : Sound Try.prog 9 cutroomlaw03_StartcodeResync.G := cutroomlaw03_StartcodeResync.sound h rfl (body_LOK (cutroomlaw03_StartcodeResync_lok h))
noncomputable def C26 : Ctx := addF C25 9 cutroomlaw03_StartcodeResync.G
theorem C26_ok : CtxOK Try.prog C26 := C25_ok.add (cutroomlaw03_StartcodeResync_snd C25_ok) Try.f9 rfl (by kernel_rfl) rfl

def cutroomlaw03_StartcodeDamage_mt : List (Nat × Nat × List Nat) := [(1, 15, []), (3, 15, []), (4, 3598, [832, 833]), (6, 1550, [832, 833]), (7, 5646, [832, 833]), (9, 5646, [832, 833]), (10, 9738, [832, 833]), (12, 9738, [832, 833]), (13, 1538, [832, 833]), (14, 17410, [833, 1536]), (15, 82946, [833, 1536]), (16, 82946, [833, 1536]), (17, 82946, [833, 1536]), (18, 82946, [833, 1536]), (19, 214018, [833, 1536]), (20, 476162, [833, 1536]), (21, 476162, [833, 1536]), (22, 476162, [833, 1536]), (23, 214018, [833, 1536]), (25, 0, []), (999999, 256, []), (1000000, 0, []), (1000001, 82946, [833, 1536]), (1000002, 214018, [833, 1536])]
def cutroomlaw03_StartcodeDamage_M : Masks := maskOf cutroomlaw03_StartcodeDamage_mt
noncomputable def cutroomlaw03_StartcodeDamage_L20_LP : Loops := noLoops
theorem cutroomlaw03_StartcodeDamage_L20_lok (_h : CtxOK Try.prog C26) : LOK Try.prog cutroomlaw03_StartcodeDamage_L20_LP (getLoop Try.f10 20) := LOK_list (l := []) (by kernel_rfl) trivial
abbrev cutroomlaw03_StartcodeDamage_L20_sh : List SD × OSh := ([.dead, .v true (.int .i64), .dead, .dead, .dead, .dead, .dead, .dead, .dead, .dead, .sl 833, .dead, .dead, .dead, .sl 1536, .dead, .v true (.int .i64), .v true .bool, .v true (.int .i64), .dead, .dead, .dead, .dead, .dead, .dead, .dead, .dead, .dead, .dead, .dead, .dead, .dead, .dead, .dead, .dead, .dead, .dead, .dead, .dead, .dead, .dead, .dead, .dead, .dead, .dead, .dead, .dead, .dead, .dead, .dead, .dead, .dead, .dead, .dead, .dead, .dead, .dead, .dead, .dead, .dead, .dead, .dead, .dead, .dead, .dead, .dead, .dead, .dead, .dead, .dead, .dead, .dead, .dead, .dead, .dead, .dead, .dead, .dead, .dead, .dead, .dead, .dead, .dead, .dead, .dead, .dead, .dead, .dead, .dead, .dead, .dead, .dead, .dead, .dead, .dead, .dead, .dead, .dead, .dead, .dead, .dead, .dead, .dead, .dead, .dead, .dead, .dead, .dead, .dead, .dead, .dead, .dead, .dead, .dead, .dead, .dead, .dead, .dead, .dead, .dead, .dead, .dead, .dead, .dead, .dead], [(833, .arr false T_startcode_Found), (1536, .arr true T_startcode_Found)])
abbrev cutroomlaw03_StartcodeDamage_L20_x0 : List SD × OSh := ([.dead, .v true (.int .i64), .dead, .dead, .dead, .dead, .dead, .dead, .dead, .dead, .sl 833, .dead, .dead, .dead, .sl 1536, .dead, .v true (.int .i64), .v true .bool, .dead, .dead, .dead, .dead, .dead, .dead, .dead, .dead, .dead, .dead, .dead, .dead, .dead, .dead, .dead, .dead, .dead, .dead, .dead, .dead, .dead, .dead, .dead, .dead, .dead, .dead, .dead, .dead, .dead, .dead, .dead, .dead, .dead, .dead, .dead, .dead, .dead, .dead, .dead, .dead, .dead, .dead, .dead, .dead, .dead, .dead, .dead, .dead, .dead, .dead, .dead, .dead, .dead, .dead, .dead, .dead, .dead, .dead, .dead, .dead, .dead, .dead, .dead, .dead, .dead, .dead, .dead, .dead, .dead, .dead, .dead, .dead, .dead, .dead, .dead, .dead, .dead, .dead, .dead, .dead, .dead, .dead, .dead, .dead, .dead, .dead, .dead, .dead, .dead, .dead, .dead, .dead, .dead, .dead, .dead, .dead, .dead, .dead, .dead, .dead, .dead, .dead, .dead, .dead, .dead, .dead, .dead], [(833, .arr false T_startcode_Found), (1536, .arr true T_startcode_Found)])
noncomputable def cutroomlaw03_StartcodeDamage_L20 : LoopK C26 cutroomlaw03_StartcodeDamage_M cutroomlaw03_StartcodeDamage_L20_LP (getLoop Try.f10 20) where
  sh := cutroomlaw03_StartcodeDamage_L20_sh
  X := Bool
  go := fun d o x k => k (.exit 2) (mkS cutroomlaw03_StartcodeDamage_L20_x0 ((), (d.2.1, ((), ((), ((), ((), ((), ((), ((), ((), ((), ((), ((), ((), ((), ((), (d.2.2.2.2.2.2.2.2.2.2.2.2.2.2.2.2.1, (x, ((), ((), ((), ((), ((), ((), ((), ((), ((), ((), ((), ((), ((), ((), ((), ((), ((), ((), ((), ((), ((), ((), ((), ((), ((), ((), ((), ((), ((), ((), ((), ((), ((), ((), ((), ((), ((), ((), ((), ((), ((), ((), ((), ((), ((), ((), ((), ((), ((), ((), ((), ((), ((), ((), ((), ((), ((), ((), ((), ((), ((), ((), ((), ((), ((), ((), ((), ((), ((), ((), ((), ((), ((), ((), ((), ((), ((), ((), ((), ((), ((), ((), ((), ((), ((), ((), ((), ((), ((), ((), ((), ((), ((), ((), ((), ((), ((), ((), ((), ((), ((), ((), ((), ((), ((), ((), ((), ()))))))))))))))))))))))))))))))))))))))))))))))))))))))))))))))))))))))))))))))))))))))))))))))))))))))))))))))))))))))))))))) (o.1, (o.2.1, ())))
  pre := fun d o => cutroomlaw03_StartcodeDamage_L20_pre d.2.1 d.2.2.2.2.2.2.2.2.2.2.2.2.2.2.2.2.1 o.1 o.2.1 d.2.2.2.2.2.2.2.2.2.2.2.2.2.2.2.2.2.1 d.2.2.2.2.2.2.2.2.2.2.2.2.2.2.2.2.2.2.1
  mu := fun d o => cutroomlaw03_StartcodeDamage_L20_mu d.2.1 d.2.2.2.2.2.2.2.2.2.2.2.2.2.2.2.2.1 o.1 o.2.1 d.2.2.2.2.2.2.2.2.2.2.2.2.2.2.2.2.2.1 d.2.2.2.2.2.2.2.2.2.2.2.2.2.2.2.2.2.2.1
  S := fun d o => cutroomlaw03_StartcodeDamage_L20_S d.2.1 d.2.2.2.2.2.2.2.2.2.2.2.2.2.2.2.2.1 o.1 o.2.1 d.2.2.2.2.2.2.2.2.2.2.2.2.2.2.2.2.2.1 d.2.2.2.2.2.2.2.2.2.2.2.2.2.2.2.2.2.2.1
  T := fun rec ex d o => cutroomlaw03_StartcodeDamage_L20_T d.2.1 d.2.2.2.2.2.2.2.2.2.2.2.2.2.2.2.2.1 o.1 o.2.1 (fun v0 v1 => rec ((), (d.2.1, ((), ((), ((), ((), ((), ((), ((), ((), ((), ((), ((), ((), ((), ((), (d.2.2.2.2.2.2.2.2.2.2.2.2.2.2.2.2.1, (v0, (v1, ((), ((), ((), ((), ((), ((), ((), ((), ((), ((), ((), ((), ((), ((), ((), ((), ((), ((), ((), ((), ((), ((), ((), ((), ((), ((), ((), ((), ((), ((), ((), ((), ((), ((), ((), ((), ((), ((), ((), ((), ((), ((), ((), ((), ((), ((), ((), ((), ((), ((), ((), ((), ((), ((), ((), ((), ((), ((), ((), ((), ((), ((), ((), ((), ((), ((), ((), ((), ((), ((), ((), ((), ((), ((), ((), ((), ((), ((), ((), ((), ((), ((), ((), ((), ((), ((), ((), ((), ((), ((), ((), ((), ((), ((), ((), ((), ((), ((), ((), ((), ((), ((), ((), ((), ((), ((), ()))))))))))))))))))))))))))))))))))))))))))))))))))))))))))))))))))))))))))))))))))))))))))))))))))))))))))))))))))))))))))))) (o.1, (o.2.1, ()))) (fun e0 => ex e0) d.2.2.2.2.2.2.2.2.2.2.2.2.2.2.2.2.2.1 d.2.2.2.2.2.2.2.2.2.2.2.2.2.2.2.2.2.2.1
  hn := rfl
  hT := fun _ _ _ _ => by kernel_rfl
  hx := fun d o x => ⟨(.exit 2), _, nofun, fun _ _ => rfl⟩
  hS := fun d o hd ho hp R rec ex Good hr hx => cutroomlaw03_StartcodeDamage_L20_ok d.2.1 d.2.2.2.2.2.2.2.2.2.2.2.2.2.2.2.2.1 o.1 o.2.1 d.2.2.2.2.2.2.2.2.2.2.2.2.2.2.2.2.2.1 d.2.2.2.2.2.2.2.2.2.2.2.2.2.2.2.2.2.2.1 hd.2.1 hd.2.2.2.2.2.2.2.2.2.2.2.2.2.2.2.2.1 hd.2.2.2.2.2.2.2.2.2.2.2.2.2.2.2.2.2.1 hd.2.2.2.2.2.2.2.2.2.2.2.2.2.2.2.2.2.2.1 ho.1 ho.2.1 hp (fun v0 v1 => rec ((), (d.2.1, ((), ((), ((), ((), ((), ((), ((), ((), ((), ((), ((), ((), ((), ((), (d.2.2.2.2.2.2.2.2.2.2.2.2.2.2.2.2.1, (v0, (v1, ((), ((), ((), ((), ((), ((), ((), ((), ((), ((), ((), ((), ((), ((), ((), ((), ((), ((), ((), ((), ((), ((), ((), ((), ((), ((), ((), ((), ((), ((), ((), ((), ((), ((), ((), ((), ((), ((), ((), ((), ((), ((), ((), ((), ((), ((), ((), ((), ((), ((), ((), ((), ((), ((), ((), ((), ((), ((), ((), ((), ((), ((), ((), ((), ((), ((), ((), ((), ((), ((), ((), ((), ((), ((), ((), ((), ((), ((), ((), ((), ((), ((), ((), ((), ((), ((), ((), ((), ((), ((), ((), ((), ((), ((), ((), ((), ((), ((), ((), ((), ((), ((), ((), ((), ((), ((), ()))))))))))))))))))))))))))))))))))))))))))))))))))))))))))))))))))))))))))))))))))))))))))))))))))))))))))))))))))))))))))))) (o.1, (o.2.1, ()))) (fun e0 => ex e0) Good
    (fun v0 v1 h1 h2 h3 => hr ((), (d.2.1, ((), ((), ((), ((), ((), ((), ((), ((), ((), ((), ((), ((), ((), ((), (d.2.2.2.2.2.2.2.2.2.2.2.2.2.2.2.2.1, (v0, (v1, ((), ((), ((), ((), ((), ((), ((), ((), ((), ((), ((), ((), ((), ((), ((), ((), ((), ((), ((), ((), ((), ((), ((), ((), ((), ((), ((), ((), ((), ((), ((), ((), ((), ((), ((), ((), ((), ((), ((), ((), ((), ((), ((), ((), ((), ((), ((), ((), ((), ((), ((), ((), ((), ((), ((), ((), ((), ((), ((), ((), ((), ((), ((), ((), ((), ((), ((), ((), ((), ((), ((), ((), ((), ((), ((), ((), ((), ((), ((), ((), ((), ((), ((), ((), ((), ((), ((), ((), ((), ((), ((), ((), ((), ((), ((), ((), ((), ((), ((), ((), ((), ((), ((), ((), ((), ((), ()))))))))))))))))))))))))))))))))))))))))))))))))))))))))))))))))))))))))))))))))))))))))))))))))))))))))))))))))))))))))))))) (o.1, (o.2.1, ())) (fun _ _ _ => by kernel_rfl) (cast (by kernel_rfl) h1) (cast (by kernel_rfl) h2) (cast (by kernel_rfl) h3))
    (fun e0 he => (show Good (ex e0) from he ▸ hx))
theorem cutroomlaw03_StartcodeDamage_L20_snd (h : CtxOK Try.prog C26) : LoopS Try.prog (getLoop Try.f10 20) cutroomlaw03_StartcodeDamage_L20.G := cutroomlaw03_StartcodeDamage_L20.sound h (cutroomlaw03_StartcodeDamage_L20_lok h)
noncomputable def cutroomlaw03_StartcodeDamage_L15_LP : Loops := (addL noLoops 20 cutroomlaw03_StartcodeDamage_L20.G)
theorem cutroomlaw03_StartcodeDamage_L15_lok (h : CtxOK Try.prog C26) : LOK Try.prog cutroomlaw03_StartcodeDamage_L15_LP (getLoop Try.f10 15) := LOK_list (l := [(false, getLoop Try.f10 20, cutroomlaw03_StartcodeDamage_L20.G)]) (by kernel_rfl) ⟨cutroomlaw03_StartcodeDamage_L20_snd h, trivial⟩
abbrev cutroomlaw03_StartcodeDamage_L15_sh : List SD × OSh := ([.dead, .v true (.int .i64), .dead, .dead, .dead, .dead, .dead, .dead, .dead, .dead, .sl 833, .dead, .dead, .dead, .sl 1536, .dead, .v true (.int .i64), .dead, .dead, .dead, .dead, .dead, .dead, .dead, .dead, .dead, .dead, .dead, .dead, .dead, .dead, .dead, .dead, .dead, .dead, .dead, .dead, .dead, .dead, .dead, .dead, .dead, .dead, .dead, .dead, .dead, .dead, .dead, .dead, .dead, .dead, .dead, .dead, .dead, .dead, .dead, .dead, .dead, .dead, .dead, .dead, .dead, .dead, .dead, .dead, .dead, .dead, .dead, .dead, .dead, .dead, .dead, .dead, .dead, .dead, .dead, .dead, .dead, .dead, .dead, .dead, .dead, .dead, .dead, .dead, .dead, .dead, .dead, .dead, .dead, .dead, .dead, .dead, .dead, .dead, .dead, .dead, .dead, .dead, .dead, .dead, .dead, .dead, .dead, .dead, .dead, .dead, .dead, .dead, .dead, .dead, .dead, .dead, .dead, .dead, .dead, .dead, .dead, .dead, .dead, .dead, .dead, .dead, .dead, .dead], [(833, .arr false T_startcode_Found), (1536, .arr true T_startcode_Found)])
abbrev cutroomlaw03_StartcodeDamage_L15_x0 : List SD × OSh := ([.dead, .dead, .dead, .dead, .dead, .dead, .dead, .dead, .v true .bool, .dead, .dead, .dead, .dead, .dead, .dead, .dead, .dead, .dead, .dead, .dead, .dead, .dead, .dead, .dead, .dead, .dead, .dead, .dead, .dead, .dead, .dead, .dead, .dead, .dead, .dead, .dead, .dead, .dead, .dead, .dead, .dead, .dead, .dead, .dead, .dead, .dead, .dead, .dead, .dead, .dead, .dead, .dead, .dead, .dead, .dead, .dead, .dead, .dead, .dead, .dead, .dead, .dead, .dead, .dead, .dead, .dead, .dead, .dead, .dead, .dead, .dead, .dead, .dead, .dead, .dead, .dead, .dead, .dead, .dead, .dead, .dead, .dead, .dead, .dead, .dead, .dead, .dead, .dead, .dead, .dead, .dead, .dead, .dead, .dead, .dead, .dead, .dead, .dead, .dead, .dead, .dead, .dead, .dead, .dead, .dead, .dead, .dead, .dead, .dead, .dead, .dead, .dead, .dead, .dead, .dead, .dead, .dead, .dead, .dead, .dead, .dead, .dead, .dead, .dead, .dead], [])
abbrev cutroomlaw03_StartcodeDamage_L15_x1 : List SD × OSh := ([.dead, .dead, .dead, .dead, .dead, .dead, .dead, .dead, .dead, .dead, .dead, .dead, .dead, .dead, .dead, .dead, .dead, .dead, .dead, .dead, .dead, .dead, .dead, .dead, .dead, .dead, .dead, .dead, .dead, .dead, .dead, .dead, .dead, .dead, .dead, .dead, .dead, .dead, .dead, .dead, .dead, .dead, .dead, .dead, .dead, .dead, .dead, .dead, .dead, .dead, .dead, .dead, .dead, .dead, .dead, .dead, .dead, .dead, .dead, .dead, .dead, .dead, .dead, .dead, .dead, .dead, .dead, .dead, .dead, .dead, .dead, .dead, .dead, .dead, .dead, .dead, .dead, .dead, .dead, .dead, .dead, .dead, .dead, .dead, .dead, .dead, .dead, .dead, .dead, .dead, .dead, .dead, .dead, .dead, .dead, .dead, .dead, .dead, .dead, .dead, .dead, .dead, .dead, .dead, .dead, .dead, .dead, .dead, .dead, .dead, .dead, .dead, .dead, .dead, .dead, .dead, .dead, .dead, .dead, .dead, .dead, .dead, .dead, .dead, .dead], [])
noncomputable def cutroomlaw03_StartcodeDamage_L15 : LoopK C26 cutroomlaw03_StartcodeDamage_M cutroomlaw03_StartcodeDamage_L15_LP (getLoop Try.f10 15) where
  sh := cutroomlaw03_StartcodeDamage_L15_sh
  X := (Bool) ⊕ (Unit)
  go := fun d o x k => caseS x (fun a0 => k .ret (mkS cutroomlaw03_StartcodeDamage_L15_x0 ((), ((), ((), ((), ((), ((), ((), ((), (a0, ((), ((), ((), ((), ((), ((), ((), ((), ((), ((), ((), ((), ((), ((), ((), ((), ((), ((), ((), ((), ((), ((), ((), ((), ((), ((), ((), ((), ((), ((), ((), ((), ((), ((), ((), ((), ((), ((), ((), ((), ((), ((), ((), ((), ((), ((), ((), ((), ((), ((), ((), ((), ((), ((), ((), ((), ((), ((), ((), ((), ((), ((), ((), ((), ((), ((), ((), ((), ((), ((), ((), ((), ((), ((), ((), ((), ((), ((), ((), ((), ((), ((), ((), ((), ((), ((), ((), ((), ((), ((), ((), ((), ((), ((), ((), ((), ((), ((), ((), ((), ((), ((), ((), ((), ((), ((), ((), ((), ((), ((), ((), ((), ((), ((), ((), ((), ()))))))))))))))))))))))))))))))))))))))))))))))))))))))))))))))))))))))))))))))))))))))))))))))))))))))))))))))))))))))))))))) ())) (fun b0 => k (.exit 0) (mkS cutroomlaw03_StartcodeDamage_L15_x1 ((), ((), ((), ((), ((), ((), ((), ((), ((), ((), ((), ((), ((), ((), ((), ((), ((), ((), ((), ((), ((), ((), ((), ((), ((), ((), ((), ((), ((), ((), ((), ((), ((), ((), ((), ((), ((), ((), ((), ((), ((), ((), ((), ((), ((), ((), ((), ((), ((), ((), ((), ((), ((), ((), ((), ((), ((), ((), ((), ((), ((), ((), ((), ((), ((), ((), ((), ((), ((), ((), ((), ((), ((), ((), ((), ((), ((), ((), ((), ((), ((), ((), ((), ((), ((), ((), ((), ((), ((), ((), ((), ((), ((), ((), ((), ((), ((), ((), ((), ((), ((), ((), ((), ((), ((), ((), ((), ((), ((), ((), ((), ((), ((), ((), ((), ((), ((), ((), ((), ((), ((), ((), ((), ((), ((), ()))))))))))))))))))))))))))))))))))))))))))))))))))))))))))))))))))))))))))))))))))))))))))))))))))))))))))))))))))))))))))))) ()))
  pre := fun d o => cutroomlaw03_StartcodeDamage_L15_pre d.2.1 o.1 o.2.1 d.2.2.2.2.2.2.2.2.2.2.2.2.2.2.2.2.1
  mu := fun d o => cutroomlaw03_StartcodeDamage_L15_mu d.2.1 o.1 o.2.1 d.2.2.2.2.2.2.2.2.2.2.2.2.2.2.2.2.1
  S := fun d o => cutroomlaw03_StartcodeDamage_L15_S d.2.1 o.1 o.2.1 d.2.2.2.2.2.2.2.2.2.2.2.2.2.2.2.2.1
  T := fun rec ex d o => cutroomlaw03_StartcodeDamage_L15_T d.2.1 o.1 o.2.1 (fun v0 => rec ((), (d.2.1, ((), ((), ((), ((), ((), ((), ((), ((), ((), ((), ((), ((), ((), ((), (v0, ((), ((), ((), ((), ((), ((), ((), ((), ((), ((), ((), ((), ((), ((), ((), ((), ((), ((), ((), ((), ((), ((), ((), ((), ((), ((), ((), ((), ((), ((), ((), ((), ((), ((), ((), ((), ((), ((), ((), ((), ((), ((), ((), ((), ((), ((), ((), ((), ((), ((), ((), ((), ((), ((), ((), ((), ((), ((), ((), ((), ((), ((), ((), ((), ((), ((), ((), ((), ((), ((), ((), ((), ((), ((), ((), ((), ((), ((), ((), ((), ((), ((), ((), ((), ((), ((), ((), ((), ((), ((), ((), ((), ((), ((), ((), ((), ((), ((), ((), ((), ((), ((), ((), ((), ((), ((), ((), ((), ()))))))))))))))))))))))))))))))))))))))))))))))))))))))))))))))))))))))))))))))))))))))))))))))))))))))))))))))))))))))))))))) (o.1, (o.2.1, ()))) (fun e0 => ex (.inl e0)) (fun _ => ex (.inr ())) d.2.2.2.2.2.2.2.2.2.2.2.2.2.2.2.2.1
  hn := rfl
  hT := fun _ _ _ _ => by kernel_rfl
  hx := fun d o x => match x with | .inl z => ⟨.ret, _, nofun, fun _ _ => rfl⟩ | .inr z => ⟨(.exit 0), _, nofun, fun _ _ => rfl⟩
  hS := fun d o hd ho hp R rec ex Good hr hx => cutroomlaw03_StartcodeDamage_L15_ok d.2.1 o.1 o.2.1 d.2.2.2.2.2.2.2.2.2.2.2.2.2.2.2.2.1 hd.2.1 hd.2.2.2.2.2.2.2.2.2.2.2.2.2.2.2.2.1 ho.1 ho.2.1 hp (fun v0 => rec ((), (d.2.1, ((), ((), ((), ((), ((), ((), ((), ((), ((), ((), ((), ((), ((), ((), (v0, ((), ((), ((), ((), ((), ((), ((), ((), ((), ((), ((), ((), ((), ((), ((), ((), ((), ((), ((), ((), ((), ((), ((), ((), ((), ((), ((), ((), ((), ((), ((), ((), ((), ((), ((), ((), ((), ((), ((), ((), ((), ((), ((), ((), ((), ((), ((), ((), ((), ((), ((), ((), ((), ((), ((), ((), ((), ((), ((), ((), ((), ((), ((), ((), ((), ((), ((), ((), ((), ((), ((), ((), ((), ((), ((), ((), ((), ((), ((), ((), ((), ((), ((), ((), ((), ((), ((), ((), ((), ((), ((), ((), ((), ((), ((), ((), ((), ((), ((), ((), ((), ((), ((), ((), ((), ((), ((), ((), ()))))))))))))))))))))))))))))))))))))))))))))))))))))))))))))))))))))))))))))))))))))))))))))))))))))))))))))))))))))))))))))) (o.1, (o.2.1, ()))) (fun e0 => ex (.inl e0)) (fun _ => ex (.inr ())) Good
    (fun v0 h1 h2 h3 => hr ((), (d.2.1, ((), ((), ((), ((), ((), ((), ((), ((), ((), ((), ((), ((), ((), ((), (v0, ((), ((), ((), ((), ((), ((), ((), ((), ((), ((), ((), ((), ((), ((), ((), ((), ((), ((), ((), ((), ((), ((), ((), ((), ((), ((), ((), ((), ((), ((), ((), ((), ((), ((), ((), ((), ((), ((), ((), ((), ((), ((), ((), ((), ((), ((), ((), ((), ((), ((), ((), ((), ((), ((), ((), ((), ((), ((), ((), ((), ((), ((), ((), ((), ((), ((), ((), ((), ((), ((), ((), ((), ((), ((), ((), ((), ((), ((), ((), ((), ((), ((), ((), ((), ((), ((), ((), ((), ((), ((), ((), ((), ((), ((), ((), ((), ((), ((), ((), ((), ((), ((), ((), ((), ((), ((), ((), ((), ()))))))))))))))))))))))))))))))))))))))))))))))))))))))))))))))))))))))))))))))))))))))))))))))))))))))))))))))))))))))))))))) (o.1, (o.2.1, ())) (fun _ _ _ => by kernel_rfl) (cast (by kernel_rfl) h1) (cast (by kernel_rfl) h2) (cast (by kernel_rfl) h3))
    (fun e0 he => (show Good (ex (.inl e0)) from he ▸ hx))
    (fun he => (show Good (ex (.inr ())) from he ▸ hx))
theorem cutroomlaw03_StartcodeDamage_L15_snd (h : CtxOK Try.prog C26) : LoopS Try.prog (getLoop Try.f10 15) cutroomlaw03_StartcodeDamage_L15.G := cutroomlaw03_StartcodeDamage_L15.sound h (cutroomlaw03_StartcodeDamage_L15_lok h)
noncomputable def cutroomlaw03_StartcodeDamage_LP : Loops := (addL (addL noLoops 20 cutroomlaw03_StartcodeDamage_L20.G) 15 cutroomlaw03_StartcodeDamage_L15.G)
theorem cutroomlaw03_StartcodeDamage_lok (h : CtxOK Try.prog C26) : LOK Try.prog cutroomlaw03_StartcodeDamage_LP (Try.f10.body.getD .skip) := LOK_list (l := [(false, getLoop Try.f10 15, cutroomlaw03_StartcodeDamage_L15.G)]) (by kernel_rfl) ⟨cutroomlaw03_StartcodeDamage_L15_snd h, trivial⟩
noncomputable def cutroomlaw03_StartcodeDamage : FnK C26 cutroomlaw03_StartcodeDamage_M cutroomlaw03_StartcodeDamage_LP [none] Try.f10 where
  sh := [.v false (.sl T_api_Unit), .v true (.int .i64), .v true (.int .i64), .v true (.int .u8)]
  osh := []
  rsh := [.v true .bool]
  rosh := []
  pre := fun d o => cutroomlaw03_StartcodeDamage_pre d.1 d.2.1 d.2.2.1 d.2.2.2.1
  S := fun d o => (((cutroomlaw03_StartcodeDamage_S d.1 d.2.1 d.2.2.1 d.2.2.2.1), ()), ())
  F := fun k d o => cutroomlaw03_StartcodeDamage_F (fun v0 => k (v0, ()) ()) d.1 d.2.1 d.2.2.1 d.2.2.2.1
  hn := rfl
  hF := fun _ _ _ _ => by kernel_rfl
  hS := fun d o hd ho hp R k => cutroomlaw03_StartcodeDamage_ok d.1 d.2.1 d.2.2.1 d.2.2.2.1 hd.1 hd.2.1 hd.2.2.1 hd.2.2.2.1 hp (fun v0 => k (v0, ()) ()) (fun z => z = k ((cutroomlaw03_StartcodeDamage_S d.1 d.2.1 d.2.2.1 d.2.2.2.1), ()) ()) rfl
theorem cutroomlaw03_StartcodeDamage_snd (h : CtxOK Try.prog C26) : Sound Try.prog 10 cutroomlaw03_StartcodeDamage.G := cutroomlaw03_StartcodeDamage.sound h rfl (body_LOK (cutroomlaw03_StartcodeDamage_lok h))
noncomputable def C27 : Ctx := addF C26 10 cutroomlaw03_StartcodeDamage.G
theorem C27_ok : CtxOK Try.prog C27 := C26_ok.add (cutroomlaw03_StartcodeDamage_snd C26_ok) Try.f10 rfl (by kernel_rfl) rfl

end Go.Proofs.Ytjelaopafhnlnaa
