/- Texts Ty, Ay, Bc, Bd, Az, Lg, Ev, Ma, Mb. -/
import Derived.Test.YtbkkginjfnjffaaDoorZ05
set_option maxHeartbeats 32000000
set_option maxRecDepth 100000
set_option linter.unusedSimpArgs false
set_option linter.unusedVariables false
namespace Go.Proofs.YtbkkginjfnjffaaDoor
open Go.RowKit Go.Sort
theorem ty_3:(zV Tryd.prog 3=some 1)∧(zJ Tryd.prog 3=some false)∧(scTy Tryd.prog 3=some 0)∧(zt Tryd.prog 3=some [Value.int IntKind.i64 0])∧(Tryd.prog.underlying 3=some (TypeDesc.int IntKind.i64)):=⟨by kernel_rfl,by kernel_rfl,by kernel_rfl,by kernel_rfl,by kernel_rfl⟩
theorem ty_4:(zV Tryd.prog 4=some 1)∧(zJ Tryd.prog 4=some false)∧(scTy Tryd.prog 4=some 1)∧(zt Tryd.prog 4=some [Value.bool false])∧(Tryd.prog.underlying 4=some TypeDesc.bool):=⟨by kernel_rfl,by kernel_rfl,by kernel_rfl,by kernel_rfl,by kernel_rfl⟩
theorem ty_5:(zV Tryd.prog 5=some 1)∧(zJ Tryd.prog 5=some false)∧(scTy Tryd.prog 5=some 0)∧(zt Tryd.prog 5=some [Value.int IntKind.u8 0])∧(Tryd.prog.underlying 5=some (TypeDesc.int IntKind.u8)):=⟨by kernel_rfl,by kernel_rfl,by kernel_rfl,by kernel_rfl,by kernel_rfl⟩
theorem ty_9:(zV Tryd.prog 9=some 1)∧(zJ Tryd.prog 9=some false)∧(scTy Tryd.prog 9=some 2)∧(zt Tryd.prog 9=some [Value.string ⟨#[]⟩])∧(Tryd.prog.underlying 9=some TypeDesc.string):=⟨by kernel_rfl,by kernel_rfl,by kernel_rfl,by kernel_rfl,by kernel_rfl⟩
theorem ty_22:(zV Tryd.prog 22=some 1)∧(zJ Tryd.prog 22=some false)∧(qI Tryd.prog 22=some 9)∧(zX Tryd.prog 22=some (56,9,72))∧(zt Tryd.prog 22=some [Value.slice none 0 0])∧(isSl Tryd.prog 22=true)∧(Tryd.prog.underlying 22=some (TypeDesc.slice 56)):=⟨by kernel_rfl,by kernel_rfl,by kernel_rfl,by kernel_rfl,by kernel_rfl,by kernel_rfl,by kernel_rfl⟩
theorem ty_23:(zV Tryd.prog 23=some 1)∧(zJ Tryd.prog 23=some false)∧(qI Tryd.prog 23=some 2)∧(zX Tryd.prog 23=some (50,2,16))∧(zt Tryd.prog 23=some [Value.slice none 0 0])∧(isSl Tryd.prog 23=true)∧(Tryd.prog.underlying 23=some (TypeDesc.slice 50)):=⟨by kernel_rfl,by kernel_rfl,by kernel_rfl,by kernel_rfl,by kernel_rfl,by kernel_rfl,by kernel_rfl⟩
theorem ty_24:(zV Tryd.prog 24=some 1)∧(zJ Tryd.prog 24=some false)∧(qI Tryd.prog 24=some 1)∧(zX Tryd.prog 24=some (3,1,8))∧(zt Tryd.prog 24=some [Value.slice none 0 0])∧(isSl Tryd.prog 24=true)∧(Tryd.prog.underlying 24=some (TypeDesc.slice 3)):=⟨by kernel_rfl,by kernel_rfl,by kernel_rfl,by kernel_rfl,by kernel_rfl,by kernel_rfl,by kernel_rfl⟩
theorem ty_26:(zV Tryd.prog 26=some 2)∧(zJ Tryd.prog 26=some true)∧(zt Tryd.prog 26=some [Value.slice none 0 0,Value.slice none 0 0])∧(zY Tryd.prog 26=some ([Value.slice none 0 0,Value.slice none 0 0],[(0,1),(1,1)]))∧(zw Tryd.prog 26 0=some 0)∧(zL Tryd.prog 26 0=some (23,0))∧(zw Tryd.prog 26 1=some 1)∧(zL Tryd.prog 26 1=some (24,1)):=⟨by kernel_rfl,by kernel_rfl,by kernel_rfl,by kernel_rfl,by kernel_rfl,by kernel_rfl,by kernel_rfl,by kernel_rfl⟩
theorem ty_28:(zV Tryd.prog 28=some 3)∧(zJ Tryd.prog 28=some true)∧(zt Tryd.prog 28=some [Value.slice none 0 0,Value.slice none 0 0,Value.slice none 0 0])∧(zY Tryd.prog 28=some ([Value.slice none 0 0,Value.slice none 0 0,Value.slice none 0 0],[(0,1),(1,2)]))∧(zw Tryd.prog 28 0=some 0)∧(zL Tryd.prog 28 0=some (22,0))∧(zw Tryd.prog 28 1=some 1)∧(zL Tryd.prog 28 1=some (26,1)):=⟨by kernel_rfl,by kernel_rfl,by kernel_rfl,by kernel_rfl,by kernel_rfl,by kernel_rfl,by kernel_rfl,by kernel_rfl⟩
theorem ty_29:(zV Tryd.prog 29=some 1)∧(zJ Tryd.prog 29=some false)∧(qI Tryd.prog 29=some 2)∧(zX Tryd.prog 29=some (38,2,16))∧(zt Tryd.prog 29=some [Value.slice none 0 0])∧(isSl Tryd.prog 29=true)∧(Tryd.prog.underlying 29=some (TypeDesc.slice 38)):=⟨by kernel_rfl,by kernel_rfl,by kernel_rfl,by kernel_rfl,by kernel_rfl,by kernel_rfl,by kernel_rfl⟩
theorem ty_32:(zV Tryd.prog 32=some 1)∧(zJ Tryd.prog 32=some false)∧(qI Tryd.prog 32=some 7)∧(zX Tryd.prog 32=some (41,7,88))∧(zt Tryd.prog 32=some [Value.slice none 0 0])∧(isSl Tryd.prog 32=true)∧(Tryd.prog.underlying 32=some (TypeDesc.slice 41)):=⟨by kernel_rfl,by kernel_rfl,by kernel_rfl,by kernel_rfl,by kernel_rfl,by kernel_rfl,by kernel_rfl⟩
theorem ty_33:(zV Tryd.prog 33=some 1)∧(zJ Tryd.prog 33=some false)∧(scTy Tryd.prog 33=some 0)∧(zt Tryd.prog 33=some [Value.int IntKind.i64 0])∧(Tryd.prog.underlying 33=some (TypeDesc.int IntKind.i64)):=⟨by kernel_rfl,by kernel_rfl,by kernel_rfl,by kernel_rfl,by kernel_rfl⟩
theorem ty_38:(zV Tryd.prog 38=some 2)∧(zJ Tryd.prog 38=some true)∧(zt Tryd.prog 38=some [Value.int IntKind.i64 0,Value.int IntKind.i64 0])∧(zY Tryd.prog 38=some ([Value.int IntKind.i64 0,Value.int IntKind.i64 0],[(0,1),(1,1)]))∧(eqTy Tryd.prog 38=some [(0,0),(1,0)])∧(zw Tryd.prog 38 0=some 0)∧(zL Tryd.prog 38 0=some (3,0))∧(zw Tryd.prog 38 1=some 1)∧(zL Tryd.prog 38 1=some (3,1)):=⟨by kernel_rfl,by kernel_rfl,by kernel_rfl,by kernel_rfl,by kernel_rfl,by kernel_rfl,by kernel_rfl,by kernel_rfl,by kernel_rfl⟩
theorem ty_41:(zV Tryd.prog 41=some 7)∧(zJ Tryd.prog 41=some true)∧(zt Tryd.prog 41=some [Value.int IntKind.i64 0,Value.int IntKind.i64 0,Value.int IntKind.i64 0,Value.int IntKind.i64 0,Value.slice none 0 0,Value.slice none 0 0,Value.int IntKind.i64 0])∧(zY Tryd.prog 41=some ([Value.int IntKind.i64 0,Value.int IntKind.i64 0,Value.int IntKind.i64 0,Value.int IntKind.i64 0,Value.slice none 0 0,Value.slice none 0 0,Value.int IntKind.i64 0],[(0,1),(1,1),(2,1),(3,1),(4,1),(5,1),(6,1)]))∧(zw Tryd.prog 41 0=some 0)∧(zL Tryd.prog 41 0=some (3,0))∧(zw Tryd.prog 41 1=some 1)∧(zL Tryd.prog 41 1=some (3,1))∧(zw Tryd.prog 41 2=some 2)∧(zL Tryd.prog 41 2=some (3,2))∧(zw Tryd.prog 41 3=some 3)∧(zL Tryd.prog 41 3=some (3,3))∧(zw Tryd.prog 41 4=some 4)∧(zL Tryd.prog 41 4=some (23,4))∧(zw Tryd.prog 41 5=some 5)∧(zL Tryd.prog 41 5=some (23,5))∧(zw Tryd.prog 41 6=some 6)∧(zL Tryd.prog 41 6=some (3,6)):=⟨by kernel_rfl,by kernel_rfl,by kernel_rfl,by kernel_rfl,by kernel_rfl,by kernel_rfl,by kernel_rfl,by kernel_rfl,by kernel_rfl,by kernel_rfl,by kernel_rfl,by kernel_rfl,by kernel_rfl,by kernel_rfl,by kernel_rfl,by kernel_rfl,by kernel_rfl,by kernel_rfl⟩
theorem ty_42:(zV Tryd.prog 42=some 1)∧(zJ Tryd.prog 42=some false)∧(qI Tryd.prog 42=some 4)∧(zX Tryd.prog 42=some (59,4,56))∧(zt Tryd.prog 42=some [Value.slice none 0 0])∧(isSl Tryd.prog 42=true)∧(Tryd.prog.underlying 42=some (TypeDesc.slice 59)):=⟨by kernel_rfl,by kernel_rfl,by kernel_rfl,by kernel_rfl,by kernel_rfl,by kernel_rfl,by kernel_rfl⟩
theorem ty_43:(zV Tryd.prog 43=some 1)∧(zJ Tryd.prog 43=some false)∧(qI Tryd.prog 43=some 2)∧(zX Tryd.prog 43=some (179,2,24))∧(zt Tryd.prog 43=some [Value.slice none 0 0])∧(isSl Tryd.prog 43=true)∧(Tryd.prog.underlying 43=some (TypeDesc.slice 179)):=⟨by kernel_rfl,by kernel_rfl,by kernel_rfl,by kernel_rfl,by kernel_rfl,by kernel_rfl,by kernel_rfl⟩
theorem ty_44:(zV Tryd.prog 44=some 1)∧(zJ Tryd.prog 44=some false)∧(qI Tryd.prog 44=some 1)∧(zX Tryd.prog 44=some (24,1,24))∧(zt Tryd.prog 44=some [Value.slice none 0 0])∧(isSl Tryd.prog 44=true)∧(Tryd.prog.underlying 44=some (TypeDesc.slice 24)):=⟨by kernel_rfl,by kernel_rfl,by kernel_rfl,by kernel_rfl,by kernel_rfl,by kernel_rfl,by kernel_rfl⟩
theorem ty_46:(zV Tryd.prog 46=some 4)∧(zJ Tryd.prog 46=some true)∧(zt Tryd.prog 46=some [Value.slice none 0 0,Value.slice none 0 0,Value.slice none 0 0,Value.int IntKind.i64 0])∧(zY Tryd.prog 46=some ([Value.slice none 0 0,Value.slice none 0 0,Value.slice none 0 0,Value.int IntKind.i64 0],[(0,1),(1,1),(2,1),(3,1)]))∧(zw Tryd.prog 46 0=some 0)∧(zL Tryd.prog 46 0=some (42,0))∧(zw Tryd.prog 46 1=some 1)∧(zL Tryd.prog 46 1=some (43,1))∧(zw Tryd.prog 46 2=some 2)∧(zL Tryd.prog 46 2=some (44,2))∧(zw Tryd.prog 46 3=some 3)∧(zL Tryd.prog 46 3=some (3,3)):=⟨by kernel_rfl,by kernel_rfl,by kernel_rfl,by kernel_rfl,by kernel_rfl,by kernel_rfl,by kernel_rfl,by kernel_rfl,by kernel_rfl,by kernel_rfl,by kernel_rfl,by kernel_rfl⟩
theorem ty_48:(zV Tryd.prog 48=some 2)∧(zJ Tryd.prog 48=some true)∧(zt Tryd.prog 48=some [Value.slice none 0 0,Value.int IntKind.i64 0])∧(zY Tryd.prog 48=some ([Value.slice none 0 0,Value.int IntKind.i64 0],[(0,1),(1,1)]))∧(zw Tryd.prog 48 0=some 0)∧(zL Tryd.prog 48 0=some (24,0))∧(zw Tryd.prog 48 1=some 1)∧(zL Tryd.prog 48 1=some (3,1)):=⟨by kernel_rfl,by kernel_rfl,by kernel_rfl,by kernel_rfl,by kernel_rfl,by kernel_rfl,by kernel_rfl,by kernel_rfl⟩
theorem ty_50:(zV Tryd.prog 50=some 2)∧(zJ Tryd.prog 50=some true)∧(zt Tryd.prog 50=some [Value.int IntKind.i64 0,Value.int IntKind.i64 0])∧(zY Tryd.prog 50=some ([Value.int IntKind.i64 0,Value.int IntKind.i64 0],[(0,1),(1,1)]))∧(eqTy Tryd.prog 50=some [(0,0),(1,0)])∧(zw Tryd.prog 50 0=some 0)∧(zL Tryd.prog 50 0=some (3,0))∧(zw Tryd.prog 50 1=some 1)∧(zL Tryd.prog 50 1=some (3,1)):=⟨by kernel_rfl,by kernel_rfl,by kernel_rfl,by kernel_rfl,by kernel_rfl,by kernel_rfl,by kernel_rfl,by kernel_rfl,by kernel_rfl⟩
theorem ty_56:(zV Tryd.prog 56=some 9)∧(zJ Tryd.prog 56=some true)∧(zt Tryd.prog 56=some [Value.int IntKind.i64 0,Value.int IntKind.i64 0,Value.int IntKind.i64 0,Value.int IntKind.i64 0,Value.int IntKind.i64 0,Value.int IntKind.i64 0,Value.int IntKind.i64 0,Value.int IntKind.i64 0,Value.int IntKind.i64 0])∧(zY Tryd.prog 56=some ([Value.int IntKind.i64 0,Value.int IntKind.i64 0,Value.int IntKind.i64 0,Value.int IntKind.i64 0,Value.int IntKind.i64 0,Value.int IntKind.i64 0,Value.int IntKind.i64 0,Value.int IntKind.i64 0,Value.int IntKind.i64 0],[(0,1),(1,1),(2,1),(3,1),(4,1),(5,1),(6,1),(7,1),(8,1)]))∧(eqTy Tryd.prog 56=some [(0,0),(1,0),(2,0),(3,0),(4,0),(5,0),(6,0),(7,0),(8,0)])∧(zw Tryd.prog 56 0=some 0)∧(zL Tryd.prog 56 0=some (3,0))∧(zw Tryd.prog 56 1=some 1)∧(zL Tryd.prog 56 1=some (3,1))∧(zw Tryd.prog 56 2=some 2)∧(zL Tryd.prog 56 2=some (3,2))∧(zw Tryd.prog 56 3=some 3)∧(zL Tryd.prog 56 3=some (3,3))∧(zw Tryd.prog 56 4=some 4)∧(zL Tryd.prog 56 4=some (3,4))∧(zw Tryd.prog 56 5=some 5)∧(zL Tryd.prog 56 5=some (3,5))∧(zw Tryd.prog 56 6=some 6)∧(zL Tryd.prog 56 6=some (3,6))∧(zw Tryd.prog 56 7=some 7)∧(zL Tryd.prog 56 7=some (3,7))∧(zw Tryd.prog 56 8=some 8)∧(zL Tryd.prog 56 8=some (3,8)):=⟨by kernel_rfl,by kernel_rfl,by kernel_rfl,by kernel_rfl,by kernel_rfl,by kernel_rfl,by kernel_rfl,by kernel_rfl,by kernel_rfl,by kernel_rfl,by kernel_rfl,by kernel_rfl,by kernel_rfl,by kernel_rfl,by kernel_rfl,by kernel_rfl,by kernel_rfl,by kernel_rfl,by kernel_rfl,by kernel_rfl,by kernel_rfl,by kernel_rfl,by kernel_rfl⟩
theorem ty_57:(zV Tryd.prog 57=some 1)∧(zJ Tryd.prog 57=some false)∧(qI Tryd.prog 57=some 5)∧(zX Tryd.prog 57=some (61,5,40))∧(zt Tryd.prog 57=some [Value.slice none 0 0])∧(isSl Tryd.prog 57=true)∧(Tryd.prog.underlying 57=some (TypeDesc.slice 61)):=⟨by kernel_rfl,by kernel_rfl,by kernel_rfl,by kernel_rfl,by kernel_rfl,by kernel_rfl,by kernel_rfl⟩
theorem ty_59:(zV Tryd.prog 59=some 4)∧(zJ Tryd.prog 59=some true)∧(zt Tryd.prog 59=some [Value.string ⟨#[]⟩,Value.int IntKind.i64 0,Value.int IntKind.i64 0,Value.slice none 0 0])∧(zY Tryd.prog 59=some ([Value.string ⟨#[]⟩,Value.int IntKind.i64 0,Value.int IntKind.i64 0,Value.slice none 0 0],[(0,1),(1,1),(2,1),(3,1)]))∧(zw Tryd.prog 59 0=some 0)∧(zL Tryd.prog 59 0=some (9,0))∧(zw Tryd.prog 59 1=some 1)∧(zL Tryd.prog 59 1=some (3,1))∧(zw Tryd.prog 59 2=some 2)∧(zL Tryd.prog 59 2=some (3,2))∧(zw Tryd.prog 59 3=some 3)∧(zL Tryd.prog 59 3=some (57,3)):=⟨by kernel_rfl,by kernel_rfl,by kernel_rfl,by kernel_rfl,by kernel_rfl,by kernel_rfl,by kernel_rfl,by kernel_rfl,by kernel_rfl,by kernel_rfl,by kernel_rfl,by kernel_rfl⟩
theorem ty_61:(zV Tryd.prog 61=some 5)∧(zJ Tryd.prog 61=some true)∧(zt Tryd.prog 61=some [Value.int IntKind.i64 0,Value.int IntKind.i64 0,Value.int IntKind.i64 0,Value.int IntKind.i64 0,Value.int IntKind.i64 0])∧(zY Tryd.prog 61=some ([Value.int IntKind.i64 0,Value.int IntKind.i64 0,Value.int IntKind.i64 0,Value.int IntKind.i64 0,Value.int IntKind.i64 0],[(0,1),(1,1),(2,1),(3,1),(4,1)]))∧(eqTy Tryd.prog 61=some [(0,0),(1,0),(2,0),(3,0),(4,0)])∧(zw Tryd.prog 61 0=some 0)∧(zL Tryd.prog 61 0=some (3,0))∧(zw Tryd.prog 61 1=some 1)∧(zL Tryd.prog 61 1=some (3,1))∧(zw Tryd.prog 61 2=some 2)∧(zL Tryd.prog 61 2=some (3,2))∧(zw Tryd.prog 61 3=some 3)∧(zL Tryd.prog 61 3=some (3,3))∧(zw Tryd.prog 61 4=some 4)∧(zL Tryd.prog 61 4=some (3,4)):=⟨by kernel_rfl,by kernel_rfl,by kernel_rfl,by kernel_rfl,by kernel_rfl,by kernel_rfl,by kernel_rfl,by kernel_rfl,by kernel_rfl,by kernel_rfl,by kernel_rfl,by kernel_rfl,by kernel_rfl,by kernel_rfl,by kernel_rfl⟩
theorem ty_63:(zV Tryd.prog 63=some 1)∧(zJ Tryd.prog 63=some false)∧(z0z Tryd.prog 63=some (69,72,Value.agg { toList := [Value.int IntKind.i64 0,Value.int IntKind.i64 0,Value.int IntKind.i64 0] }))∧(zt Tryd.prog 63=some [Value.map none])∧(Tryd.prog.underlying 63=some (TypeDesc.map 69 72)):=⟨by kernel_rfl,by kernel_rfl,by kernel_rfl,by kernel_rfl,by kernel_rfl⟩
theorem ty_66:(zV Tryd.prog 66=some 3)∧(zJ Tryd.prog 66=some true)∧(zt Tryd.prog 66=some [Value.int IntKind.i64 0,Value.int IntKind.i64 0,Value.int IntKind.i64 0])∧(zY Tryd.prog 66=some ([Value.int IntKind.i64 0,Value.int IntKind.i64 0,Value.int IntKind.i64 0],[(0,1),(1,1),(2,1)]))∧(eqTy Tryd.prog 66=some [(0,0),(1,0),(2,0)])∧(zw Tryd.prog 66 0=some 0)∧(zL Tryd.prog 66 0=some (3,0))∧(zw Tryd.prog 66 1=some 1)∧(zL Tryd.prog 66 1=some (3,1))∧(zw Tryd.prog 66 2=some 2)∧(zL Tryd.prog 66 2=some (3,2)):=⟨by kernel_rfl,by kernel_rfl,by kernel_rfl,by kernel_rfl,by kernel_rfl,by kernel_rfl,by kernel_rfl,by kernel_rfl,by kernel_rfl,by kernel_rfl,by kernel_rfl⟩
theorem ty_69:(zV Tryd.prog 69=some 6)∧(zJ Tryd.prog 69=some true)∧(zt Tryd.prog 69=some [Value.int IntKind.i64 0,Value.int IntKind.i64 0,Value.int IntKind.i64 0,Value.int IntKind.i64 0,Value.int IntKind.i64 0,Value.int IntKind.i64 0])∧(zY Tryd.prog 69=some ([Value.int IntKind.i64 0,Value.int IntKind.i64 0,Value.int IntKind.i64 0,Value.int IntKind.i64 0,Value.int IntKind.i64 0,Value.int IntKind.i64 0],[(0,3),(3,3)]))∧(zw Tryd.prog 69 0=some 0)∧(zL Tryd.prog 69 0=some (66,0))∧(zw Tryd.prog 69 1=some 3)∧(zL Tryd.prog 69 1=some (66,3)):=⟨by kernel_rfl,by kernel_rfl,by kernel_rfl,by kernel_rfl,by kernel_rfl,by kernel_rfl,by kernel_rfl,by kernel_rfl⟩
theorem ty_72:(zV Tryd.prog 72=some 3)∧(zJ Tryd.prog 72=some true)∧(zt Tryd.prog 72=some [Value.int IntKind.i64 0,Value.int IntKind.i64 0,Value.int IntKind.i64 0])∧(zY Tryd.prog 72=some ([Value.int IntKind.i64 0,Value.int IntKind.i64 0,Value.int IntKind.i64 0],[(0,2),(2,1)]))∧(zw Tryd.prog 72 0=some 0)∧(zL Tryd.prog 72 0=some (38,0))∧(zw Tryd.prog 72 1=some 2)∧(zL Tryd.prog 72 1=some (3,2)):=⟨by kernel_rfl,by kernel_rfl,by kernel_rfl,by kernel_rfl,by kernel_rfl,by kernel_rfl,by kernel_rfl,by kernel_rfl⟩
theorem ty_74:(zV Tryd.prog 74=some 1)∧(zJ Tryd.prog 74=some false)∧(qI Tryd.prog 74=some 6)∧(zX Tryd.prog 74=some (69,6,48))∧(zt Tryd.prog 74=some [Value.slice none 0 0])∧(isSl Tryd.prog 74=true)∧(Tryd.prog.underlying 74=some (TypeDesc.slice 69)):=⟨by kernel_rfl,by kernel_rfl,by kernel_rfl,by kernel_rfl,by kernel_rfl,by kernel_rfl,by kernel_rfl⟩
theorem ty_77:(zV Tryd.prog 77=some 1)∧(zJ Tryd.prog 77=some false)∧(zt Tryd.prog 77=some [Value.nilFunc]):=⟨by kernel_rfl,by kernel_rfl,by kernel_rfl⟩
theorem ty_80:(zV Tryd.prog 80=some 1)∧(zJ Tryd.prog 80=some false)∧(zt Tryd.prog 80=some [Value.nilFunc]):=⟨by kernel_rfl,by kernel_rfl,by kernel_rfl⟩
theorem ty_82:(zV Tryd.prog 82=some 1)∧(zJ Tryd.prog 82=some false)∧(qI Tryd.prog 82=some 6)∧(zX Tryd.prog 82=some (84,6,48))∧(zt Tryd.prog 82=some [Value.slice none 0 0])∧(isSl Tryd.prog 82=true)∧(Tryd.prog.underlying 82=some (TypeDesc.slice 84)):=⟨by kernel_rfl,by kernel_rfl,by kernel_rfl,by kernel_rfl,by kernel_rfl,by kernel_rfl,by kernel_rfl⟩
theorem ty_84:(z5j Tryd.prog 84=some (6,1))∧(zV Tryd.prog 84=some 6)∧(zJ Tryd.prog 84=some true)∧(z8p Tryd.prog 84=some (3,1,6))∧(zt Tryd.prog 84=some [Value.int IntKind.i64 0,Value.int IntKind.i64 0,Value.int IntKind.i64 0,Value.int IntKind.i64 0,Value.int IntKind.i64 0,Value.int IntKind.i64 0])∧(z3s Tryd.prog 84=some ([Value.int IntKind.i64 0,Value.int IntKind.i64 0,Value.int IntKind.i64 0,Value.int IntKind.i64 0,Value.int IntKind.i64 0,Value.int IntKind.i64 0],1,6))∧(eqTy Tryd.prog 84=some [(0,0),(1,0),(2,0),(3,0),(4,0),(5,0)])∧(zY Tryd.prog 84=none):=⟨by kernel_rfl,by kernel_rfl,by kernel_rfl,by kernel_rfl,by kernel_rfl,by kernel_rfl,by kernel_rfl,by kernel_rfl⟩
theorem ty_92:(zV Tryd.prog 92=some 1)∧(zJ Tryd.prog 92=some false)∧(ptTy Tryd.prog 92=some true)∧(zt Tryd.prog 92=some [Value.pointer none]):=⟨by kernel_rfl,by kernel_rfl,by kernel_rfl,by kernel_rfl⟩
theorem ty_93:(zV Tryd.prog 93=some 1)∧(zJ Tryd.prog 93=some false)∧(qI Tryd.prog 93=some 1)∧(zX Tryd.prog 93=some (5,1,1))∧(zt Tryd.prog 93=some [Value.slice none 0 0])∧(isSl Tryd.prog 93=true)∧(Tryd.prog.underlying 93=some (TypeDesc.slice 5))∧(z4d Tryd.prog 93=true):=⟨by kernel_rfl,by kernel_rfl,by kernel_rfl,by kernel_rfl,by kernel_rfl,by kernel_rfl,by kernel_rfl,by kernel_rfl⟩
theorem ty_95:(zV Tryd.prog 95=some 2)∧(zJ Tryd.prog 95=some true)∧(zt Tryd.prog 95=some [Value.pointer none,Value.slice none 0 0])∧(zY Tryd.prog 95=some ([Value.pointer none,Value.slice none 0 0],[(0,1),(1,1)]))∧(zw Tryd.prog 95 0=some 0)∧(zL Tryd.prog 95 0=some (92,0))∧(zw Tryd.prog 95 1=some 1)∧(zL Tryd.prog 95 1=some (93,1)):=⟨by kernel_rfl,by kernel_rfl,by kernel_rfl,by kernel_rfl,by kernel_rfl,by kernel_rfl,by kernel_rfl,by kernel_rfl⟩
theorem ty_96:(zV Tryd.prog 96=some 1)∧(zJ Tryd.prog 96=some false)∧(zt Tryd.prog 96=some [Value.nilFunc]):=⟨by kernel_rfl,by kernel_rfl,by kernel_rfl⟩
theorem ty_101:(zV Tryd.prog 101=some 1)∧(zJ Tryd.prog 101=some false)∧(zt Tryd.prog 101=some [Value.nilFunc]):=⟨by kernel_rfl,by kernel_rfl,by kernel_rfl⟩
theorem ty_102:(zV Tryd.prog 102=some 1)∧(zJ Tryd.prog 102=some false)∧(zt Tryd.prog 102=some [Value.nilFunc]):=⟨by kernel_rfl,by kernel_rfl,by kernel_rfl⟩
theorem ty_104:(zV Tryd.prog 104=some 1)∧(zJ Tryd.prog 104=some false)∧(zt Tryd.prog 104=some [Value.nilFunc]):=⟨by kernel_rfl,by kernel_rfl,by kernel_rfl⟩
theorem ty_107:(zV Tryd.prog 107=some 1)∧(zJ Tryd.prog 107=some false)∧(z0z Tryd.prog 107=some (126,3,Value.int IntKind.i64 0))∧(zt Tryd.prog 107=some [Value.map none])∧(Tryd.prog.underlying 107=some (TypeDesc.map 126 3)):=⟨by kernel_rfl,by kernel_rfl,by kernel_rfl,by kernel_rfl,by kernel_rfl⟩
theorem ty_109:(zV Tryd.prog 109=some 1)∧(zJ Tryd.prog 109=some false)∧(zt Tryd.prog 109=some [Value.nilFunc]):=⟨by kernel_rfl,by kernel_rfl,by kernel_rfl⟩
theorem ty_121:(zV Tryd.prog 121=some 1)∧(zJ Tryd.prog 121=some false)∧(zt Tryd.prog 121=some [Value.nilFunc]):=⟨by kernel_rfl,by kernel_rfl,by kernel_rfl⟩
theorem ty_122:(zV Tryd.prog 122=some 1)∧(zJ Tryd.prog 122=some false)∧(zt Tryd.prog 122=some [Value.nilFunc]):=⟨by kernel_rfl,by kernel_rfl,by kernel_rfl⟩
theorem ty_124:(zV Tryd.prog 124=some 1)∧(zJ Tryd.prog 124=some false)∧(scTy Tryd.prog 124=some 0)∧(zt Tryd.prog 124=some [Value.int IntKind.u64 0])∧(Tryd.prog.underlying 124=some (TypeDesc.int IntKind.u64)):=⟨by kernel_rfl,by kernel_rfl,by kernel_rfl,by kernel_rfl,by kernel_rfl⟩
theorem ty_126:(zV Tryd.prog 126=some 3)∧(zJ Tryd.prog 126=some true)∧(zt Tryd.prog 126=some [Value.int IntKind.i64 0,Value.int IntKind.i64 0,Value.int IntKind.i64 0])∧(zY Tryd.prog 126=some ([Value.int IntKind.i64 0,Value.int IntKind.i64 0,Value.int IntKind.i64 0],[(0,1),(1,2)]))∧(zw Tryd.prog 126 0=some 0)∧(zL Tryd.prog 126 0=some (3,0))∧(zw Tryd.prog 126 1=some 1)∧(zL Tryd.prog 126 1=some (50,1)):=⟨by kernel_rfl,by kernel_rfl,by kernel_rfl,by kernel_rfl,by kernel_rfl,by kernel_rfl,by kernel_rfl,by kernel_rfl⟩
theorem ty_128:(zV Tryd.prog 128=some 1)∧(zJ Tryd.prog 128=some false)∧(zt Tryd.prog 128=some [Value.nilFunc]):=⟨by kernel_rfl,by kernel_rfl,by kernel_rfl⟩
theorem ty_132:(zV Tryd.prog 132=some 1)∧(zJ Tryd.prog 132=some false)∧(scTy Tryd.prog 132=some 0)∧(zt Tryd.prog 132=some [Value.int IntKind.u64 0])∧(Tryd.prog.underlying 132=some (TypeDesc.int IntKind.u64)):=⟨by kernel_rfl,by kernel_rfl,by kernel_rfl,by kernel_rfl,by kernel_rfl⟩
theorem ty_147:(z5j Tryd.prog 147=some (24,1))∧(zV Tryd.prog 147=some 24)∧(zJ Tryd.prog 147=some true)∧(z8p Tryd.prog 147=some (5,1,24))∧(zt Tryd.prog 147=some [Value.int IntKind.u8 0,Value.int IntKind.u8 0,Value.int IntKind.u8 0,Value.int IntKind.u8 0,Value.int IntKind.u8 0,Value.int IntKind.u8 0,Value.int IntKind.u8 0,Value.int IntKind.u8 0,Value.int IntKind.u8 0,Value.int IntKind.u8 0,Value.int IntKind.u8 0,Value.int IntKind.u8 0,Value.int IntKind.u8 0,Value.int IntKind.u8 0,Value.int IntKind.u8 0,Value.int IntKind.u8 0,Value.int IntKind.u8 0,Value.int IntKind.u8 0,Value.int IntKind.u8 0,Value.int IntKind.u8 0,Value.int IntKind.u8 0,Value.int IntKind.u8 0,Value.int IntKind.u8 0,Value.int IntKind.u8 0])∧(z3s Tryd.prog 147=some ([Value.int IntKind.u8 0,Value.int IntKind.u8 0,Value.int IntKind.u8 0,Value.int IntKind.u8 0,Value.int IntKind.u8 0,Value.int IntKind.u8 0,Value.int IntKind.u8 0,Value.int IntKind.u8 0,Value.int IntKind.u8 0,Value.int IntKind.u8 0,Value.int IntKind.u8 0,Value.int IntKind.u8 0,Value.int IntKind.u8 0,Value.int IntKind.u8 0,Value.int IntKind.u8 0,Value.int IntKind.u8 0,Value.int IntKind.u8 0,Value.int IntKind.u8 0,Value.int IntKind.u8 0,Value.int IntKind.u8 0,Value.int IntKind.u8 0,Value.int IntKind.u8 0,Value.int IntKind.u8 0,Value.int IntKind.u8 0],1,24))∧(eqTy Tryd.prog 147=some [(0,0),(1,0),(2,0),(3,0),(4,0),(5,0),(6,0),(7,0),(8,0),(9,0),(10,0),(11,0),(12,0),(13,0),(14,0),(15,0),(16,0),(17,0),(18,0),(19,0),(20,0),(21,0),(22,0),(23,0)])∧(zY Tryd.prog 147=none):=⟨by kernel_rfl,by kernel_rfl,by kernel_rfl,by kernel_rfl,by kernel_rfl,by kernel_rfl,by kernel_rfl,by kernel_rfl⟩
theorem tys:((zV Tryd.prog 3=some 1)∧(zJ Tryd.prog 3=some false)∧(scTy Tryd.prog 3=some 0)∧(zt Tryd.prog 3=some [Value.int IntKind.i64 0])∧(Tryd.prog.underlying 3=some (TypeDesc.int IntKind.i64))) ∧
  ((zV Tryd.prog 4=some 1)∧(zJ Tryd.prog 4=some false)∧(scTy Tryd.prog 4=some 1)∧(zt Tryd.prog 4=some [Value.bool false])∧(Tryd.prog.underlying 4=some TypeDesc.bool)) ∧
  ((zV Tryd.prog 5=some 1)∧(zJ Tryd.prog 5=some false)∧(scTy Tryd.prog 5=some 0)∧(zt Tryd.prog 5=some [Value.int IntKind.u8 0])∧(Tryd.prog.underlying 5=some (TypeDesc.int IntKind.u8))) ∧
  ((zV Tryd.prog 9=some 1)∧(zJ Tryd.prog 9=some false)∧(scTy Tryd.prog 9=some 2)∧(zt Tryd.prog 9=some [Value.string ⟨#[]⟩])∧(Tryd.prog.underlying 9=some TypeDesc.string)) ∧
  ((zV Tryd.prog 22=some 1)∧(zJ Tryd.prog 22=some false)∧(qI Tryd.prog 22=some 9)∧(zX Tryd.prog 22=some (56,9,72))∧(zt Tryd.prog 22=some [Value.slice none 0 0])∧(isSl Tryd.prog 22=true)∧(Tryd.prog.underlying 22=some (TypeDesc.slice 56))) ∧
  ((zV Tryd.prog 23=some 1)∧(zJ Tryd.prog 23=some false)∧(qI Tryd.prog 23=some 2)∧(zX Tryd.prog 23=some (50,2,16))∧(zt Tryd.prog 23=some [Value.slice none 0 0])∧(isSl Tryd.prog 23=true)∧(Tryd.prog.underlying 23=some (TypeDesc.slice 50))) ∧
  ((zV Tryd.prog 24=some 1)∧(zJ Tryd.prog 24=some false)∧(qI Tryd.prog 24=some 1)∧(zX Tryd.prog 24=some (3,1,8))∧(zt Tryd.prog 24=some [Value.slice none 0 0])∧(isSl Tryd.prog 24=true)∧(Tryd.prog.underlying 24=some (TypeDesc.slice 3))) ∧
  ((zV Tryd.prog 26=some 2)∧(zJ Tryd.prog 26=some true)∧(zt Tryd.prog 26=some [Value.slice none 0 0,Value.slice none 0 0])∧(zY Tryd.prog 26=some ([Value.slice none 0 0,Value.slice none 0 0],[(0,1),(1,1)]))∧(zw Tryd.prog 26 0=some 0)∧(zL Tryd.prog 26 0=some (23,0))∧(zw Tryd.prog 26 1=some 1)∧(zL Tryd.prog 26 1=some (24,1))) ∧
  ((zV Tryd.prog 28=some 3)∧(zJ Tryd.prog 28=some true)∧(zt Tryd.prog 28=some [Value.slice none 0 0,Value.slice none 0 0,Value.slice none 0 0])∧(zY Tryd.prog 28=some ([Value.slice none 0 0,Value.slice none 0 0,Value.slice none 0 0],[(0,1),(1,2)]))∧(zw Tryd.prog 28 0=some 0)∧(zL Tryd.prog 28 0=some (22,0))∧(zw Tryd.prog 28 1=some 1)∧(zL Tryd.prog 28 1=some (26,1))) ∧
  ((zV Tryd.prog 29=some 1)∧(zJ Tryd.prog 29=some false)∧(qI Tryd.prog 29=some 2)∧(zX Tryd.prog 29=some (38,2,16))∧(zt Tryd.prog 29=some [Value.slice none 0 0])∧(isSl Tryd.prog 29=true)∧(Tryd.prog.underlying 29=some (TypeDesc.slice 38))) ∧
  ((zV Tryd.prog 32=some 1)∧(zJ Tryd.prog 32=some false)∧(qI Tryd.prog 32=some 7)∧(zX Tryd.prog 32=some (41,7,88))∧(zt Tryd.prog 32=some [Value.slice none 0 0])∧(isSl Tryd.prog 32=true)∧(Tryd.prog.underlying 32=some (TypeDesc.slice 41))) ∧
  ((zV Tryd.prog 33=some 1)∧(zJ Tryd.prog 33=some false)∧(scTy Tryd.prog 33=some 0)∧(zt Tryd.prog 33=some [Value.int IntKind.i64 0])∧(Tryd.prog.underlying 33=some (TypeDesc.int IntKind.i64))) ∧
  ((zV Tryd.prog 38=some 2)∧(zJ Tryd.prog 38=some true)∧(zt Tryd.prog 38=some [Value.int IntKind.i64 0,Value.int IntKind.i64 0])∧(zY Tryd.prog 38=some ([Value.int IntKind.i64 0,Value.int IntKind.i64 0],[(0,1),(1,1)]))∧(eqTy Tryd.prog 38=some [(0,0),(1,0)])∧(zw Tryd.prog 38 0=some 0)∧(zL Tryd.prog 38 0=some (3,0))∧(zw Tryd.prog 38 1=some 1)∧(zL Tryd.prog 38 1=some (3,1))) ∧
  ((zV Tryd.prog 41=some 7)∧(zJ Tryd.prog 41=some true)∧(zt Tryd.prog 41=some [Value.int IntKind.i64 0,Value.int IntKind.i64 0,Value.int IntKind.i64 0,Value.int IntKind.i64 0,Value.slice none 0 0,Value.slice none 0 0,Value.int IntKind.i64 0])∧(zY Tryd.prog 41=some ([Value.int IntKind.i64 0,Value.int IntKind.i64 0,Value.int IntKind.i64 0,Value.int IntKind.i64 0,Value.slice none 0 0,Value.slice none 0 0,Value.int IntKind.i64 0],[(0,1),(1,1),(2,1),(3,1),(4,1),(5,1),(6,1)]))∧(zw Tryd.prog 41 0=some 0)∧(zL Tryd.prog 41 0=some (3,0))∧(zw Tryd.prog 41 1=some 1)∧(zL Tryd.prog 41 1=some (3,1))∧(zw Tryd.prog 41 2=some 2)∧(zL Tryd.prog 41 2=some (3,2))∧(zw Tryd.prog 41 3=some 3)∧(zL Tryd.prog 41 3=some (3,3))∧(zw Tryd.prog 41 4=some 4)∧(zL Tryd.prog 41 4=some (23,4))∧(zw Tryd.prog 41 5=some 5)∧(zL Tryd.prog 41 5=some (23,5))∧(zw Tryd.prog 41 6=some 6)∧(zL Tryd.prog 41 6=some (3,6))) ∧
  ((zV Tryd.prog 42=some 1)∧(zJ Tryd.prog 42=some false)∧(qI Tryd.prog 42=some 4)∧(zX Tryd.prog 42=some (59,4,56))∧(zt Tryd.prog 42=some [Value.slice none 0 0])∧(isSl Tryd.prog 42=true)∧(Tryd.prog.underlying 42=some (TypeDesc.slice 59))) ∧
  ((zV Tryd.prog 43=some 1)∧(zJ Tryd.prog 43=some false)∧(qI Tryd.prog 43=some 2)∧(zX Tryd.prog 43=some (179,2,24))∧(zt Tryd.prog 43=some [Value.slice none 0 0])∧(isSl Tryd.prog 43=true)∧(Tryd.prog.underlying 43=some (TypeDesc.slice 179))) ∧
  ((zV Tryd.prog 44=some 1)∧(zJ Tryd.prog 44=some false)∧(qI Tryd.prog 44=some 1)∧(zX Tryd.prog 44=some (24,1,24))∧(zt Tryd.prog 44=some [Value.slice none 0 0])∧(isSl Tryd.prog 44=true)∧(Tryd.prog.underlying 44=some (TypeDesc.slice 24))) ∧
  ((zV Tryd.prog 46=some 4)∧(zJ Tryd.prog 46=some true)∧(zt Tryd.prog 46=some [Value.slice none 0 0,Value.slice none 0 0,Value.slice none 0 0,Value.int IntKind.i64 0])∧(zY Tryd.prog 46=some ([Value.slice none 0 0,Value.slice none 0 0,Value.slice none 0 0,Value.int IntKind.i64 0],[(0,1),(1,1),(2,1),(3,1)]))∧(zw Tryd.prog 46 0=some 0)∧(zL Tryd.prog 46 0=some (42,0))∧(zw Tryd.prog 46 1=some 1)∧(zL Tryd.prog 46 1=some (43,1))∧(zw Tryd.prog 46 2=some 2)∧(zL Tryd.prog 46 2=some (44,2))∧(zw Tryd.prog 46 3=some 3)∧(zL Tryd.prog 46 3=some (3,3))) ∧
  ((zV Tryd.prog 48=some 2)∧(zJ Tryd.prog 48=some true)∧(zt Tryd.prog 48=some [Value.slice none 0 0,Value.int IntKind.i64 0])∧(zY Tryd.prog 48=some ([Value.slice none 0 0,Value.int IntKind.i64 0],[(0,1),(1,1)]))∧(zw Tryd.prog 48 0=some 0)∧(zL Tryd.prog 48 0=some (24,0))∧(zw Tryd.prog 48 1=some 1)∧(zL Tryd.prog 48 1=some (3,1))) ∧
  ((zV Tryd.prog 50=some 2)∧(zJ Tryd.prog 50=some true)∧(zt Tryd.prog 50=some [Value.int IntKind.i64 0,Value.int IntKind.i64 0])∧(zY Tryd.prog 50=some ([Value.int IntKind.i64 0,Value.int IntKind.i64 0],[(0,1),(1,1)]))∧(eqTy Tryd.prog 50=some [(0,0),(1,0)])∧(zw Tryd.prog 50 0=some 0)∧(zL Tryd.prog 50 0=some (3,0))∧(zw Tryd.prog 50 1=some 1)∧(zL Tryd.prog 50 1=some (3,1))) ∧
  ((zV Tryd.prog 56=some 9)∧(zJ Tryd.prog 56=some true)∧(zt Tryd.prog 56=some [Value.int IntKind.i64 0,Value.int IntKind.i64 0,Value.int IntKind.i64 0,Value.int IntKind.i64 0,Value.int IntKind.i64 0,Value.int IntKind.i64 0,Value.int IntKind.i64 0,Value.int IntKind.i64 0,Value.int IntKind.i64 0])∧(zY Tryd.prog 56=some ([Value.int IntKind.i64 0,Value.int IntKind.i64 0,Value.int IntKind.i64 0,Value.int IntKind.i64 0,Value.int IntKind.i64 0,Value.int IntKind.i64 0,Value.int IntKind.i64 0,Value.int IntKind.i64 0,Value.int IntKind.i64 0],[(0,1),(1,1),(2,1),(3,1),(4,1),(5,1),(6,1),(7,1),(8,1)]))∧(eqTy Tryd.prog 56=some [(0,0),(1,0),(2,0),(3,0),(4,0),(5,0),(6,0),(7,0),(8,0)])∧(zw Tryd.prog 56 0=some 0)∧(zL Tryd.prog 56 0=some (3,0))∧(zw Tryd.prog 56 1=some 1)∧(zL Tryd.prog 56 1=some (3,1))∧(zw Tryd.prog 56 2=some 2)∧(zL Tryd.prog 56 2=some (3,2))∧(zw Tryd.prog 56 3=some 3)∧(zL Tryd.prog 56 3=some (3,3))∧(zw Tryd.prog 56 4=some 4)∧(zL Tryd.prog 56 4=some (3,4))∧(zw Tryd.prog 56 5=some 5)∧(zL Tryd.prog 56 5=some (3,5))∧(zw Tryd.prog 56 6=some 6)∧(zL Tryd.prog 56 6=some (3,6))∧(zw Tryd.prog 56 7=some 7)∧(zL Tryd.prog 56 7=some (3,7))∧(zw Tryd.prog 56 8=some 8)∧(zL Tryd.prog 56 8=some (3,8))) ∧
  ((zV Tryd.prog 57=some 1)∧(zJ Tryd.prog 57=some false)∧(qI Tryd.prog 57=some 5)∧(zX Tryd.prog 57=some (61,5,40))∧(zt Tryd.prog 57=some [Value.slice none 0 0])∧(isSl Tryd.prog 57=true)∧(Tryd.prog.underlying 57=some (TypeDesc.slice 61))) ∧
  ((zV Tryd.prog 59=some 4)∧(zJ Tryd.prog 59=some true)∧(zt Tryd.prog 59=some [Value.string ⟨#[]⟩,Value.int IntKind.i64 0,Value.int IntKind.i64 0,Value.slice none 0 0])∧(zY Tryd.prog 59=some ([Value.string ⟨#[]⟩,Value.int IntKind.i64 0,Value.int IntKind.i64 0,Value.slice none 0 0],[(0,1),(1,1),(2,1),(3,1)]))∧(zw Tryd.prog 59 0=some 0)∧(zL Tryd.prog 59 0=some (9,0))∧(zw Tryd.prog 59 1=some 1)∧(zL Tryd.prog 59 1=some (3,1))∧(zw Tryd.prog 59 2=some 2)∧(zL Tryd.prog 59 2=some (3,2))∧(zw Tryd.prog 59 3=some 3)∧(zL Tryd.prog 59 3=some (57,3))) ∧
  ((zV Tryd.prog 61=some 5)∧(zJ Tryd.prog 61=some true)∧(zt Tryd.prog 61=some [Value.int IntKind.i64 0,Value.int IntKind.i64 0,Value.int IntKind.i64 0,Value.int IntKind.i64 0,Value.int IntKind.i64 0])∧(zY Tryd.prog 61=some ([Value.int IntKind.i64 0,Value.int IntKind.i64 0,Value.int IntKind.i64 0,Value.int IntKind.i64 0,Value.int IntKind.i64 0],[(0,1),(1,1),(2,1),(3,1),(4,1)]))∧(eqTy Tryd.prog 61=some [(0,0),(1,0),(2,0),(3,0),(4,0)])∧(zw Tryd.prog 61 0=some 0)∧(zL Tryd.prog 61 0=some (3,0))∧(zw Tryd.prog 61 1=some 1)∧(zL Tryd.prog 61 1=some (3,1))∧(zw Tryd.prog 61 2=some 2)∧(zL Tryd.prog 61 2=some (3,2))∧(zw Tryd.prog 61 3=some 3)∧(zL Tryd.prog 61 3=some (3,3))∧(zw Tryd.prog 61 4=some 4)∧(zL Tryd.prog 61 4=some (3,4))) ∧
  ((zV Tryd.prog 63=some 1)∧(zJ Tryd.prog 63=some false)∧(z0z Tryd.prog 63=some (69,72,Value.agg { toList := [Value.int IntKind.i64 0,Value.int IntKind.i64 0,Value.int IntKind.i64 0] }))∧(zt Tryd.prog 63=some [Value.map none])∧(Tryd.prog.underlying 63=some (TypeDesc.map 69 72))) ∧
  ((zV Tryd.prog 66=some 3)∧(zJ Tryd.prog 66=some true)∧(zt Tryd.prog 66=some [Value.int IntKind.i64 0,Value.int IntKind.i64 0,Value.int IntKind.i64 0])∧(zY Tryd.prog 66=some ([Value.int IntKind.i64 0,Value.int IntKind.i64 0,Value.int IntKind.i64 0],[(0,1),(1,1),(2,1)]))∧(eqTy Tryd.prog 66=some [(0,0),(1,0),(2,0)])∧(zw Tryd.prog 66 0=some 0)∧(zL Tryd.prog 66 0=some (3,0))∧(zw Tryd.prog 66 1=some 1)∧(zL Tryd.prog 66 1=some (3,1))∧(zw Tryd.prog 66 2=some 2)∧(zL Tryd.prog 66 2=some (3,2))) ∧
  ((zV Tryd.prog 69=some 6)∧(zJ Tryd.prog 69=some true)∧(zt Tryd.prog 69=some [Value.int IntKind.i64 0,Value.int IntKind.i64 0,Value.int IntKind.i64 0,Value.int IntKind.i64 0,Value.int IntKind.i64 0,Value.int IntKind.i64 0])∧(zY Tryd.prog 69=some ([Value.int IntKind.i64 0,Value.int IntKind.i64 0,Value.int IntKind.i64 0,Value.int IntKind.i64 0,Value.int IntKind.i64 0,Value.int IntKind.i64 0],[(0,3),(3,3)]))∧(zw Tryd.prog 69 0=some 0)∧(zL Tryd.prog 69 0=some (66,0))∧(zw Tryd.prog 69 1=some 3)∧(zL Tryd.prog 69 1=some (66,3))) ∧
  ((zV Tryd.prog 72=some 3)∧(zJ Tryd.prog 72=some true)∧(zt Tryd.prog 72=some [Value.int IntKind.i64 0,Value.int IntKind.i64 0,Value.int IntKind.i64 0])∧(zY Tryd.prog 72=some ([Value.int IntKind.i64 0,Value.int IntKind.i64 0,Value.int IntKind.i64 0],[(0,2),(2,1)]))∧(zw Tryd.prog 72 0=some 0)∧(zL Tryd.prog 72 0=some (38,0))∧(zw Tryd.prog 72 1=some 2)∧(zL Tryd.prog 72 1=some (3,2))) ∧
  ((zV Tryd.prog 74=some 1)∧(zJ Tryd.prog 74=some false)∧(qI Tryd.prog 74=some 6)∧(zX Tryd.prog 74=some (69,6,48))∧(zt Tryd.prog 74=some [Value.slice none 0 0])∧(isSl Tryd.prog 74=true)∧(Tryd.prog.underlying 74=some (TypeDesc.slice 69))) ∧
  ((zV Tryd.prog 77=some 1)∧(zJ Tryd.prog 77=some false)∧(zt Tryd.prog 77=some [Value.nilFunc])) ∧
  ((zV Tryd.prog 80=some 1)∧(zJ Tryd.prog 80=some false)∧(zt Tryd.prog 80=some [Value.nilFunc])) ∧
  ((zV Tryd.prog 82=some 1)∧(zJ Tryd.prog 82=some false)∧(qI Tryd.prog 82=some 6)∧(zX Tryd.prog 82=some (84,6,48))∧(zt Tryd.prog 82=some [Value.slice none 0 0])∧(isSl Tryd.prog 82=true)∧(Tryd.prog.underlying 82=some (TypeDesc.slice 84))) ∧
  ((z5j Tryd.prog 84=some (6,1))∧(zV Tryd.prog 84=some 6)∧(zJ Tryd.prog 84=some true)∧(z8p Tryd.prog 84=some (3,1,6))∧(zt Tryd.prog 84=some [Value.int IntKind.i64 0,Value.int IntKind.i64 0,Value.int IntKind.i64 0,Value.int IntKind.i64 0,Value.int IntKind.i64 0,Value.int IntKind.i64 0])∧(z3s Tryd.prog 84=some ([Value.int IntKind.i64 0,Value.int IntKind.i64 0,Value.int IntKind.i64 0,Value.int IntKind.i64 0,Value.int IntKind.i64 0,Value.int IntKind.i64 0],1,6))∧(eqTy Tryd.prog 84=some [(0,0),(1,0),(2,0),(3,0),(4,0),(5,0)])∧(zY Tryd.prog 84=none)) ∧
  ((zV Tryd.prog 92=some 1)∧(zJ Tryd.prog 92=some false)∧(ptTy Tryd.prog 92=some true)∧(zt Tryd.prog 92=some [Value.pointer none])) ∧
  ((zV Tryd.prog 93=some 1)∧(zJ Tryd.prog 93=some false)∧(qI Tryd.prog 93=some 1)∧(zX Tryd.prog 93=some (5,1,1))∧(zt Tryd.prog 93=some [Value.slice none 0 0])∧(isSl Tryd.prog 93=true)∧(Tryd.prog.underlying 93=some (TypeDesc.slice 5))∧(z4d Tryd.prog 93=true)) ∧
  ((zV Tryd.prog 95=some 2)∧(zJ Tryd.prog 95=some true)∧(zt Tryd.prog 95=some [Value.pointer none,Value.slice none 0 0])∧(zY Tryd.prog 95=some ([Value.pointer none,Value.slice none 0 0],[(0,1),(1,1)]))∧(zw Tryd.prog 95 0=some 0)∧(zL Tryd.prog 95 0=some (92,0))∧(zw Tryd.prog 95 1=some 1)∧(zL Tryd.prog 95 1=some (93,1))) ∧
  ((zV Tryd.prog 96=some 1)∧(zJ Tryd.prog 96=some false)∧(zt Tryd.prog 96=some [Value.nilFunc])) ∧
  ((zV Tryd.prog 101=some 1)∧(zJ Tryd.prog 101=some false)∧(zt Tryd.prog 101=some [Value.nilFunc])) ∧
  ((zV Tryd.prog 102=some 1)∧(zJ Tryd.prog 102=some false)∧(zt Tryd.prog 102=some [Value.nilFunc])) ∧
  ((zV Tryd.prog 104=some 1)∧(zJ Tryd.prog 104=some false)∧(zt Tryd.prog 104=some [Value.nilFunc])) ∧
  ((zV Tryd.prog 107=some 1)∧(zJ Tryd.prog 107=some false)∧(z0z Tryd.prog 107=some (126,3,Value.int IntKind.i64 0))∧(zt Tryd.prog 107=some [Value.map none])∧(Tryd.prog.underlying 107=some (TypeDesc.map 126 3))) ∧
  ((zV Tryd.prog 109=some 1)∧(zJ Tryd.prog 109=some false)∧(zt Tryd.prog 109=some [Value.nilFunc])) ∧
  ((zV Tryd.prog 121=some 1)∧(zJ Tryd.prog 121=some false)∧(zt Tryd.prog 121=some [Value.nilFunc])) ∧
  ((zV Tryd.prog 122=some 1)∧(zJ Tryd.prog 122=some false)∧(zt Tryd.prog 122=some [Value.nilFunc])) ∧
  ((zV Tryd.prog 124=some 1)∧(zJ Tryd.prog 124=some false)∧(scTy Tryd.prog 124=some 0)∧(zt Tryd.prog 124=some [Value.int IntKind.u64 0])∧(Tryd.prog.underlying 124=some (TypeDesc.int IntKind.u64))) ∧
  ((zV Tryd.prog 126=some 3)∧(zJ Tryd.prog 126=some true)∧(zt Tryd.prog 126=some [Value.int IntKind.i64 0,Value.int IntKind.i64 0,Value.int IntKind.i64 0])∧(zY Tryd.prog 126=some ([Value.int IntKind.i64 0,Value.int IntKind.i64 0,Value.int IntKind.i64 0],[(0,1),(1,2)]))∧(zw Tryd.prog 126 0=some 0)∧(zL Tryd.prog 126 0=some (3,0))∧(zw Tryd.prog 126 1=some 1)∧(zL Tryd.prog 126 1=some (50,1))) ∧
  ((zV Tryd.prog 128=some 1)∧(zJ Tryd.prog 128=some false)∧(zt Tryd.prog 128=some [Value.nilFunc])) ∧
  ((zV Tryd.prog 132=some 1)∧(zJ Tryd.prog 132=some false)∧(scTy Tryd.prog 132=some 0)∧(zt Tryd.prog 132=some [Value.int IntKind.u64 0])∧(Tryd.prog.underlying 132=some (TypeDesc.int IntKind.u64))) ∧
  ((z5j Tryd.prog 147=some (24,1))∧(zV Tryd.prog 147=some 24)∧(zJ Tryd.prog 147=some true)∧(z8p Tryd.prog 147=some (5,1,24))∧(zt Tryd.prog 147=some [Value.int IntKind.u8 0,Value.int IntKind.u8 0,Value.int IntKind.u8 0,Value.int IntKind.u8 0,Value.int IntKind.u8 0,Value.int IntKind.u8 0,Value.int IntKind.u8 0,Value.int IntKind.u8 0,Value.int IntKind.u8 0,Value.int IntKind.u8 0,Value.int IntKind.u8 0,Value.int IntKind.u8 0,Value.int IntKind.u8 0,Value.int IntKind.u8 0,Value.int IntKind.u8 0,Value.int IntKind.u8 0,Value.int IntKind.u8 0,Value.int IntKind.u8 0,Value.int IntKind.u8 0,Value.int IntKind.u8 0,Value.int IntKind.u8 0,Value.int IntKind.u8 0,Value.int IntKind.u8 0,Value.int IntKind.u8 0])∧(z3s Tryd.prog 147=some ([Value.int IntKind.u8 0,Value.int IntKind.u8 0,Value.int IntKind.u8 0,Value.int IntKind.u8 0,Value.int IntKind.u8 0,Value.int IntKind.u8 0,Value.int IntKind.u8 0,Value.int IntKind.u8 0,Value.int IntKind.u8 0,Value.int IntKind.u8 0,Value.int IntKind.u8 0,Value.int IntKind.u8 0,Value.int IntKind.u8 0,Value.int IntKind.u8 0,Value.int IntKind.u8 0,Value.int IntKind.u8 0,Value.int IntKind.u8 0,Value.int IntKind.u8 0,Value.int IntKind.u8 0,Value.int IntKind.u8 0,Value.int IntKind.u8 0,Value.int IntKind.u8 0,Value.int IntKind.u8 0,Value.int IntKind.u8 0],1,24))∧(eqTy Tryd.prog 147=some [(0,0),(1,0),(2,0),(3,0),(4,0),(5,0),(6,0),(7,0),(8,0),(9,0),(10,0),(11,0),(12,0),(13,0),(14,0),(15,0),(16,0),(17,0),(18,0),(19,0),(20,0),(21,0),(22,0),(23,0)])∧(zY Tryd.prog 147=none)) :=
 ⟨ty_3,ty_4,ty_5,ty_9,ty_22,ty_23,ty_24,ty_26,ty_28,ty_29,ty_32,ty_33,ty_38,ty_41,ty_42,ty_43,ty_44,ty_46,ty_48,ty_50,ty_56,ty_57,ty_59,ty_61,ty_63,ty_66,ty_69,ty_72,ty_74,ty_77,ty_80,ty_82,ty_84,ty_92,ty_93,ty_95,ty_96,ty_101,ty_102,ty_104,ty_107,ty_109,ty_121,ty_122,ty_124,ty_126,ty_128,ty_132,ty_147⟩
set_option linter.defProp false in
def az := And.intro @implies_true.{0} (And.intro @implies_true.{1} (And.intro amz tys))
end Go.Proofs.YtbkkginjfnjffaaDoor
namespace Go.Proofs.YtbkkginjfnjffaaDoor
open Go.RowKit Go.Sort Go.Maps
theorem zi.upN (s:ASt) (m:Nat) (hm:s.N≤m):zi s { s with N:=m }:=fun L loc ac w hr =>
 ⟨loc,⟨hr.defers,hr.size,fun t ht=>(hr.fr t ht).mono hm (Kp.refl _ _) (fun _ _ h=>h) (fun _ _ _ h=>h),⟨fun t o ho=>let ⟨h1,u,h2,h3⟩:=hr.hp.at' t o ho;⟨Nat.lt_of_lt_of_le h1 hm,u,h2,h3.mono hm (Kp.refl _ _) (fun _ _ h=>h) (fun _ _ _ h=>h) (fun _ _=>rfl)⟩,hr.hp.dead,hr.hp.apart,hr.hp.inL,hr.hp.notL⟩⟩,Ext.refl _ _⟩
theorem zi.obj (s:ASt) (t:Nat) (o o' : AO) (hlk:s.hp.lookup t=some o) (hle : ∀ N D loc w u,OR N D loc w u o→OR N D loc w u o'):zi s { s with hp:=zU s.hp t o' }:=fun L loc ac w hr=>by
 refine ⟨loc,⟨hr.defers,hr.size,hr.fr,⟨fun k ob hk=>?_,fun k hk=>?_,hr.hp.apart,hr.hp.inL,hr.hp.notL⟩⟩,Ext.refl _ _⟩
 ·change (zU s.hp t _).lookup k=some ob at hk
  rw [qN] at hk
  by_cases e1:k=t
  ·subst e1
   rw [if_pos rfl,hlk] at hk
   cases hk
   obtain ⟨h1,u,h2,h3⟩:=hr.hp.at' k _ hlk
   exact ⟨h1,u,h2,hle _ _ _ _ _ h3⟩
  ·rw [if_neg e1] at hk
   exact hr.hp.at' k ob hk
 ·change (zU s.hp t _).lookup k=none at hk
  rw [qN] at hk
  by_cases e1:k=t
  ·subst e1;rw [if_pos rfl,hlk] at hk;cases hk
  ·rw [if_neg e1] at hk;exact hr.hp.dead k hk
theorem zi.hpe (s:ASt) (hp' : Hp) (h : ∀ t,hp'.lookup t=s.hp.lookup t):zi s { s with hp:=hp' }:=fun L loc ac w hr =>
 ⟨loc,⟨hr.defers,hr.size,hr.fr,⟨fun k o hk=>hr.hp.at' k o (by rw [← h k];exact hk),fun k hk=>hr.hp.dead k (by rw [← h k];exact hk),hr.hp.apart,hr.hp.inL,hr.hp.notL⟩⟩,Ext.refl _ _⟩
theorem OR.ofF {N:Nat} {D:Nat→Prop} {loc:Nat→Option Value} {w:World} {u:Value} {e n:Nat} {rows:List (List PV)} (hn : ∀ r ∈ rows,r.length=n) (h:OR N D loc w u (.afix e n rows.length (rows.flatten.map .p))):OR N D loc w u (.row e n rows):=by
 obtain ⟨flat,h1,h2,h3⟩:=h
 refine ⟨flat,h1,hn,fun k r j x hk hx=>?_,h3⟩
 have hf:(rows.flatten.map AV.p)[k*n+j]? = some (.p x):=by
  rw [List.getElem?_map]
  have:rows.flatten[k*n+j]? = some x:=by
   clear h1 h2 h3
   induction rows generalizing k with
   | nil=>simp at hk
   | cons r0 rs ih =>
    have hr0:=hn r0 (by simp)
    rw [List.flatten_cons]
    cases k with
    | zero =>
     cases hk
     rw [Nat.zero_mul,Nat.zero_add,List.getElem?_append_left (List.getElem?_eq_some_iff.1 hx).1]
     exact hx
    | succ k =>
     rw [List.getElem?_append_right (by rw [hr0,Nat.add_mul];omega),hr0,show (k+1)*n+j-n=k*n+j by rw [Nat.add_mul];omega]
     exact ih (fun r hr=>hn r (by simp [hr])) k (by simpa using hk)
  rw [this];rfl
 obtain ⟨v,h4,h5⟩:=h2 _ _ hf
 cases h5 with
 | p _ _ hp=>exact ⟨v,h4,hp⟩
theorem zi.ofF (s:ASt) (t e n:Nat) (rows:List (List PV)) (hn : ∀ r ∈ rows,r.length=n) (hlk:s.hp.lookup t=some (.afix e n rows.length (rows.flatten.map .p))):zi s { s with hp:=zU s.hp t (.row e n rows) }:=zi.obj s t _ _ hlk fun _ _ _ _ _ h=>h.ofF hn
end Go.Proofs.YtbkkginjfnjffaaDoor
namespace Go.Proofs.YtbkkginjfnjffaaDoor
open Go.RowKit Go.Sort
theorem Oper.z8h {P:Program} {o:Oper} {a:Act} {w:World} {K K' : Act→World→Prop} {Q Q' : Exit→Act→World→Prop} (h : ∀ a w,K a w→K' a w) (hq : ∀ e a w,e ≠ .normal→Q e a w→Q' e a w)
  (hh:o.wp P a w K Q):o.wp P a w K' Q':=by
 unfold Oper.wp at *
 generalize (execOp a.eval o).run P w=r at *
 cases r with
 | ok n w' =>
  cases n <;> simp only [Oper.upon] at hh ⊢ <;>
   first
    | exact h _ _ hh
    | exact Calls.mono hh (fun e w'' he=>by cases e <;> first|exact h _ _ he|exact hq _ _ _ (by simp) he|exact (let ⟨a',w',k⟩:=he;⟨a',w',hq _ _ _ (by simp) k⟩))
    | exact Rows.mono hh (fun _ _ he=>h _ _ he)
 | halt x w'=>cases x <;> simp only [Oper.upon] at hh ⊢ <;> first|exact hq _ _ _ (by simp) hh|exact hh|exact (let ⟨a',w',k⟩:=hh;⟨a',w',hq _ _ _ (by simp) k⟩)
def TA (P:Program) (ops:Array Oper) (K:ASt→Prop):Nat→Array Bool→ASt→Prop
 | 0,listed,s=>Region.ready .any ops listed = []∧K s
 | n+1,listed,s=>(Region.ready .any ops listed = []→K s) ∧ ∀ i ∈ Region.ready .any ops listed,∃ o,ops[i]? = some o∧o.guard=none∧zx o s∧WO P o s (TA P ops K n (listed.setIfInBounds i true))
theorem TA.sound {P:Program} {ops:Array Oper} {K:ASt→Prop} : ∀ (n:Nat) (listed:Array Bool) (s:ASt),TA P ops K n listed s → ∀ (Post:Exit→Act→World→Prop) (L:Lim) (loc:Nat→Option Value) (a:Act) (w:World),
  (∀ e a' w',z0u L loc w (NQ fun _=>K) e a' w' → Post e a' w')→Rel All L s loc a w→wpAny P .any ops Post n listed a w
 | 0,listed,s,h,Post,L,loc,a,w,hP,hr=>⟨h.1,hP _ _ _ (z0u.of ⟨rfl,h.2⟩ hr (Ext.refl _ _))⟩
 | n+1,listed,s,h,Post,L,loc,a,w,hP,hr=>⟨fun e=>hP _ _ _ (z0u.of ⟨rfl,h.1 e⟩ hr (Ext.refl _ _)),fun i hi=>by
  obtain ⟨o,ho,hg,hd,hW⟩:=h.2 i hi
  have h1:TL P ops (NQ fun _=>TA P ops K n (listed.setIfInBounds i true)) [o] s:=WO.sound (by simp [z2T,hg]) hd (WO.mono (fun s k=>TL.nil ⟨rfl,k⟩) hW)
  have h2:=h1 L loc a w hr
  unfold wpList at h2
  simp only [Region.wanted,hg,if_true] at h2
  unfold wpOp
  rw [ho]
  simp only [Region.wanted,hg,if_true]
  rcases h2 with h2|⟨_,a',w',s',loc',hx,_⟩
  ·refine .inl (Oper.z8h (fun a' w' k=>?_) (fun e a' w' hne k=>?_) h2)
   ·obtain ⟨s',loc',⟨_,hT⟩,⟨L',hr',hl⟩,hx⟩:=k
    exact TA.sound n _ s' hT Post L' loc' a' w' (fun e a2 w2 k=>hP _ _ _ (k.go hr' hl hx)) hr'
   ·obtain ⟨s',loc',⟨e1,_⟩,_⟩:=k
    exact absurd e1 hne
  ·cases hx.1⟩
theorem T.any {F:Fence} [FOk F] {P:Program} {Q:Exit→ASt→Prop} {s:ASt} {id:Nat} {l:List Oper} (hm:P.follows .mixedOrders=true) (hnd:z1y l=true) (h : ∀ K:ASt→Prop,(∀ s,Q .normal s→K s)→TA P l.toArray K l.toArray.size (Array.replicate l.toArray.size false) s):T F P (.region id l.toArray true) Q s:=fun L loc a w hr=>by
 refine wpIn_mono (wpIn_region_any hm (z3w NQ.out (z0i hnd) _ _ _ _ ?_)) fun _ _ _ k=>NQ.post k
 have hb:Blw w.heap.size w w.drew:=(Blw.refl _ w).drew
 have hr' : Rel All L s loc a w.drew:=⟨hr.defers,hr.size,fun t ht=>(hr.fr t ht).blw hb,hr.hp.below hb⟩
 exact TA.sound _ _ s (h (Q .normal) fun _ h=>h) _ L loc a w.drew (fun e a' w' ⟨s',loc',⟨h0,h1⟩,h2,h3⟩=>z0u.ext (.of_below hb) ⟨s',loc',⟨h0,h1⟩,h2,h3⟩) hr'
theorem TA.next {P:Program} {ops:Array Oper} {K:ASt→Prop} {n:Nat} {listed:Array Bool} {s:ASt} (r:List Nat) (hr:Region.ready .any ops listed=r) (hne:r ≠ []) (h : ∀ J:Nat→ASt→Prop,(∀ i s,TA P ops K n (listed.setIfInBounds i true) s→J i s) → ∀ i ∈ r,∃ o,ops[i]? = some o∧o.guard=none∧zx o s∧WO P o s (J i)):TA P ops K (n+1) listed s :=
 ⟨fun e=>absurd (hr.symm.trans e) hne,by rw [hr];exact h _ fun i s h=>h⟩
def allL:List Oper→Nat→(Nat→Oper→Prop)→Prop
 | [],_,_=>True
 | o :: r,k,f=>f k o∧allL r (k+1) f
theorem z6d : ∀ {l:List Oper} {k:Nat} {f:Nat→Oper→Prop},allL l k f → ∀ i o,l[i]? = some o→f (k+i) o
 | [],_,_,_,i,o,ho=>by simp at ho
 | p :: r,k,f,h,0,o,ho=>by cases ho;exact h.1
 | p :: r,k,f,h,i+1,o,ho=>by
  have:=z6d h.2 i o (by simpa using ho)
  rwa [show k+1+i=k+(i+1) by omega] at this
def depB (l:List Oper) (b:Nat→Bool) (i:Nat):Bool:=(List.range l.length).all fun j => !z1u l.toArray i j||b j
def zS (b:Nat→Bool) (i:Nat):Nat→Bool:=fun j=>j==i||b j
def ordB (l:List Oper):Bool:=(List.range l.length).all fun i=>match l[i]? with
 | some o=>o.after.all fun e => !Region.binds .any e||decide (e.on<i)
 | none=>true
theorem zg {l:List Oper} {b:Nat→Bool} {i j:Nat} (h:depB l b i=true) (hj:j<l.length) (he:z1u l.toArray i j=true):b j=true:=by
 have:=List.all_eq_true.1 h j (List.mem_range.2 hj)
 rw [he] at this
 simpa using this
theorem T.inv {F:Fence} [FOk F] {P:Program} {Q:Exit→ASt→Prop} {s:ASt} {id:Nat} {l:List Oper} (S:(Nat→Bool)→ASt) (hm:P.follows .mixedOrders=true) (hB:(z1y l&&ordB l)=true) (h0:zi s (S fun _=>false))
  (step : ∀ (b:Nat→Bool),(∀ j,j<l.length→b j=true→depB l b j=true)→allL l 0 fun i o=>b i=false→depB l b i=true→o.guard=none∧zx o (S b)∧WO P o (S b) fun s'=>zi s' (S (zS b i)))
  (h : ∀ K:ASt→Prop,(∀ s,Q .normal s→K s)→K (S fun j=>decide (j<l.length))):T F P (.region id l.toArray true) Q s:=fun L loc a w hr=>by
 obtain ⟨hnd,hord⟩:=Bool.and_eq_true_iff.1 hB
 refine wpIn_mono (wpIn_region_any hm (z3w NQ.out (z0i hnd) _ _ _ _ ?_)) fun _ _ _ k=>NQ.post k
 change wpAny P .any l.toArray (z0u L loc w (NQ Q)) _ _ a w.drew
 have hb:Blw w.heap.size w w.drew:=(Blw.refl _ w).drew
 have hr' : Rel All L s loc a w.drew:=⟨hr.defers,hr.size,fun t ht=>(hr.fr t ht).blw hb,hr.hp.below hb⟩
 have dep : ∀ {listed:Array Bool} {i:Nat},i ∈ Region.ready .any l.toArray listed→depB l (fun j=>listed.getD j false) i=true:=by
  intro listed i hi
  obtain ⟨_,o',ho',hall⟩:=mem_ready.1 hi
  refine List.all_eq_true.2 fun j _=>?_
  cases he:z1u l.toArray i j with
  | false=>rfl
  | true =>
   obtain ⟨o,e,h1,h2,h3,h4⟩:=z0S he
   rw [h1] at ho';cases ho'
   rw [Bool.not_true,Bool.false_or,← h4]
   exact hall e h2 h3
 have hset : ∀ {listed:Array Bool} {i:Nat},i<listed.size→(fun j=>(listed.setIfInBounds i true).getD j false)=zS (fun j=>listed.getD j false) i:=by
  intro listed i hi
  funext j
  unfold zS
  simp only [Array.getD_eq_getD_getElem?,Array.getElem?_setIfInBounds]
  by_cases e:j=i
  ·subst e;simp [hi]
  ·rw [if_neg (fun h=>e h.symm),show (j==i)=false by simpa using e,Bool.false_or]
 let I:Array Bool→Act→World→Prop:=fun listed a' w'=>listed.size=l.length∧(∀ j,j<l.length→listed.getD j false=true→depB l (fun j=>listed.getD j false) j=true) ∧ ∃ loc' L',Rel All L' (S fun j=>listed.getD j false) loc' a' w' ∧ LX L w.drew L' w' ∧ Ext loc w.drew loc' w'
 refine (fun start step done=>z4H I step done _ _ _ _ (by simp [left]) start) ?_ ?_ ?_
 ·obtain ⟨loc',h1,h2⟩:=h0 L loc a w.drew hr'
  refine ⟨by simp,fun j _ hj=>(by rw [getD_replicate_false] at hj;cases hj),loc',L,?_,.refl _ _ _,h2⟩
  have e:(fun j=>(Array.replicate l.toArray.size false).getD j false)=fun _=>false:=by funext j;exact getD_replicate_false ..
  rw [e]
  exact h1
 ·intro listed a' w' i ⟨hsz,hcl,loc',L',hrel,hlx,hext⟩ hrdy
  obtain ⟨hun,o,hio',_⟩:=mem_ready.1 hrdy
  have hio:l[i]? = some o:=by simpa using hio'
  have hil:i<l.length:=(List.getElem?_eq_some_iff.1 hio).1
  have hun' : listed.getD i false=false:=by
   have hlt:i<listed.size:=by omega
   simp [hlt] at hun ⊢
   exact hun
  have hst:=z6d (step (fun j=>listed.getD j false) hcl) i o hio
  rw [Nat.zero_add] at hst
  obtain ⟨hg,hd,hW⟩:=hst hun' (dep hrdy)
  have h1:TL P l.toArray (NQ fun _=>fun s'=>zi s' (S (zS (fun j=>listed.getD j false) i))) [o] (S fun j=>listed.getD j false):=WO.sound (by simp [z2T,hg]) hd (WO.mono (fun s k=>TL.nil ⟨rfl,k⟩) hW)
  have h2:=h1 L' loc' a' w' hrel
  unfold wpList at h2
  simp only [Region.wanted,hg,if_true] at h2
  unfold wpOp
  rw [hio']
  simp only [Region.wanted,hg,if_true]
  rcases h2 with h2|⟨_,a2,w2,s2,loc2,hx,_⟩
  ·refine .inl (Oper.z8h (fun a2 w2 k=>?_) (fun e a2 w2 hne k=>?_) h2)
   ·obtain ⟨s2,loc2,⟨_,hT⟩,⟨L2,hr2,hl2⟩,hx2⟩:=k
    obtain ⟨loc3,hr3,hx3⟩:=hT L2 loc2 a2 w2 hr2
    refine ⟨by simp [hsz],fun j hj hjl=>?_,loc3,L2,?_,hlx.trans hl2 hx2 hrel.hp.notL hext.kp.size,hext.trans (hx2.trans hx3)⟩
    ·rw [hset (by omega)]
     rw [show ((listed.setIfInBounds i true).getD j false)=zS (fun j=>listed.getD j false) i j by rw [← hset (by omega)]] at hjl
     have mono : ∀ k,depB l (fun j=>listed.getD j false) k=true→depB l (zS (fun j=>listed.getD j false) i) k=true:=fun k hk=>List.all_eq_true.2 fun m hm=>by
      have:=List.all_eq_true.1 hk m hm
      simp only [Bool.or_eq_true,zS] at this ⊢
      exact this.imp_right fun h => .inr h
     unfold zS at hjl
     rcases Bool.or_eq_true_iff.1 hjl with e|e
     ·rw [beq_iff_eq] at e;subst e;exact mono _ (dep hrdy)
     ·exact mono _ (hcl j hj e)
    ·rw [hset (by omega)];exact hr3
   ·obtain ⟨s2,loc2,⟨e1,_⟩,_⟩:=k
    exact absurd e1 hne
  ·cases hx.1
 ·intro listed a' w' ⟨hsz,hcl,loc',L',hrel,hlx,hext⟩ hrdy
  have hall : ∀ n,∀ j,j<n→j<l.length→listed.getD j false=true:=by
   intro n
   induction n with
   | zero=>intro j hj;omega
   | succ n ih =>
    intro j hj hjl
    rcases Nat.lt_or_ge j n with h1|h1
    ·exact ih j h1 hjl
    ·cases hjb:listed.getD j false with
     | true=>rfl
     | false =>
      have hjo:l[j]? = some l[j]:=List.getElem?_eq_getElem hjl
      have hmem:j ∈ Region.ready .any l.toArray listed:=mem_ready.2 ⟨by
       have hlt:j<listed.size:=by omega
       simp [hlt] at hjb ⊢
       exact hjb,l[j],by simp,fun e he hbd=>by
       have h2:=List.all_eq_true.1 hord j (List.mem_range.2 hjl)
       rw [hjo] at h2
       have h3:=Array.all_eq_true_iff_forall_mem.1 h2 e he
       rw [hbd] at h3
       simp at h3
       exact ih e.on (by omega) (by omega)⟩
      rw [hrdy] at hmem
      cases hmem
  have e:(fun j=>listed.getD j false)=fun j=>decide (j<l.length):=by
   funext j
   by_cases hj:j<l.length
   ·rw [hall (j+1) j (by omega) hj];simp [hj]
   ·have : ¬ j<listed.size:=by omega
    simp [hj,this]
  rw [e] at hrel
  exact z0u.ext (.of_below hb) ⟨_,loc',⟨rfl,h (Q .normal) fun _ h=>h⟩,⟨L',hrel,hlx⟩,hext⟩
theorem zi.slots {fr fr' : List (Nat × AV)} {hp:Hp} {n N:Nat} (hfr : ∀ p ∈ fr',AVle (ASt.get ⟨fr,hp,n,N⟩ p.1) p.2):zi ⟨fr,hp,n,N⟩ ⟨fr',hp,n,N⟩:=fun L loc a w hr =>
 ⟨loc,⟨hr.defers,hr.size,fun t ht=>by
  have h1:=hr.fr t ht
  simp only [ASt.get] at h1 ⊢
  cases h2:fr'.lookup t with
  | none=>exact .zn _
  | some x =>
   have hmem:(t,x) ∈ fr':=by
    clear hfr
    induction fr' with
    | nil=>cases h2
    | cons p r ih =>
     obtain ⟨k,y⟩:=p
     rw [List.lookup_cons] at h2
     split at h2
     ·rename_i e
      cases h2
      rw [beq_iff_eq] at e
      subst e
      exact List.mem_cons_self
     ·exact List.mem_cons_of_mem _ (ih h2)
   exact hfr _ hmem _ _ _ _ _ h1,hr.hp⟩,Ext.refl _ _⟩
end Go.Proofs.YtbkkginjfnjffaaDoor
namespace Go.Proofs.YtbkkginjfnjffaaDoor
open Go.RowKit Go.Sort Go.Maps
theorem zi.frm (s:ASt) (fr' : List (Nat × AV)) (hp' : Hp) (m:Nat) (he : ∀ t,hp'.lookup t=s.hp.lookup t) (hfr : ∀ p ∈ fr',AVle (s.get p.1) p.2) (hok:(fr'.all fun p=>p.2.okB m)=true) (hhp : ∀ t o,hp'.lookup t=some o→t<m∧o.okB m=true):zi s ⟨fr',hp',s.n,m⟩:=fun L loc ac w hr=>by
 refine ⟨loc,⟨hr.defers,hr.size,fun t _=>?_,⟨fun t o ht=>?_,fun t ht=>hr.hp.dead t (by rw [← he t];exact ht),hr.hp.apart,hr.hp.inL,hr.hp.notL⟩⟩,Ext.refl _ _⟩
 ·unfold ASt.get
  cases ht:fr'.lookup t with
  | none=>exact .zn _
  | some x =>
   have hm:=qU ht
   exact (hfr _ hm _ _ _ _ _ (hr.fr t trivial)).low (List.all_eq_true.1 hok _ hm)
 ·obtain ⟨_,u,h3,h4⟩:=hr.hp.at' t o (by rw [← he t];exact ht)
  obtain ⟨h5,h6⟩:=hhp t o ht
  exact ⟨h5,u,h3,h4.low h6⟩
theorem AO.qD (t t' : Nat) (pin:Option Nat) (ty:TypeId) (cs:List AV):AO.ren t t' (.boxP pin ty cs) = .boxP pin ty (cs.map (AV.ren t t')):=rfl
theorem AO.qG (t t' : Nat) (e n:Nat) (rows:List (List PV)):AO.ren t t' (.row e n rows) = .row e n rows:=rfl
theorem AO.qE (t t' : Nat) (pin:Option Nat) (P:Program) (k n:Nat) (f:Lit→Option Value):AO.ren t t' (.map pin P k n f) = .map pin P k n f:=rfl
theorem AO.qF (t t' : Nat) (u:Value) (ob:Obj):AO.ren t t' (.raw u ob) = .raw u ob:=rfl
theorem AO.keep_box (n:Nat) (ks:List Nat) (pin:Option Nat) (ty:TypeId) (cs:List AV):AO.keep n ks (.boxP pin ty cs) = .boxP pin ty (cs.map (AV.keep n ks)):=rfl
theorem AO.keep_raw (n:Nat) (ks:List Nat) (u:Value) (ob:Obj):AO.keep n ks (.raw u ob) = .raw u ob:=rfl
theorem AO.z2s (b:Nat) (ty:TypeId) (cs:List AV):AO.handle (.boxP (some b) ty cs)=some (.pointer (some ⟨b,0,none⟩)):=rfl
theorem AO.z3R (t t' : Nat) (e m len:Nat) (cs:List AV):AO.ren t t' (.afix e m len cs) = .afix e m len (cs.map (AV.ren t t')):=rfl
theorem qQ {α:Type} {f : α → α} {l:List α} (h : ∀ x ∈ l,f x=x):l.map f=l:=by
 rw [List.map_congr_left (g:=id) h,List.map_id]
theorem AV.z1g {t n:Nat} (y:AV) (h:n≤t) : ∀ x:AV,x.okB n=true→AV.sub t y x=x
 | .own k,hx=>by simp only [AV.okB,decide_eq_true_eq] at hx;simp only [AV.sub];rw [if_neg (by omega)]
 | .pre k m,hx=>by simp only [AV.okB,decide_eq_true_eq] at hx;simp only [AV.sub];rw [if_neg (by omega)]
 | .suf k j m,hx=>by simp only [AV.okB,decide_eq_true_eq] at hx;simp only [AV.sub];rw [if_neg (by omega)]
 | .ptr k m,hx=>by simp only [AV.okB,decide_eq_true_eq] at hx;simp only [AV.sub];rw [if_neg (by omega)]
 | .rptr k m i j,hx=>by simp only [AV.okB,decide_eq_true_eq] at hx;simp only [AV.sub];rw [if_neg (by omega)]
 | .fn f cs,hx=>by
  rw [AV.qp,List.all_eq_true] at hx
  rw [AV.z5c,qQ fun c hc=>AV.z1g y h c (hx c hc)]
 | .agg cs,hx=>by
  rw [AV.zN,List.all_eq_true] at hx
  rw [AV.z1o,qQ fun c hc=>AV.z1g y h c (hx c hc)]
 | .tup cs,hx=>by
  rw [AV.z2g,List.all_eq_true] at hx
  rw [AV.z1p,qQ fun c hc=>AV.z1g y h c (hx c hc)]
 | .p x,_=>by simp only [AV.sub]
 | .elt r k,_=>by simp only [AV.sub]
 | .cap0,_=>by simp only [AV.sub]
 | .zn,_=>by simp only [AV.sub]
termination_by x=>SizeOf.sizeOf x
decreasing_by all_goals (have:=List.sizeOf_lt_of_mem hc;simp;omega)
theorem AV.z2G {t t' n:Nat} (h:n≤t) (h' : n≤t') : ∀ x:AV,x.okB n=true→AV.ren t t' x=x
 | .own k,hx=>by simp only [AV.okB,decide_eq_true_eq] at hx;rw [AV.zZ,if_neg (by omega),if_neg (by omega)]
 | .suf k j m,hx=>by simp only [AV.okB,decide_eq_true_eq] at hx;rw [AV.ren_suf,if_neg (by omega),if_neg (by omega)]
 | .pre k m,hx=>by simp only [AV.okB,decide_eq_true_eq] at hx;rw [AV.qz,if_neg (by omega),if_neg (by omega)]
 | .ptr k m,hx=>by simp only [AV.okB,decide_eq_true_eq] at hx;rw [AV.zF,if_neg (by omega),if_neg (by omega)]
 | .rptr k m i j,hx=>by simp only [AV.okB,decide_eq_true_eq] at hx;rw [AV.qd,if_neg (by omega),if_neg (by omega)]
 | .fn f cs,hx=>by
  rw [AV.qp,List.all_eq_true] at hx
  rw [AV.qR,qQ fun c hc=>AV.z2G h h' c (hx c hc)]
 | .agg cs,hx=>by
  rw [AV.zN,List.all_eq_true] at hx
  rw [AV.zC,qQ fun c hc=>AV.z2G h h' c (hx c hc)]
 | .tup cs,hx=>by
  rw [AV.z2g,List.all_eq_true] at hx
  rw [AV.qj,qQ fun c hc=>AV.z2G h h' c (hx c hc)]
 | .p x,_=>by rw [AV.zW]
 | .elt r k,_=>by rw [AV.zD]
 | .cap0,_=>by rw [AV.qc]
 | .zn,_=>by rw [AV.zq]
termination_by x=>SizeOf.sizeOf x
decreasing_by all_goals (have:=List.sizeOf_lt_of_mem hc;simp;omega)
theorem AO.z1g {t n:Nat} (y:AV) (h:n≤t) {o:AO} (ho:o.okB n=true):o.sub t y=o:=by
 cases o with
 | boxP pin ty cs=>rw [AO.zH,List.all_eq_true] at ho;rw [AO.z4E,qQ fun c hc=>AV.z1g y h c (ho c hc)]
 | row e m rows=>rfl
 | map pin P k m f=>rfl
 | raw u ob=>rfl
 | lrec l sp fr =>
  rw [AO.z0c,List.all_eq_true] at ho
  rw [AO.z3g,qQ fun c hc=>by rw [AV.z1g y h c.2 (ho c hc)]]
 | amap P k m f q =>
  simp only [AO.okB,decide_eq_true_eq] at ho
  rw [AO.sub_amap]
  congr 1
  funext l
  cases hf:f l with
  | none=>rfl
  | some x=>rw [Option.map_some,AV.z1g y h x (ho l x hf)]
 | arow e cs=>rw [AO.z5z,List.all_eq_true] at ho;rw [AO.z8b,qQ fun c hc=>AV.z1g y h c (ho c hc)]
 | afix e m9 len cs=>rw [AO.z0R,List.all_eq_true] at ho;rw [AO.z8a,qQ fun c hc=>AV.z1g y h c (ho c hc)]
theorem AO.z2G {t t' n:Nat} (h:n≤t) (h' : n≤t') {o:AO} (ho:o.okB n=true):o.ren t t' = o:=by
 cases o with
 | boxP pin ty cs=>rw [AO.zH,List.all_eq_true] at ho;simp only [AO.ren];rw [qQ fun c hc=>AV.z2G h h' c (ho c hc)]
 | row e m rows=>rfl
 | map pin P k m f=>rfl
 | raw u ob=>rfl
 | lrec l sp fr =>
  rw [AO.z0c,List.all_eq_true] at ho
  simp only [AO.ren]
  rw [qQ fun c hc=>by rw [AV.z2G h h' c.2 (ho c hc)]]
 | amap P k m f q =>
  simp only [AO.okB,decide_eq_true_eq] at ho
  simp only [AO.ren]
  congr 1
  funext l
  cases hf:f l with
  | none=>rfl
  | some x=>rw [Option.map_some,AV.z2G h h' x (ho l x hf)]
 | arow e cs=>rw [AO.z5z,List.all_eq_true] at ho;simp only [AO.ren];rw [qQ fun c hc=>AV.z2G h h' c (ho c hc)]
 | afix e m9 len cs=>rw [AO.z0R,List.all_eq_true] at ho;simp only [AO.ren];rw [qQ fun c hc=>AV.z2G h h' c (ho c hc)]
structure HpOk (n:Nat) (hp:Hp):Prop where
 ok : ∀ p ∈ hp,p.1<n∧p.2.okB n=true
 one : ∀ p ∈ hp,hp.lookup p.1=some p.2
namespace HpOk
variable {n:Nat} {hp:Hp} (h:HpOk n hp)
include h
theorem none {t:Nat} (ht:n≤t):hp.lookup t=Option.none:=by
 cases hl:hp.lookup t with
 | none=>rfl
 | some o=>have:=(h.ok _ (qU hl)).1;simp only at this;omega
theorem at' {t:Nat} {o:AO} (hl:hp.lookup t=some o):t<n∧o.okB n=true:=h.ok _ (qU hl)
theorem sub {t:Nat} (y:AV) (ht:n≤t):List.map (fun p=>(p.1,AO.sub t y p.2)) hp=hp:=qQ fun p hp=>by rw [AO.z1g y ht (h.ok p hp).2]
theorem ren {t t' : Nat} (ht:n≤t) (ht' : n≤t'):List.map (fun p=>(p.1,AO.ren t t' p.2)) hp=hp:=qQ fun p hp=>by rw [AO.z2G ht ht' (h.ok p hp).2]
theorem set {t:Nat} (o:AO) (ht:n≤t):List.map (fun p=>if p.1=t then (t,o) else p) hp=hp:=qQ fun p hp=>by rw [if_neg];have:=(h.ok p hp).1;omega
theorem le:List.filter (fun p=>decide (n≤p.1)) hp = []:=List.filter_eq_nil_iff.2 fun p hp=>by have:=(h.ok p hp).1;simp;omega
theorem all:hp.all (fun p=>decide (p.1<n)&&p.2.okB n)=true:=List.all_eq_true.2 fun p hp=>by have:=h.ok p hp;simp [this.1,this.2]
end HpOk
theorem z7S (a b:Hp) (t:Nat):List.lookup t (a++b)=(a.lookup t).or (b.lookup t):=z2u a b t
theorem z5Z.of {P:Program} {fr:List (Nat × AV)} {hp:Hp} {n N y:Nat} {xs:List AV} {d:Option Nat} {K:ASt→Prop} (m:Nat) (A H H' : Hp) (l:Nat) (sp:LSpec) (fr0:List (Nat × AV)) (hs:hp=A++H) (hA : ∀ p ∈ A,m≤p.1) (hAk:A.map (fun p=>(p.1,p.2.keep m [y]))=A) (hH:HpOk m H) (hyc:YldC P l m H xs fun hp' r=>hp' = H' ∧ r = .bool true)
  (hlk:H.lookup y=some (.lrec l sp fr0)) (hk:Kept H H' y) (hN:m≤N) (hxs:(xs.all (·.okB m))=true) (hK:K (ASt.put ⟨fr.map fun p=>(p.1,p.2.keep m [y]),H' ++ A,n,N⟩ d (.bool true))):z5Z P ⟨fr,hp,n,N⟩ y xs d K:=by
 have hAn : ∀ {t:Nat},t<m→A.lookup t=none:=fun {t} ht=>by
  cases hl:A.lookup t with
  | none=>rfl
  | some o=>have:=hA _ (qU hl);simp only at this;omega
 refine ⟨m,H,_,[y],l,sp,fr0,hyc,?_,⟨hN,fun p hp=>?_,fun p hp hlt=>?_⟩,hxs,?_⟩
 ·show List.lookup y hp=_
  rw [hs,z7S,hAn (hH.at' hlk).1,hlk];rfl
 ·obtain ⟨h1,h2⟩:=hH.ok p hp
  refine ⟨?_,h1,h2⟩
  show List.lookup p.1 _=_
  rw [hs,z7S,hAn h1,hH.one p hp];rfl
 ·have hp' : p ∈ A++H:=hs ▸ hp
  rcases List.mem_append.1 hp' with h1|h1
  ·have:=hA p h1;omega
  ·rw [hH.one p h1];rfl
 ·rintro hp' r ⟨rfl,rfl⟩
  refine ⟨fun t ht _=>?_,?_⟩
  ·rw [List.mem_singleton.1 ht];exact hk
  ·have e:ASt.qh ⟨fr,hp,n,N⟩ m [y] hp' = ⟨fr.map fun p=>(p.1,p.2.keep m [y]),hp' ++ A,n,N⟩:=by
    unfold ASt.qh
    simp only [hs,List.filter_append,hH.le,List.append_nil]
    rw [List.filter_eq_self.2 fun p hp=>by simpa using hA p hp,hAk]
   rw [e]
   exact hK
theorem zi.subs (s:ASt) (fr' : List (Nat × AV)) (hp' : Hp) (m:Nat) (he : ∀ t o,hp'.lookup t=some o→s.hp.lookup t=some o) (hfr : ∀ p ∈ fr',AVle (s.get p.1) p.2) (hok:(fr'.all fun p=>p.2.okB m)=true) (hhp : ∀ t o,hp'.lookup t=some o→t<m∧o.okB m=true):zi s ⟨fr',hp',s.n,m⟩:=fun L loc ac w hr=>by
 let loc' : Nat→Option Value:=fun t=>if (hp'.lookup t).isSome then loc t else none
 have hl : ∀ t u,loc' t=some u→loc t=some u:=fun t u h=>by
  simp only [loc'] at h
  split at h
  ·exact h
  ·cases h
 have hD : ∀ k,Dm L loc' k→Dm L loc k:=fun k hk=>hk.imp id fun ⟨t,u,h1,h2⟩=>⟨t,u,hl t u h1,h2⟩
 refine ⟨loc',⟨hr.defers,hr.size,fun t _=>?_,⟨fun t o ht=>?_,fun t ht=>?_,fun t t' u u' b h1 h2=>hr.hp.apart t t' u u' b (hl _ _ h1) (hl _ _ h2),hr.hp.inL,fun t u b h1=>hr.hp.notL t u b (hl _ _ h1)⟩⟩,⟨Kp.refl _ _,fun b hb => .inl (hb.imp id fun ⟨t,u,h1,h2⟩=>⟨t,u,hl t u h1,h2⟩)⟩⟩
 ·unfold ASt.get
  cases ht:fr'.lookup t with
  | none=>exact .zn _
  | some x =>
   have hm:=qU ht
   have h1:=hfr _ hm _ _ _ _ _ (hr.fr t trivial)
   exact (h1.low (List.all_eq_true.1 hok _ hm)).mono (Nat.le_refl _) (Kp.refl _ _) (fun k _ h=>hD k h) (fun t u _ h=>hl t u h)
 ·obtain ⟨_,u,h3,h4⟩:=hr.hp.at' t o (he t o ht)
  obtain ⟨h5,h6⟩:=hhp t o ht
  refine ⟨h5,u,by simp [loc',ht,h3],(h4.low h6).mono (Nat.le_refl _) (Kp.refl _ _) (fun k _ h=>hD k h) (fun t u _ h=>hl t u h) (fun _ _=>rfl)⟩
 ·simp [loc',ht]
theorem lk_swap {A H:Hp} (hA : ∀ p ∈ A,2000000≤p.1) (hH:HpOk 2000000 H) (t:Nat):List.lookup t (A++H)=List.lookup t (H++A):=by
 rw [z7S,z7S]
 by_cases h:t<2000000
 ·have:A.lookup t=none:=by
   cases hl:A.lookup t with
   | none=>rfl
   | some o=>have:=hA _ (qU hl);simp only at this;omega
  rw [this];simp
 ·rw [hH.none (by omega)];simp
theorem T.z5I {P:Program} {Q:Exit→ASt→Prop} {s:ASt} {g:Operand} {ps:Array Tmp} {assign body:Code} (gf:FuncId) (caps:List AV) (fr:List (Nat × AV)) (hg:s.ev g = .fn (.func gf) caps) (he:Ent P gf) (hfr : ∀ p ∈ fr,s.get p.1=p.2)
  (hc : ∀ l sp,sp.n=s.n→sp.ps=ps→sp.assign=assign→sp.body=body → ∃ n hp I ks,MemC P gf n hp (.own s.N :: caps) I∧Passes (s.add (.lrec l sp fr)) n hp∧((AV.own s.N :: caps).all (·.okB n))=true ∧ ∀ hp' r,I hp' r→(∀ t ∈ ks,t<n→Kept hp hp' t)∧(∃ fr',hp'.lookup s.N=some (.lrec l sp fr')) ∧
   ∀ ob,Q .normal { (s.add (.lrec l sp fr)).qh n ks hp' with hp:=zU ((s.add (.lrec l sp fr)).qh n ks hp').hp s.N (.raw (.func (.yield l) #[] #[]) ob) }):T Fence.wide P (.rangeFunc g ps assign body) Q s :=
 T.rangeF gf caps fr hg he hfr fun l fn D=>hc l ⟨s.n,fn,ps,assign,body,D⟩ rfl rfl rfl rfl
theorem HpOk.cons {n t:Nat} {o:AO} {hp:Hp} (h:HpOk n hp) (ht:t<n) (ho:o.okB n=true) (hn:hp.lookup t=Option.none):HpOk n ((t,o) :: hp) :=
 ⟨fun p hp=>by
  rcases List.mem_cons.1 hp with rfl|h1
  ·exact ⟨ht,ho⟩
  ·exact h.ok p h1,fun p hp=>by
  rcases List.mem_cons.1 hp with rfl|h1
  ·rw [zG]
  ·rw [zu,h.one p h1]
   intro e
   have:=h.one p h1
   rw [e,hn] at this
   cases this⟩
theorem FinM.ret {P:Program} {fn:Func} {N:Nat} {Q:Hp→AV→Prop} {r:AV} {s s' : ASt} {e:Exit} (he:e = .normal∨e = .ret) {rs:Array ResultVar} (hrs:fn.results=rs) (hw:zi s s') (hN:s'.N=N) (h:zR P s' rs.toList=some r) (hq:Q s'.hp r):FinM P fn N Q e s:=⟨he,s',hw,hN,r,by rw [hrs];exact h,hq⟩
end Go.Proofs.YtbkkginjfnjffaaDoor
namespace Go.Proofs.YtbkkginjfnjffaaDoor
open Go.RowKit Go.Sort
theorem drop_at {α:Type} {l:List α} {k:Nat} {x : α} (h:l[k]? = some x):l.drop k=x :: l.drop (k+1):=by
 obtain ⟨h1,h2⟩:=List.getElem?_eq_some_iff.1 h
 rw [List.drop_eq_getElem_cons h1,h2]
theorem z01 {α:Type} {l:List α} {k:Nat} (h:k<l.length) : ∃ x,l[k]? = some x:=⟨_,List.getElem?_eq_getElem h⟩
structure Ev where
 g:Int
 kind:Int
 obj:Int
 off:Int
 k:Int
 n:Int
 fn:Int
 pc:Int
 st:Int
def evC (e:Ev):List PV := [.val (.int .i64 e.g),.val (.int .i64 e.kind),.val (.int .i64 e.obj),.val (.int .i64 e.off),.val (.int .i64 e.k),.val (.int .i64 e.n),.val (.int .i64 e.fn),.val (.int .i64 e.pc),.val (.int .i64 e.st)]
def evA (e:Ev):AV := .agg ((evC e).map .p)
def rowZ (ev:List Int):List (List PV):=ev.map fun x => [PV.val (.int .i64 x)]
theorem z07 (ev:List Int):(rowZ ev).length=ev.length:=by simp [rowZ]
theorem z09 {ev:List Int} {k:Nat} {x:Int} (h:ev[k]? = some x):(rowZ ev)[k]? = some [PV.val (.int .i64 x)]:=by simp [rowZ,h]
abbrev P2:=Int × Int
def rowP (l:List P2):List (List PV):=l.map fun x => [PV.val (.int .i64 x.1),PV.val (.int .i64 x.2)]
theorem qO (l:List P2):(rowP l).length=l.length:=by simp [rowP]
theorem z0e {l:List P2} {k:Nat} {x:P2} (h:l[k]? = some x):(rowP l)[k]? = some [PV.val (.int .i64 x.1),PV.val (.int .i64 x.2)]:=by simp [rowP,h]
theorem z6J (l:List P2) (x:P2):rowP l ++ [[PV.val (.int .i64 x.1),PV.val (.int .i64 x.2)]]=rowP (l ++ [x]):=by simp [rowP]
def dpA (ss:List P2) (ps:List Int):AV := .agg [.p (.seq 2 (rowP ss)),.p (.seq 1 (rowZ ps))]
def trA (l:List Ev) (ss:List P2) (ps:List Int):AV := .agg [.p (.seq 9 (l.map evC)),.p (.seq 2 (rowP ss)),.p (.seq 1 (rowZ ps))]
def p2A (r:P2):AV := .agg [.int r.1,.int r.2]
theorem lkc (c:Bool) (t k:Nat) (o:AO) (r:Hp):List.lookup t ((bif c then [(k,o)] else [])++r)=if t=k then (bif c then some o else List.lookup t r) else List.lookup t r:=by
 cases c
 ·simp
 ·rw [cond_true,List.cons_append,List.nil_append,zm];rfl
def inA (e:Ev):AV := .agg [.int e.fn,.int e.pc,.int e.kind]
theorem of_ok (e:Ev):zy Tryd.prog 19 [evA e] (inA e):=by
 simp only [evA,evC,List.map_cons,List.map_nil,inA]
 refine zy.of Tryd.func19 rfl 10 rfl (by decide) (by simp [AV.okB]) ?_
 repeat' (first|refine T.zk fun K hK=>?_|apply T.block|(refine T.reg (by kernel_rfl) fun K' hK'=>?_;simp only [bz];(with_reducible repeat' (first|(apply WL.fin;apply hK';clear hK' K')|(refine WL.step fun K2 hK2=>?_;simp only [simprocAttr,implies_true,amz,zb,tys];repeat' (first|(apply hK2;clear hK2 K2)|apply And.intro|intro hb)))))|apply T.skip|apply T.exit|refine T.zf rfl ?_|refine T.ze rfl ?_|refine T.cond rfl (fun hc=>?_) (fun hc=>?_)|apply T.ret|simp only [za,z8,reduceIte,Nat.reduceEqDiff]|((repeat ((fail_if_success apply hK);clear hK K));apply hK;clear hK K))
 all_goals (refine qf.ret (.inr rfl) Tryd.results19 ?_;simp only [zR,zA,zB,simprocAttr,implies_true,amz,zb,tys,])
def z2i (s:P2):Bool:=decide (0≤s.1)&&decide (0≤s.2)
theorem z6E (s:P2):zy Tryd.prog 60 [p2A s] (.bool (z2i s)):=by
 simp only [p2A]
 refine zy.of Tryd.func60 rfl 11 rfl (by decide) (by simp [AV.okB]) ?_
 repeat' (first|refine T.zk fun K hK=>?_|apply T.block|(refine T.reg (by kernel_rfl) fun K' hK'=>?_;simp only [bz];(with_reducible repeat' (first|(apply WL.fin;apply hK';clear hK' K')|(refine WL.step fun K2 hK2=>?_;simp only [simprocAttr,implies_true,amz,zb,tys];repeat' (first|(apply hK2;clear hK2 K2)|apply And.intro|intro hb)))))|apply T.skip|apply T.exit|refine T.zf rfl ?_|refine T.ze rfl ?_|refine T.cond rfl (fun hc=>?_) (fun hc=>?_)|apply T.ret|simp only [za,z8,reduceIte,Nat.reduceEqDiff]|((repeat ((fail_if_success apply hK);clear hK K));apply hK;clear hK K))
 all_goals (refine qf.ret (.inr rfl) Tryd.results60 ?_;simp only [zR,zA,zB,simprocAttr,implies_true,amz,zb,tys,];first|(simp [z2i, *];done)|(simp_all [z2i];done)|(simp_all [z2i];omega))
theorem z5r (x:Int):zy Tryd.prog 62 [.int x] (.bool false):=by
 refine zy.of Tryd.func62 rfl 6 rfl (by decide) (by simp [AV.okB]) ?_
 repeat' (first|refine T.zk fun K hK=>?_|apply T.block|(refine T.reg (by kernel_rfl) fun K' hK'=>?_;simp only [bz];(with_reducible repeat' (first|(apply WL.fin;apply hK';clear hK' K')|(refine WL.step fun K2 hK2=>?_;simp only [simprocAttr,implies_true,amz,zb,tys];repeat' (first|(apply hK2;clear hK2 K2)|apply And.intro|intro hb)))))|apply T.skip|apply T.exit|refine T.zf rfl ?_|refine T.ze rfl ?_|refine T.cond rfl (fun hc=>?_) (fun hc=>?_)|apply T.ret|simp only [za,z8,reduceIte,Nat.reduceEqDiff]|((repeat ((fail_if_success apply hK);clear hK K));apply hK;clear hK K))
 all_goals (refine qf.ret (.inr rfl) Tryd.results62 ?_;simp only [zR,zA,zB,simprocAttr,implies_true,amz,zb,tys,];first|(simp [bne_self_eq_false, *];done)|(simp_all [bne_self_eq_false];done)|(simp_all [bne_self_eq_false];omega))
def cmpI (x y:Int):Int:=if x<y then -1 else if y<x then 1 else 0
theorem z8m (x y:Int):zy Tryd.prog 45 [.int x,.int y] (.int (cmpI x y)):=by
 by_cases h1:x<y
 ·have hd:decide (x<y)=true:=by simpa using h1
  have he:cmpI x y = -1:=by simp [cmpI,h1]
  rw [he]
  refine zy.of Tryd.func45 rfl 20 rfl (by decide) (by simp [AV.okB]) ?_
  repeat' (first|refine T.zk fun K hK=>?_|apply T.block|(refine T.reg (by kernel_rfl) fun K' hK'=>?_;simp only [bz];(repeat' (first|(with_reducible refine WL.fin ?_;apply hK';clear hK' K')|((with_reducible refine WL.step fun K2 hK2=>?_);simp only [simprocAttr,implies_true,amz,zb,tys,hd];(repeat' (first|with_reducible (first|(apply hK2;clear hK2 K2)|apply And.intro|intro hb)|((with_reducible first|apply zh|apply zl);case h=>exact CallV.plain (Ent.of Tryd.func62 (by kernel_rfl) rfl) (z5r _) (by simp [AV.okB]))))))))|apply T.skip|apply T.exit|refine T.zf rfl ?_|refine T.ze rfl ?_|refine T.cond rfl (fun hc=>?_) (fun hc=>?_)|apply T.ret|simp only [za,z8,reduceIte,Nat.reduceEqDiff]|((repeat ((fail_if_success apply hK);clear hK K));apply hK;clear hK K))
  all_goals (refine qf.ret (.inr rfl) Tryd.results45 ?_;simp only [zR,zA,zB,simprocAttr,implies_true,amz,zb,tys,])
 ·have hd:decide (x<y)=false:=by simpa using h1
  by_cases h2:y<x
  ·have hd2:decide (y<x)=true:=by simpa using h2
   have he:cmpI x y=1:=by simp [cmpI,h1,h2]
   rw [he]
   refine zy.of Tryd.func45 rfl 20 rfl (by decide) (by simp [AV.okB]) ?_
   repeat' (first|refine T.zk fun K hK=>?_|apply T.block|(refine T.reg (by kernel_rfl) fun K' hK'=>?_;simp only [bz];(repeat' (first|(with_reducible refine WL.fin ?_;apply hK';clear hK' K')|((with_reducible refine WL.step fun K2 hK2=>?_);simp only [simprocAttr,implies_true,amz,zb,tys,hd,hd2];(repeat' (first|with_reducible (first|(apply hK2;clear hK2 K2)|apply And.intro|intro hb)|((with_reducible first|apply zh|apply zl);case h=>exact CallV.plain (Ent.of Tryd.func62 (by kernel_rfl) rfl) (z5r _) (by simp [AV.okB]))))))))|apply T.skip|apply T.exit|refine T.zf rfl ?_|refine T.ze rfl ?_|refine T.cond rfl (fun hc=>?_) (fun hc=>?_)|apply T.ret|simp only [za,z8,reduceIte,Nat.reduceEqDiff]|((repeat ((fail_if_success apply hK);clear hK K));apply hK;clear hK K))
   all_goals (refine qf.ret (.inr rfl) Tryd.results45 ?_;simp only [zR,zA,zB,simprocAttr,implies_true,amz,zb,tys,])
  ·have hd2:decide (y<x)=false:=by simpa using h2
   have he:cmpI x y=0:=by simp [cmpI,h1,h2]
   rw [he]
   refine zy.of Tryd.func45 rfl 20 rfl (by decide) (by simp [AV.okB]) ?_
   repeat' (first|refine T.zk fun K hK=>?_|apply T.block|(refine T.reg (by kernel_rfl) fun K' hK'=>?_;simp only [bz];(repeat' (first|(with_reducible refine WL.fin ?_;apply hK';clear hK' K')|((with_reducible refine WL.step fun K2 hK2=>?_);simp only [simprocAttr,implies_true,amz,zb,tys,hd,hd2];(repeat' (first|with_reducible (first|(apply hK2;clear hK2 K2)|apply And.intro|intro hb)|((with_reducible first|apply zh|apply zl);case h=>exact CallV.plain (Ent.of Tryd.func62 (by kernel_rfl) rfl) (z5r _) (by simp [AV.okB]))))))))|apply T.skip|apply T.exit|refine T.zf rfl ?_|refine T.ze rfl ?_|refine T.cond rfl (fun hc=>?_) (fun hc=>?_)|apply T.ret|simp only [za,z8,reduceIte,Nat.reduceEqDiff]|((repeat ((fail_if_success apply hK);clear hK K));apply hK;clear hK K))
   all_goals (refine qf.ret (.inr rfl) Tryd.results45 ?_;simp only [zR,zA,zB,simprocAttr,implies_true,amz,zb,tys,])
theorem zM (a b:Nat) (c:Bool) (x y:AV):AV.ren a b (bif c then x else y)=bif c then AV.ren a b x else AV.ren a b y:=by cases c <;> rfl
theorem zQ (n:Nat) (c:Bool) (x y:AV):AV.okB n (bif c then x else y)=bif c then AV.okB n x else AV.okB n y:=by cases c <;> rfl
def orL:List Int→Int
 | [] => 0
 | x :: r=>if x=0 then orL r else x
theorem or_ok (l:List Int) (hl:l.length≤1000000):zy Tryd.prog 24 [.p (.seq 1 (rowZ l))] (.int (orL l)):=by
 have hlm:=z07 l
 refine zy.of Tryd.func24 rfl 18 rfl (by decide) (by simp [AV.okB]) ?_
 repeat' (first|refine T.zk fun K hK=>?_|apply T.block|(refine T.reg (by kernel_rfl) fun K' hK'=>?_;simp only [bz];(with_reducible repeat' (first|(apply WL.fin;apply hK';clear hK' K')|(refine WL.step fun K2 hK2=>?_;simp only [simprocAttr,implies_true,amz,zb,tys,hlm];repeat' (first|(apply hK2;clear hK2 K2)|apply And.intro|intro hb)))))|apply T.skip|apply T.exit|refine T.zf rfl ?_|refine T.ze rfl ?_|refine T.cond rfl (fun hc=>?_) (fun hc=>?_)|apply T.ret|simp only [za,z8,reduceIte,Nat.reduceEqDiff]|((repeat ((fail_if_success apply hK);clear hK K));apply hK;clear hK K))
 refine T.z0o (fun k:Nat=>⟨[(3,.int 0),(6,.p (.seq 1 (rowZ l))),(7,.int l.length),(8,.int k)],[],18,0⟩) (fun k=>k≤l.length∧orL l=orL (l.drop k)) (fun k=>l.length-k) 0 ⟨Nat.zero_le _,rfl⟩ (by refine zi.of' rfl ?_;simp only [wks,reduceIte,Nat.reduceEqDiff,ASt.okB,AV.okB,Nat.reduceLT,implies_true,Int.natCast_zero]) ?_
 rintro k ⟨hk,hn⟩ KL hKL
 by_cases hlt:k<l.length
 ·have hd:decide ((k:Int)<(l.length:Int))=true:=by simpa using hlt
  obtain ⟨x,hx⟩:=z01 hlt
  have m1:=z09 hx
  rw [drop_at hx,orL] at hn
  by_cases h0:x=0
  ·subst h0
   rw [if_pos rfl] at hn
   repeat' (first|refine T.zk fun K hK=>?_|apply T.block|(refine T.reg (by kernel_rfl) fun K' hK'=>?_;simp only [bz];(with_reducible repeat' (first|(apply WL.fin;apply hK';clear hK' K')|(refine WL.step fun K2 hK2=>?_;simp only [simprocAttr,implies_true,amz,zb,tys,hlm,hd,m1,bne_self_eq_false];repeat' (first|(apply hK2;clear hK2 K2)|apply And.intro|intro hb)))))|apply T.skip|apply T.exit|refine T.zf rfl ?_|refine T.ze rfl ?_|refine T.cond rfl (fun hc=>?_) (fun hc=>?_)|apply T.ret|simp only [za,z8,reduceIte,Nat.reduceEqDiff]|((repeat ((fail_if_success apply hK);clear hK K));apply hK;clear hK K))
   refine hKL _ (k+1) (by refine zi.of' rfl ?_;simp only [wks,reduceIte,Nat.reduceEqDiff,ASt.okB,AV.okB,Nat.reduceLT,implies_true,zT (show k<1152921504606846976 by omega)]) ⟨hlt,hn⟩ (by omega)
  ·have hb:(x != 0)=true:=by simpa using h0
   rw [if_neg h0] at hn
   rw [hn]
   repeat' (first|refine T.zk fun K hK=>?_|apply T.block|(refine T.reg (by kernel_rfl) fun K' hK'=>?_;simp only [bz];(with_reducible repeat' (first|(apply WL.fin;apply hK';clear hK' K')|(refine WL.step fun K2 hK2=>?_;simp only [simprocAttr,implies_true,amz,zb,tys,hlm,hd,m1,hb];repeat' (first|(apply hK2;clear hK2 K2)|apply And.intro|intro hb)))))|apply T.skip|apply T.exit|refine T.zf rfl ?_|refine T.ze rfl ?_|refine T.cond rfl (fun hc=>?_) (fun hc=>?_)|apply T.ret|simp only [za,z8,reduceIte,Nat.reduceEqDiff]|((repeat ((fail_if_success apply hK);clear hK K));apply hK;clear hK K))
   all_goals (refine qf.ret (.inr rfl) Tryd.results24 ?_;simp only [zR,zA,zB,simprocAttr,implies_true,amz,zb,tys,])
 ·have hd:decide ((k:Int)<(l.length:Int))=false:=by simpa using hlt
  rw [List.drop_eq_nil_of_le (by omega)] at hn
  repeat' (first|refine T.zk fun K hK=>?_|apply T.block|(refine T.reg (by kernel_rfl) fun K' hK'=>?_;simp only [bz];(with_reducible repeat' (first|(apply WL.fin;apply hK';clear hK' K')|(refine WL.step fun K2 hK2=>?_;simp only [simprocAttr,implies_true,amz,zb,tys,hlm,hd];repeat' (first|(apply hK2;clear hK2 K2)|apply And.intro|intro hb)))))|apply T.skip|apply T.exit|refine T.zf rfl ?_|refine T.ze rfl ?_|refine T.cond rfl (fun hc=>?_) (fun hc=>?_)|apply T.ret|simp only [za,z8,reduceIte,Nat.reduceEqDiff]|((repeat ((fail_if_success apply hK);clear hK K));apply hK;clear hK K))
  all_goals (refine qf.ret (.inr rfl) Tryd.results24 ?_;simp only [zR,zA,zB,simprocAttr,implies_true,amz,zb,tys,hn,orL])
def cmp3 (a b:Ev):Int:=orL [cmpI a.fn b.fn,cmpI a.pc b.pc,cmpI a.kind b.kind]
theorem z6U (a b:Ev):zy Tryd.prog 20 [inA a,inA b] (.int (cmp3 a b)):=by
 have ho:=or_ok [cmpI a.fn b.fn,cmpI a.pc b.pc,cmpI a.kind b.kind] (by simp)
 have hm3:(3≤maxLen)=True:=eq_true (by unfold maxLen;omega)
 simp only [inA,rowZ,List.map_cons,List.map_nil] at ho ⊢
 refine zy.of Tryd.func20 rfl 22 rfl (by decide) (by simp [AV.okB]) ?_
 repeat' (first|refine T.zk fun K hK=>?_|apply T.block|(refine T.reg (by kernel_rfl) fun K' hK'=>?_;simp only [bz];(with_reducible repeat' (first|(apply WL.fin;apply hK';clear hK' K')|(refine WL.step fun K2 hK2=>?_;simp only [simprocAttr,implies_true,amz,zb,tys];repeat' (first|(apply hK2;clear hK2 K2)|apply And.intro|intro hb)))))|apply T.skip|apply T.exit|refine T.zf rfl ?_|refine T.ze rfl ?_|refine T.cond rfl (fun hc=>?_) (fun hc=>?_)|apply T.ret|simp only [za,z8,reduceIte,Nat.reduceEqDiff]|((repeat ((fail_if_success apply hK);clear hK K));apply hK;clear hK K))
 refine T.drw 18 (by kernel_rfl) (by kernel_rfl) fun K' hK'=>?_;simp only [List.map_cons,List.map_nil];(repeat' (first|(with_reducible refine WL.fin ?_;apply hK';clear hK' K')|(with_reducible refine WD.fin ?_)|((with_reducible first|refine WL.step fun K2 hK2=>?_|refine WD.step fun K2 hK2=>?_);simp only [simprocAttr,implies_true,amz,zb,tys,hm3];(repeat' (first|with_reducible (first|(apply hK2;clear hK2 K2)|apply And.intro|intro hb)|((with_reducible first|apply zh|apply zl);case h=>exact CallV.plain (Ent.of Tryd.func45 (by kernel_rfl) rfl) (z8m _ _) (by simp [AV.okB]))|((with_reducible first|apply zh|apply zl);case h=>exact CallV.plain (Ent.of Tryd.func24 (by kernel_rfl) rfl) (ho) (by simp [AV.okB])))))));all_goals ((try simp only [za,z8,reduceIte,Nat.reduceEqDiff]);(try ((repeat ((fail_if_success apply hK);clear hK K));apply hK;clear hK K)))
 all_goals repeat' (first|refine T.zk fun K hK=>?_|apply T.block|(refine T.reg (by kernel_rfl) fun K' hK'=>?_;simp only [bz];(with_reducible repeat' (first|(apply WL.fin;apply hK';clear hK' K')|(refine WL.step fun K2 hK2=>?_;simp only [simprocAttr,implies_true,amz,zb,tys];repeat' (first|(apply hK2;clear hK2 K2)|apply And.intro|intro hb)))))|apply T.skip|apply T.exit|refine T.zf rfl ?_|refine T.ze rfl ?_|refine T.cond rfl (fun hc=>?_) (fun hc=>?_)|apply T.ret|simp only [za,z8,reduceIte,Nat.reduceEqDiff]|((repeat ((fail_if_success apply hK);clear hK K));apply hK;clear hK K))
 all_goals (refine qf.ret (.inr rfl) Tryd.results20 ?_;simp only [zR,zA,zB,simprocAttr,implies_true,amz,zb,tys,cmp3])
def lexB:List Int→List Int→Bool
 | a :: x,b :: y=>decide (a<b)||(a==b&&lexB x y)
 | _,_=>false
theorem z4p : ∀ x:List Int,lexB x x=false
 | []=>rfl
 | a :: x=>by simp [lexB,z4p x]
theorem z2f : ∀ {x y z:List Int},lexB x y=true→lexB y z=true→lexB x z=true
 | a :: x,b :: y,c :: z,h1,h2=>by
  simp only [lexB,Bool.or_eq_true,decide_eq_true_eq,Bool.and_eq_true,beq_iff_eq] at h1 h2 ⊢
  rcases h1 with h1|⟨rfl,h1⟩
  ·rcases h2 with h2|⟨rfl,h2⟩
   ·exact .inl (by omega)
   ·exact .inl h1
  ·rcases h2 with h2|⟨rfl,h2⟩
   ·exact .inl h2
   ·exact .inr ⟨rfl,z2f h1 h2⟩
 | [],_,_,h1,_=>by simp [lexB] at h1
 | _ :: _,[],_,h1,_=>by simp [lexB] at h1
 | _ :: _,_ :: _,[],_,h2=>by simp [lexB] at h2
theorem z3e : ∀ {x y:List Int},x.length=y.length→x ≠ y→lexB x y=true∨lexB y x=true
 | [],[],_,h=>absurd rfl h
 | a :: x,b :: y,hl,h=>by
  simp only [lexB,Bool.or_eq_true,decide_eq_true_eq,Bool.and_eq_true,beq_iff_eq]
  by_cases e:a=b
  ·subst e
   rcases z3e (x:=x) (y:=y) (by simpa using hl) (fun e=>h (by rw [e])) with h1|h1
   ·exact .inl (.inr ⟨rfl,h1⟩)
   ·exact .inr (.inr ⟨rfl,h1⟩)
  ·rcases Int.lt_or_lt_of_ne e with h1|h1
   ·exact .inl (.inl h1)
   ·exact .inr (.inl h1)
 | [],_ :: _,hl,_=>by simp at hl
 | _ :: _,[],hl,_=>by simp at hl
abbrev LxS (l:List (List Int)):Prop:=l.Pairwise fun x y=>lexB x y=true
theorem lxs_eq : ∀ {a b:List (List Int)},LxS a→LxS b→(∀ k,k ∈ a↔k ∈ b)→a=b
 | [],[],_,_,_=>rfl
 | [],y :: b,_,_,h=>absurd ((h y).2 (List.mem_cons_self)) (by simp)
 | x :: a,[],_,_,h=>absurd ((h x).1 (List.mem_cons_self)) (by simp)
 | x :: a,y :: b,ha,hb,h=>by
  obtain ⟨ha1,ha2⟩:=List.pairwise_cons.1 ha
  obtain ⟨hb1,hb2⟩:=List.pairwise_cons.1 hb
  have e:x=y:=by
   rcases List.mem_cons.1 ((h x).1 List.mem_cons_self) with e|h1
   ·exact e
   ·rcases List.mem_cons.1 ((h y).2 List.mem_cons_self) with e|h2
    ·exact e.symm
    ·have:=z2f (ha1 y h2) (hb1 x h1)
     rw [z4p] at this
     cases this
  subst e
  rw [lxs_eq ha2 hb2 fun k=>?_]
  constructor
  ·intro hk
   rcases List.mem_cons.1 ((h k).1 (List.mem_cons_of_mem _ hk)) with e|h1
   ·subst e
    have:=ha1 k hk
    rw [z4p] at this
    cases this
   ·exact h1
  ·intro hk
   rcases List.mem_cons.1 ((h k).2 (List.mem_cons_of_mem _ hk)) with e|h1
   ·subst e
    have:=hb1 k hk
    rw [z4p] at this
    cases this
   ·exact h1
def insK (k:List Int):Bool→List (List Int)→List (List Int)
 | d,[]=>if d=true then [] else [k]
 | d,x :: r=>if (!d&&lexB k x)=true then k :: x :: insK k true r else x :: insK k (d||x==k) r
theorem z1v (k:List Int) : ∀ r:List (List Int),insK k true r=r
 | []=>rfl
 | x :: r=>by simp [insK,z1v k r]
theorem z3K (k:List Int) : ∀ (r:List (List Int)) (z:List Int),z ∈ insK k false r↔z=k∨z ∈ r
 | [],z=>by simp [insK]
 | x :: r,z=>by
  unfold insK
  by_cases h1:lexB k x=true
  ·rw [if_pos (by simpa using h1),z1v];simp
  ·rw [if_neg (by simpa using h1)]
   by_cases h2:x=k
   ·subst h2
    simp [z1v]
   ·have h3:(x==k)=false:=by simpa using h2
    rw [h3,Bool.false_or,List.mem_cons,z3K k r z,List.mem_cons]
    constructor
    ·rintro (h|h|h)
     ·exact .inr (.inl h)
     ·exact .inl h
     ·exact .inr (.inr h)
    ·rintro (h|h|h)
     ·exact .inr (.inl h)
     ·exact .inl h
     ·exact .inr (.inr h)
theorem z7L (k:List Int) (n:Nat) (hk:k.length=n) : ∀ r:List (List Int),LxS r→(∀ x ∈ r,x.length=n)→LxS (insK k false r)
 | [],_,_=>by simp [insK]
 | x :: r,hs,hl=>by
  obtain ⟨h1,h2⟩:=List.pairwise_cons.1 hs
  unfold insK
  by_cases h:lexB k x=true
  ·rw [if_pos (by simpa using h),z1v]
   exact List.pairwise_cons.2 ⟨fun y hy=>(List.mem_cons.1 hy).elim (fun e=>e ▸ h) fun hy=>z2f h (h1 y hy),hs⟩
  ·rw [if_neg (by simpa using h)]
   by_cases e:x=k
   ·subst e
    simp only [beq_self_eq_true,Bool.or_true,z1v]
    exact hs
   ·have h3:(x==k)=false:=by simpa using e
    rw [h3,Bool.false_or]
    refine List.pairwise_cons.2 ⟨fun y hy=>?_,z7L k n hk r h2 fun z hz=>hl z (List.mem_cons_of_mem _ hz)⟩
    rcases (z3K k r y).1 hy with rfl|hy
    ·exact (z3e ((hl x List.mem_cons_self).trans hk.symm) e).resolve_right h
    ·exact h1 y hy
def z0Q (ks:List (List Int)):List (List Int):=ks.foldl (fun acc k=>insK k false acc) []
theorem z6p (ks:List (List Int)) (k:List Int):z0Q (ks ++ [k])=insK k false (z0Q ks):=by simp [z0Q]
theorem z5n (n:Nat) : ∀ (ks acc:List (List Int)),LxS acc→(∀ x ∈ acc,x.length=n)→(∀ k ∈ ks,k.length=n) →
  LxS (ks.foldl (fun acc k=>insK k false acc) acc) ∧ ∀ z,z ∈ ks.foldl (fun acc k=>insK k false acc) acc↔z ∈ acc∨z ∈ ks
 | [],acc,h1,_,_=>⟨h1,fun z=>by simp⟩
 | k :: ks,acc,h1,h2,h3=>by
  have hk:=h3 k List.mem_cons_self
  obtain ⟨a,b⟩:=z5n n ks (insK k false acc) (z7L k n hk acc h1 h2) (fun x hx=>((z3K k acc x).1 hx).elim (fun e=>e ▸ hk) (h2 x)) fun z hz=>h3 z (List.mem_cons_of_mem _ hz)
  refine ⟨a,fun z=>?_⟩
  rw [List.foldl_cons,b,z3K,List.mem_cons]
  constructor
  ·rintro ((h|h)|h)
   ·exact .inr (.inl h)
   ·exact .inl h
   ·exact .inr (.inr h)
  ·rintro (h|h|h)
   ·exact .inl (.inr h)
   ·exact .inl (.inl h)
   ·exact .inr h
theorem z4n {n:Nat} {ks:List (List Int)} (h : ∀ k ∈ ks,k.length=n):LxS (z0Q ks):=(z5n n ks [] List.Pairwise.nil (fun x hx=>by cases hx) h).1
theorem z0J {n:Nat} {ks:List (List Int)} (h : ∀ k ∈ ks,k.length=n) (z:List Int):z ∈ z0Q ks↔z ∈ ks:=by
 have:=(z5n n ks [] List.Pairwise.nil (fun x hx=>by cases hx) h).2 z
 unfold z0Q
 simpa using this
theorem z81 {α:Type} {P:List α→Prop} (h0:P []) (hs : ∀ l a,P l→P (l ++ [a])) (l:List α):P l:=by
 rw [← List.reverse_reverse l]
 induction l.reverse with
 | nil=>exact h0
 | cons a r ih=>rw [List.reverse_cons];exact hs _ _ ih
abbrev Rc:=Int × Int
def earB (a b:Rc):Bool:=decide (a.2<b.2)||(a.2==b.2&&decide (a.1<b.1))
def upF (o:Option (Rc × Int)) (r:Rc):Rc × Int:=match o with
 | none=>(r,1)
 | some (f,c)=>(if earB r f=true then r else f,c+1)
def fndF (key:Rc→List Int) (k:List Int) (rs:List Rc):Option (Rc × Int):=rs.foldl (fun o r=>if key r=k then some (upF o r) else o) none
def cntF (key:Rc→List Int) (k:List Int) (rs:List Rc):Nat:=(rs.filter fun r=>decide (key r=k)).length
theorem ear_irr (a:Rc):earB a a=false:=by simp [earB]
theorem ear_trans {a b c:Rc} (h1:earB a b=true) (h2:earB b c=true):earB a c=true:=by
 simp only [earB,Bool.or_eq_true,decide_eq_true_eq,Bool.and_eq_true,beq_iff_eq] at h1 h2 ⊢
 omega
theorem z6i {a b:Rc} (h:a ≠ b):earB a b=true∨earB b a=true:=by
 simp only [earB,Bool.or_eq_true,decide_eq_true_eq,Bool.and_eq_true,beq_iff_eq]
 by_cases h2:a.2=b.2
 ·have h1:a.1 ≠ b.1:=fun e=>h (Prod.ext e h2)
  omega
 ·omega
structure Fnd (key:Rc→List Int) (k:List Int) (rs:List Rc) (o:Option (Rc × Int)):Prop where
 none:o=none → ∀ r ∈ rs,key r ≠ k
 some : ∀ f c,o=some (f,c)→f ∈ rs∧key f=k∧(∀ r ∈ rs,key r=k→earB r f=false)∧c=(cntF key k rs:Int)
theorem z4Q (key:Rc→List Int) (k:List Int) (rs:List Rc):Fnd key k rs (fndF key k rs):=by
 refine z81 (P:=fun rs=>Fnd key k rs (fndF key k rs)) ⟨fun _ r hr=>(by cases hr),fun f c h=>by cases h⟩ (fun rs r ih=>?_) rs
 ·show Fnd key k (rs ++ [r]) (fndF key k (rs ++ [r]))
  have e1:fndF key k (rs ++ [r])=if key r=k then some (upF (fndF key k rs) r) else fndF key k rs:=by simp [fndF]
  have e2:cntF key k (rs ++ [r])=cntF key k rs+(if key r=k then 1 else 0):=by
   simp only [cntF,List.filter_append,List.length_append]
   congr 1
   by_cases h:key r=k <;> simp [h]
  rw [e1]
  by_cases hk:key r=k
  ·rw [if_pos hk]
   refine ⟨fun h=>(by cases h),fun f c h=>?_⟩
   rw [e2,if_pos hk]
   cases ho:fndF key k rs with
   | none =>
    rw [ho] at ih h
    cases h
    have h0:cntF key k rs=0:=by
     rw [cntF,List.length_eq_zero_iff,List.filter_eq_nil_iff]
     intro x hx
     simpa using ih.none rfl x hx
    refine ⟨by simp,hk,fun x hx hxk=>?_,by rw [h0];rfl⟩
    rcases List.mem_append.1 hx with hx|hx
    ·exact absurd hxk (ih.none rfl x hx)
    ·rw [List.mem_singleton.1 hx];exact ear_irr r
   | some p =>
    obtain ⟨f0,c0⟩:=p
    rw [ho] at ih h
    obtain ⟨i1,i2,i3,i4⟩:=ih.some f0 c0 rfl
    simp only [upF,Option.some.injEq,Prod.mk.injEq] at h
    obtain ⟨rfl,rfl⟩:=h
    cases he:earB r f0 with
    | true =>
     rw [if_pos rfl]
     refine ⟨by simp,hk,fun x hx hxk=>?_,by rw [i4];push_cast;rfl⟩
     rcases List.mem_append.1 hx with hx|hx
     ·cases h2:earB x r with
      | false=>rfl
      | true =>
       have:=ear_trans h2 he
       rw [i3 x hx hxk] at this
       cases this
     ·rw [List.mem_singleton.1 hx];exact ear_irr r
    | false =>
     rw [if_neg (by simp)]
     refine ⟨by simp [i1],i2,fun x hx hxk=>?_,by rw [i4];push_cast;rfl⟩
     rcases List.mem_append.1 hx with hx|hx
     ·exact i3 x hx hxk
     ·rw [List.mem_singleton.1 hx];exact he
  ·rw [if_neg hk]
   refine ⟨fun h x hx=>?_,fun f c h=>?_⟩
   ·rcases List.mem_append.1 hx with hx|hx
    ·exact ih.none h x hx
    ·rw [List.mem_singleton.1 hx];exact hk
   ·obtain ⟨i1,i2,i3,i4⟩:=ih.some f c h
    refine ⟨by simp [i1],i2,fun x hx hxk=>?_,by rw [i4,e2,if_neg hk];rfl⟩
    rcases List.mem_append.1 hx with hx|hx
    ·exact i3 x hx hxk
    ·rw [List.mem_singleton.1 hx] at hxk;exact absurd hxk hk
theorem fnd_perm {key:Rc→List Int} {k:List Int} {a b:List Rc} (h:a.Perm b):fndF key k a=fndF key k b:=by
 have ha:=z4Q key k a
 have hb:=z4Q key k b
 have hc:cntF key k a=cntF key k b:=(h.filter _).length_eq
 cases e1:fndF key k a with
 | none =>
  cases e2:fndF key k b with
  | none=>rfl
  | some p =>
   obtain ⟨i1,i2,_⟩:=hb.some p.1 p.2 (by rw [e2])
   exact absurd i2 (ha.none e1 _ (h.mem_iff.2 i1))
 | some p =>
  obtain ⟨i1,i2,i3,i4⟩:=ha.some p.1 p.2 (by rw [e1])
  cases e2:fndF key k b with
  | none=>exact absurd i2 (hb.none e2 _ (h.mem_iff.1 i1))
  | some q =>
   obtain ⟨j1,j2,j3,j4⟩:=hb.some q.1 q.2 (by rw [e2])
   have e3:p.1=q.1:=by
    by_cases e:p.1=q.1
    ·exact e
    ·rcases z6i e with h1|h1
     ·rw [j3 _ (h.mem_iff.1 i1) i2] at h1;cases h1
     ·rw [i3 _ (h.mem_iff.2 j1) j2] at h1;cases h1
   have e4:p.2=q.2:=by rw [i4,j4,hc]
   rw [Option.some.injEq]
   exact Prod.ext e3 e4
theorem fnd_two (key:Rc→List Int) (k:List Int) (a:List Rc):fndF key k (a++a)=(fndF key k a).map fun p=>(p.1,p.2*2):=by
 have ha:=z4Q key k a
 have hb:=z4Q key k (a++a)
 have hc:cntF key k (a++a)=cntF key k a+cntF key k a:=by simp [cntF]
 cases e1:fndF key k a with
 | none =>
  cases e2:fndF key k (a++a) with
  | none=>rfl
  | some p =>
   obtain ⟨i1,i2,_⟩:=hb.some p.1 p.2 (by rw [e2])
   rw [List.mem_append,or_self] at i1
   exact absurd i2 (ha.none e1 _ i1)
 | some p =>
  obtain ⟨i1,i2,i3,i4⟩:=ha.some p.1 p.2 (by rw [e1])
  cases e2:fndF key k (a++a) with
  | none=>exact absurd i2 (hb.none e2 _ (List.mem_append_left _ i1))
  | some q =>
   obtain ⟨j1,j2,j3,j4⟩:=hb.some q.1 q.2 (by rw [e2])
   rw [List.mem_append,or_self] at j1
   have e3:q.1=p.1:=by
    by_cases e:q.1=p.1
    ·exact e
    ·rcases z6i e with h1|h1
     ·rw [i3 _ j1 j2] at h1;cases h1
     ·rw [j3 _ (List.mem_append_left _ i1) i2] at h1;cases h1
   have e4:q.2=p.2*2:=by rw [i4,j4,hc];push_cast;omega
   rw [Option.map_some,Option.some.injEq]
   exact Prod.ext e3 e4
def qW (a b:Ev):Bool:=if a.fn ≠ b.fn then decide (b.fn<a.fn) else if a.pc ≠ b.pc then decide (b.pc<a.pc) else decide (b.kind<a.kind)
theorem z8s (a b:Ev):zy Tryd.prog 68 [evA a,evA b] (.bool (qW a b)):=by
 simp only [evA,evC,List.map_cons,List.map_nil]
 by_cases h1:a.fn=b.fn
 ·have g1:(a.fn != b.fn)=false:=by simpa using h1
  by_cases h2:a.pc=b.pc
  ·have g2:(a.pc != b.pc)=false:=by simpa using h2
   have he:qW a b=decide (b.kind<a.kind):=by simp [qW,h1,h2]
   refine zy.of Tryd.func68 rfl 30 rfl (by decide) (by simp [AV.okB]) ?_
   repeat' (first|refine T.zk fun K hK=>?_|apply T.block|(refine T.reg (by kernel_rfl) fun K' hK'=>?_;simp only [bz];(with_reducible repeat' (first|(apply WL.fin;apply hK';clear hK' K')|(refine WL.step fun K2 hK2=>?_;simp only [simprocAttr,implies_true,amz,zb,tys,g1,g2];repeat' (first|(apply hK2;clear hK2 K2)|apply And.intro|intro hb)))))|apply T.skip|apply T.exit|refine T.zf rfl ?_|refine T.ze rfl ?_|refine T.cond rfl (fun hc=>?_) (fun hc=>?_)|apply T.ret|simp only [za,z8,reduceIte,Nat.reduceEqDiff]|((repeat ((fail_if_success apply hK);clear hK K));apply hK;clear hK K))
   all_goals (refine qf.ret (.inr rfl) Tryd.results68 ?_;simp only [zR,zA,zB,simprocAttr,implies_true,amz,zb,tys,he])
  ·have g2:(a.pc != b.pc)=true:=by simpa using h2
   have he:qW a b=decide (b.pc<a.pc):=by simp [qW,h1,h2]
   refine zy.of Tryd.func68 rfl 30 rfl (by decide) (by simp [AV.okB]) ?_
   repeat' (first|refine T.zk fun K hK=>?_|apply T.block|(refine T.reg (by kernel_rfl) fun K' hK'=>?_;simp only [bz];(with_reducible repeat' (first|(apply WL.fin;apply hK';clear hK' K')|(refine WL.step fun K2 hK2=>?_;simp only [simprocAttr,implies_true,amz,zb,tys,g1,g2];repeat' (first|(apply hK2;clear hK2 K2)|apply And.intro|intro hb)))))|apply T.skip|apply T.exit|refine T.zf rfl ?_|refine T.ze rfl ?_|refine T.cond rfl (fun hc=>?_) (fun hc=>?_)|apply T.ret|simp only [za,z8,reduceIte,Nat.reduceEqDiff]|((repeat ((fail_if_success apply hK);clear hK K));apply hK;clear hK K))
   all_goals (refine qf.ret (.inr rfl) Tryd.results68 ?_;simp only [zR,zA,zB,simprocAttr,implies_true,amz,zb,tys,he])
 ·have g1:(a.fn != b.fn)=true:=by simpa using h1
  have he:qW a b=decide (b.fn<a.fn):=by simp [qW,h1]
  refine zy.of Tryd.func68 rfl 30 rfl (by decide) (by simp [AV.okB]) ?_
  repeat' (first|refine T.zk fun K hK=>?_|apply T.block|(refine T.reg (by kernel_rfl) fun K' hK'=>?_;simp only [bz];(with_reducible repeat' (first|(apply WL.fin;apply hK';clear hK' K')|(refine WL.step fun K2 hK2=>?_;simp only [simprocAttr,implies_true,amz,zb,tys,g1];repeat' (first|(apply hK2;clear hK2 K2)|apply And.intro|intro hb)))))|apply T.skip|apply T.exit|refine T.zf rfl ?_|refine T.ze rfl ?_|refine T.cond rfl (fun hc=>?_) (fun hc=>?_)|apply T.ret|simp only [za,z8,reduceIte,Nat.reduceEqDiff]|((repeat ((fail_if_success apply hK);clear hK K));apply hK;clear hK K))
  all_goals (refine qf.ret (.inr rfl) Tryd.results68 ?_;simp only [zR,zA,zB,simprocAttr,implies_true,amz,zb,tys,he])
def ordI (r:P2) (e f:Ev):P2:=if qW e f=true then (r.2,r.1) else r
structure Rac (l:List Ev) (r:P2) (e f:Ev):Prop where
 i0 : 0≤r.1
 ij:r.1<r.2
 j:r.2<l.length
 e:l[r.1.toNat]? = some e
 f:l[r.2.toNat]? = some f
theorem z1b {l:List Ev} {k:Nat} {e:Ev} (h:l[k]? = some e):(l.map evC)[k]? = some [.val (.int .i64 e.g),.val (.int .i64 e.kind),.val (.int .i64 e.obj),.val (.int .i64 e.off),.val (.int .i64 e.k),.val (.int .i64 e.n),.val (.int .i64 e.fn),.val (.int .i64 e.pc),.val (.int .i64 e.st)]:=by
 rw [List.getElem?_map,h];rfl
theorem z4X (l:List Ev) (ss:List P2) (ps:List Int) (r:P2) (e f:Ev) (h:Rac l r e f):zy Tryd.prog 51 [trA l ss ps,p2A r] (.tup [.int (ordI r e f).1,.int (ordI r e f).2]):=by
 have hlm:(l.map evC).length=l.length:=by simp
 have hi0:(0≤r.1)=True:=eq_true h.i0
 have hj0:(0≤r.2)=True:=eq_true (by have:=h.i0;have:=h.ij;omega)
 have mi:=z1b h.e
 have mj:=z1b h.f
 have hg:=z8s e f
 simp only [trA,p2A,evA,evC,List.map_cons,List.map_nil] at hg ⊢
 cases hb:qW e f with
 | false =>
  have he:ordI r e f=r:=by simp [ordI,hb]
  rw [hb] at hg
  refine zy.of Tryd.func51 rfl 27 rfl (by decide) (by simp [AV.okB]) ?_
  repeat' (first|refine T.zk fun K hK=>?_|apply T.block|(refine T.reg (by kernel_rfl) fun K' hK'=>?_;simp only [bz];(with_reducible repeat' (first|(apply WL.fin;apply hK';clear hK' K')|(refine WL.step fun K2 hK2=>?_;simp only [simprocAttr,implies_true,amz,zb,tys];repeat' (first|(apply hK2;clear hK2 K2)|apply And.intro|intro hb)))))|apply T.skip|apply T.exit|refine T.zf rfl ?_|refine T.ze rfl ?_|refine T.cond rfl (fun hc=>?_) (fun hc=>?_)|apply T.ret|simp only [za,z8,reduceIte,Nat.reduceEqDiff]|((repeat ((fail_if_success apply hK);clear hK K));apply hK;clear hK K))
  refine T.drw 13 (by kernel_rfl) (by kernel_rfl) fun K' hK'=>?_;simp only [List.map_cons,List.map_nil];(repeat' (first|(with_reducible refine WL.fin ?_;apply hK';clear hK' K')|(with_reducible refine WD.fin ?_)|((with_reducible first|refine WL.step fun K2 hK2=>?_|refine WD.step fun K2 hK2=>?_);simp only [simprocAttr,implies_true,amz,zb,tys,hlm,hi0,hj0,mi,mj];(repeat' (first|with_reducible (first|(apply hK2;clear hK2 K2)|apply And.intro|intro hb)|((with_reducible first|apply zh|apply zl);case h=>exact CallV.plain (Ent.of Tryd.func68 (by kernel_rfl) rfl) (hg) (by simp [AV.okB])))))));all_goals ((try simp only [za,z8,reduceIte,Nat.reduceEqDiff]);(try ((repeat ((fail_if_success apply hK);clear hK K));apply hK;clear hK K)))
  all_goals repeat' (first|refine T.zk fun K hK=>?_|apply T.block|(refine T.reg (by kernel_rfl) fun K' hK'=>?_;simp only [bz];(with_reducible repeat' (first|(apply WL.fin;apply hK';clear hK' K')|(refine WL.step fun K2 hK2=>?_;simp only [simprocAttr,implies_true,amz,zb,tys];repeat' (first|(apply hK2;clear hK2 K2)|apply And.intro|intro hb)))))|apply T.skip|apply T.exit|refine T.zf rfl ?_|refine T.ze rfl ?_|refine T.cond rfl (fun hc=>?_) (fun hc=>?_)|apply T.ret|simp only [za,z8,reduceIte,Nat.reduceEqDiff]|((repeat ((fail_if_success apply hK);clear hK K));apply hK;clear hK K))
  refine T.drw 6 (by kernel_rfl) (by kernel_rfl) fun K' hK'=>?_;simp only [List.map_cons,List.map_nil];(repeat' (first|(with_reducible refine WL.fin ?_;apply hK';clear hK' K')|(with_reducible refine WD.fin ?_)|((with_reducible first|refine WL.step fun K2 hK2=>?_|refine WD.step fun K2 hK2=>?_);simp only [simprocAttr,implies_true,amz,zb,tys];(repeat' with_reducible (first|(apply hK2;clear hK2 K2)|apply And.intro|intro hb)))));all_goals ((try simp only [za,z8,reduceIte,Nat.reduceEqDiff]);(try ((repeat ((fail_if_success apply hK);clear hK K));apply hK;clear hK K)))
  all_goals (repeat' (first|refine T.zk fun K hK=>?_|apply T.block|(refine T.reg (by kernel_rfl) fun K' hK'=>?_;simp only [bz];(with_reducible repeat' (first|(apply WL.fin;apply hK';clear hK' K')|(refine WL.step fun K2 hK2=>?_;simp only [simprocAttr,implies_true,amz,zb,tys];repeat' (first|(apply hK2;clear hK2 K2)|apply And.intro|intro hb)))))|apply T.skip|apply T.exit|refine T.zf rfl ?_|refine T.ze rfl ?_|refine T.cond rfl (fun hc=>?_) (fun hc=>?_)|apply T.ret|simp only [za,z8,reduceIte,Nat.reduceEqDiff]|((repeat ((fail_if_success apply hK);clear hK K));apply hK;clear hK K)))
  all_goals (refine qf.ret (.inr rfl) Tryd.results51 ?_;simp only [zR,zA,zB,simprocAttr,implies_true,amz,zb,tys,he])
 | true =>
  have he:ordI r e f=(r.2,r.1):=by simp [ordI,hb]
  rw [hb] at hg
  refine zy.of Tryd.func51 rfl 27 rfl (by decide) (by simp [AV.okB]) ?_
  repeat' (first|refine T.zk fun K hK=>?_|apply T.block|(refine T.reg (by kernel_rfl) fun K' hK'=>?_;simp only [bz];(with_reducible repeat' (first|(apply WL.fin;apply hK';clear hK' K')|(refine WL.step fun K2 hK2=>?_;simp only [simprocAttr,implies_true,amz,zb,tys];repeat' (first|(apply hK2;clear hK2 K2)|apply And.intro|intro hb)))))|apply T.skip|apply T.exit|refine T.zf rfl ?_|refine T.ze rfl ?_|refine T.cond rfl (fun hc=>?_) (fun hc=>?_)|apply T.ret|simp only [za,z8,reduceIte,Nat.reduceEqDiff]|((repeat ((fail_if_success apply hK);clear hK K));apply hK;clear hK K))
  refine T.drw 13 (by kernel_rfl) (by kernel_rfl) fun K' hK'=>?_;simp only [List.map_cons,List.map_nil];(repeat' (first|(with_reducible refine WL.fin ?_;apply hK';clear hK' K')|(with_reducible refine WD.fin ?_)|((with_reducible first|refine WL.step fun K2 hK2=>?_|refine WD.step fun K2 hK2=>?_);simp only [simprocAttr,implies_true,amz,zb,tys,hlm,hi0,hj0,mi,mj];(repeat' (first|with_reducible (first|(apply hK2;clear hK2 K2)|apply And.intro|intro hb)|((with_reducible first|apply zh|apply zl);case h=>exact CallV.plain (Ent.of Tryd.func68 (by kernel_rfl) rfl) (hg) (by simp [AV.okB])))))));all_goals ((try simp only [za,z8,reduceIte,Nat.reduceEqDiff]);(try ((repeat ((fail_if_success apply hK);clear hK K));apply hK;clear hK K)))
  all_goals repeat' (first|refine T.zk fun K hK=>?_|apply T.block|(refine T.reg (by kernel_rfl) fun K' hK'=>?_;simp only [bz];(with_reducible repeat' (first|(apply WL.fin;apply hK';clear hK' K')|(refine WL.step fun K2 hK2=>?_;simp only [simprocAttr,implies_true,amz,zb,tys];repeat' (first|(apply hK2;clear hK2 K2)|apply And.intro|intro hb)))))|apply T.skip|apply T.exit|refine T.zf rfl ?_|refine T.ze rfl ?_|refine T.cond rfl (fun hc=>?_) (fun hc=>?_)|apply T.ret|simp only [za,z8,reduceIte,Nat.reduceEqDiff]|((repeat ((fail_if_success apply hK);clear hK K));apply hK;clear hK K))
  refine T.drw 6 (by kernel_rfl) (by kernel_rfl) fun K' hK'=>?_;simp only [List.map_cons,List.map_nil];(repeat' (first|(with_reducible refine WL.fin ?_;apply hK';clear hK' K')|(with_reducible refine WD.fin ?_)|((with_reducible first|refine WL.step fun K2 hK2=>?_|refine WD.step fun K2 hK2=>?_);simp only [simprocAttr,implies_true,amz,zb,tys];(repeat' with_reducible (first|(apply hK2;clear hK2 K2)|apply And.intro|intro hb)))));all_goals ((try simp only [za,z8,reduceIte,Nat.reduceEqDiff]);(try ((repeat ((fail_if_success apply hK);clear hK K));apply hK;clear hK K)))
  all_goals (repeat' (first|refine T.zk fun K hK=>?_|apply T.block|(refine T.reg (by kernel_rfl) fun K' hK'=>?_;simp only [bz];(with_reducible repeat' (first|(apply WL.fin;apply hK';clear hK' K')|(refine WL.step fun K2 hK2=>?_;simp only [simprocAttr,implies_true,amz,zb,tys];repeat' (first|(apply hK2;clear hK2 K2)|apply And.intro|intro hb)))))|apply T.skip|apply T.exit|refine T.zf rfl ?_|refine T.ze rfl ?_|refine T.cond rfl (fun hc=>?_) (fun hc=>?_)|apply T.ret|simp only [za,z8,reduceIte,Nat.reduceEqDiff]|((repeat ((fail_if_success apply hK);clear hK K));apply hK;clear hK K)))
  all_goals (refine qf.ret (.inr rfl) Tryd.results51 ?_;simp only [zR,zA,zB,simprocAttr,implies_true,amz,zb,tys,he])
def stOf (l:List Ev) (ss:List P2) (ps:List Int) (r:P2) (i j:Int) (e f:Ev) (b:Nat→Bool):ASt:=⟨[(15,bif b 0 then .ptr 0 0 else .zn),(16,bif b 1 then (.p (.seq 9 (l.map evC))) else .zn),(17,bif b 2 then .int i else .zn),(18,bif b 3 then .elt (evC e) 0 else .zn),(19,bif b 4 then evA e else .zn),(20,bif b 5 then .ptr 0 0 else .zn),(21,bif b 6 then (.p (.seq 9 (l.map evC))) else .zn),(22,bif b 7 then .int j else .zn),(23,bif b 8 then .elt (evC f) 0 else .zn),(24,bif b 9 then evA f else .zn),(7,bif b 10 then .ptr 3 0 else .zn),(8,bif b 11 then .ptr 4 0 else .zn),(2,.ptr 0 0),(3,.ptr 1 0),(4,.ptr 2 0),(5,.int i),(6,.int j)],(bif b 10 then [(3,AO.boxP none 56 (bif b 12 then ((evC e).map .p) else [.int 0,.int 0,.int 0,.int 0,.int 0,.int 0,.int 0,.int 0,.int 0]))] else [])++((bif b 11 then [(4,AO.boxP none 56 (bif b 13 then ((evC f).map .p) else [.int 0,.int 0,.int 0,.int 0,.int 0,.int 0,.int 0,.int 0,.int 0]))] else []) ++ [(2,AO.boxP none 84 [.int 0,.int 0,.int 0,.int 0,.int 0,.int 0]),(1,AO.boxP none 38 [.int r.1,.int r.2]),(0,AO.boxP none 28 [.p (.seq 9 (l.map evC)),.p (.seq 2 (rowP ss)),.p (.seq 1 (rowZ ps))])]),38,5⟩
def keyL (e f:Ev):List Int := [e.fn,e.pc,e.kind,f.fn,f.pc,f.kind]
def keyA (k:List Int):AV := .agg (k.map AV.int)
def loE (e f:Ev):Ev:=if qW e f=true then f else e
def hiE (e f:Ev):Ev:=if qW e f=true then e else f
theorem ordI_at {l:List Ev} {r:P2} {e f:Ev} (h:Rac l r e f) : 0≤(ordI r e f).1 ∧ 0≤(ordI r e f).2∧l[(ordI r e f).1.toNat]? = some (loE e f)∧l[(ordI r e f).2.toNat]? = some (hiE e f):=by
 have:=h.i0;have:=h.ij
 unfold ordI loE hiE
 split
 ·exact ⟨by simp only [];omega,by simp only [];omega,h.f,h.e⟩
 ·exact ⟨by omega,by omega,h.e,h.f⟩
theorem ofR_go (l:List Ev) (ss:List P2) (ps:List Int) (r:P2) (i j:Int) (e f:Ev) (o1 : 0≤i) (o2 : 0≤j) (o3:l[i.toNat]? = some e) (o4:l[j.toNat]? = some f) (ho:zy Tryd.prog 51 [trA l ss ps,p2A r] (.tup [.int i,.int j])) :
  zy Tryd.prog 28 [trA l ss ps,p2A r] (keyA (keyL e f)):=by
 have hlm:(l.map evC).length=l.length:=by simp
 have hi0:(0≤i)=True:=eq_true o1
 have hj0:(0≤j)=True:=eq_true o2
 have mi:=z1b o3
 have mj:=z1b o4
 simp only [trA,p2A,keyA,keyL,List.map_cons,List.map_nil] at ho ⊢
 refine zy.of Tryd.func28 rfl 38 rfl (by decide) (by simp [AV.okB]) ?_
 repeat' (first|refine T.zk fun K hK=>?_|apply T.block|(refine T.reg (by kernel_rfl) fun K' hK'=>?_;simp only [bz];(repeat' (first|(with_reducible refine WL.fin ?_;apply hK';clear hK' K')|((with_reducible refine WL.step fun K2 hK2=>?_);simp only [simprocAttr,implies_true,amz,zb,tys];(repeat' (first|with_reducible (first|(apply hK2;clear hK2 K2)|apply And.intro|intro hb)|((with_reducible first|apply zh|apply zl);case h=>exact CallV.plain (Ent.of Tryd.func51 (by kernel_rfl) rfl) (ho) (by simp [AV.okB]))))))))|apply T.skip|apply T.exit|refine T.zf rfl ?_|refine T.ze rfl ?_|refine T.cond rfl (fun hc=>?_) (fun hc=>?_)|apply T.ret|simp only [za,z8,reduceIte,Nat.reduceEqDiff]|((repeat ((fail_if_success apply hK);clear hK K));apply hK;clear hK K))
 refine T.inv (stOf l ss ps r i j e f) (by kernel_rfl) (by kernel_rfl) ?_ (fun b hcl=>?_) fun K' hK'=>?_
 ·simp only [stOf,cond_false,List.nil_append];refine zi.of' rfl ?_;simp only [wks,reduceIte,Nat.reduceEqDiff,ASt.okB,AV.okB,AO.zH,AV.zN,List.all_cons,List.all_nil,Nat.reduceLT,implies_true,List.nil_append,List.cons_append,cond_true,cond_false,and_self,zM,zQ,Bool.cond_self,Bool.and_self,AV.zF,AV.zW,AV.zD,AV.zq,AV.zC,List.map_cons,List.map_nil,evA,evC,List.map_cons,List.map_nil,hlm,hi0,hj0,mi,mj]
 ·simp only [allL,Nat.reduceAdd]
  refine ⟨fun hb hd=>?_,fun hb hd=>?_,fun hb hd=>?_,fun hb hd=>?_,fun hb hd=>?_,fun hb hd=>?_,fun hb hd=>?_,fun hb hd=>?_,fun hb hd=>?_,fun hb hd=>?_,fun hb hd=>?_,fun hb hd=>?_,fun hb hd=>?_,fun hb hd=>?_,trivial⟩
  ·refine ⟨by trivial,by simp [zx,stOf],?_⟩
   simp only [simprocAttr,implies_true,amz,zb,tys,lkc,zS,Nat.reduceBEq,Bool.false_or,Bool.true_or,cond_true,cond_false,List.nil_append,List.cons_append,stOf,evA,evC,List.map_cons,List.map_nil,hlm,hi0,hj0,mi,mj]
   all_goals (refine zi.slots ?_;simp only [wks,reduceIte,Nat.reduceEqDiff,implies_true,cond_true,and_self])
  ·have d0:=zg hd (j := 0) (by decide) (by kernel_rfl);refine ⟨by trivial,by simp [zx,stOf],?_⟩
   simp only [simprocAttr,implies_true,amz,zb,tys,lkc,zS,Nat.reduceBEq,Bool.false_or,Bool.true_or,cond_true,cond_false,List.nil_append,List.cons_append,stOf,evA,evC,List.map_cons,List.map_nil,hlm,hi0,hj0,mi,mj,d0]
   all_goals (refine zi.slots ?_;simp only [wks,reduceIte,Nat.reduceEqDiff,implies_true,cond_true,and_self,d0])
  ·refine ⟨by trivial,by simp [zx,stOf],?_⟩
   simp only [simprocAttr,implies_true,amz,zb,tys,lkc,zS,Nat.reduceBEq,Bool.false_or,Bool.true_or,cond_true,cond_false,List.nil_append,List.cons_append,stOf,evA,evC,List.map_cons,List.map_nil,hlm,hi0,hj0,mi,mj]
   all_goals (refine zi.slots ?_;simp only [wks,reduceIte,Nat.reduceEqDiff,implies_true,cond_true,and_self])
  ·have d1:=zg hd (j := 1) (by decide) (by kernel_rfl);have d2:=zg hd (j := 2) (by decide) (by kernel_rfl);refine ⟨by trivial,by simp [zx,stOf],?_⟩
   simp only [simprocAttr,implies_true,amz,zb,tys,lkc,zS,Nat.reduceBEq,Bool.false_or,Bool.true_or,cond_true,cond_false,List.nil_append,List.cons_append,stOf,evA,evC,List.map_cons,List.map_nil,hlm,hi0,hj0,mi,mj,d1,d2]
   all_goals (refine zi.slots ?_;simp only [wks,reduceIte,Nat.reduceEqDiff,implies_true,cond_true,and_self,d1,d2])
  ·have d3:=zg hd (j := 3) (by decide) (by kernel_rfl);refine ⟨by trivial,by simp [zx,stOf],?_⟩
   simp only [simprocAttr,implies_true,amz,zb,tys,lkc,zS,Nat.reduceBEq,Bool.false_or,Bool.true_or,cond_true,cond_false,List.nil_append,List.cons_append,stOf,evA,evC,List.map_cons,List.map_nil,hlm,hi0,hj0,mi,mj,d3]
   all_goals (refine zi.slots ?_;simp only [wks,reduceIte,Nat.reduceEqDiff,implies_true,cond_true,and_self,d3])
  ·refine ⟨by trivial,by simp [zx,stOf],?_⟩
   simp only [simprocAttr,implies_true,amz,zb,tys,lkc,zS,Nat.reduceBEq,Bool.false_or,Bool.true_or,cond_true,cond_false,List.nil_append,List.cons_append,stOf,evA,evC,List.map_cons,List.map_nil,hlm,hi0,hj0,mi,mj]
   all_goals (refine zi.slots ?_;simp only [wks,reduceIte,Nat.reduceEqDiff,implies_true,cond_true,and_self])
  ·have d5:=zg hd (j := 5) (by decide) (by kernel_rfl);refine ⟨by trivial,by simp [zx,stOf],?_⟩
   simp only [simprocAttr,implies_true,amz,zb,tys,lkc,zS,Nat.reduceBEq,Bool.false_or,Bool.true_or,cond_true,cond_false,List.nil_append,List.cons_append,stOf,evA,evC,List.map_cons,List.map_nil,hlm,hi0,hj0,mi,mj,d5]
   all_goals (refine zi.slots ?_;simp only [wks,reduceIte,Nat.reduceEqDiff,implies_true,cond_true,and_self,d5])
  ·refine ⟨by trivial,by simp [zx,stOf],?_⟩
   simp only [simprocAttr,implies_true,amz,zb,tys,lkc,zS,Nat.reduceBEq,Bool.false_or,Bool.true_or,cond_true,cond_false,List.nil_append,List.cons_append,stOf,evA,evC,List.map_cons,List.map_nil,hlm,hi0,hj0,mi,mj]
   all_goals (refine zi.slots ?_;simp only [wks,reduceIte,Nat.reduceEqDiff,implies_true,cond_true,and_self])
  ·have d6:=zg hd (j := 6) (by decide) (by kernel_rfl);have d7:=zg hd (j := 7) (by decide) (by kernel_rfl);refine ⟨by trivial,by simp [zx,stOf],?_⟩
   simp only [simprocAttr,implies_true,amz,zb,tys,lkc,zS,Nat.reduceBEq,Bool.false_or,Bool.true_or,cond_true,cond_false,List.nil_append,List.cons_append,stOf,evA,evC,List.map_cons,List.map_nil,hlm,hi0,hj0,mi,mj,d6,d7]
   all_goals (refine zi.slots ?_;simp only [wks,reduceIte,Nat.reduceEqDiff,implies_true,cond_true,and_self,d6,d7])
  ·have d8:=zg hd (j := 8) (by decide) (by kernel_rfl);refine ⟨by trivial,by simp [zx,stOf],?_⟩
   simp only [simprocAttr,implies_true,amz,zb,tys,lkc,zS,Nat.reduceBEq,Bool.false_or,Bool.true_or,cond_true,cond_false,List.nil_append,List.cons_append,stOf,evA,evC,List.map_cons,List.map_nil,hlm,hi0,hj0,mi,mj,d8]
   all_goals (refine zi.slots ?_;simp only [wks,reduceIte,Nat.reduceEqDiff,implies_true,cond_true,and_self,d8])
  ·have h3:b 12=false:=by
    cases h:b 12 with
    | false=>rfl
    | true =>
     have h4:=zg (hcl 12 (by decide) h) (j := 10) (by decide) (by kernel_rfl)
     rw [hb] at h4;cases h4
   refine ⟨by trivial,by simp [zx,stOf],?_⟩
   cases h1:b 11 <;> cases h2:b 13 <;> (simp only [simprocAttr,implies_true,amz,zb,tys,lkc,zS,Nat.reduceBEq,Bool.false_or,Bool.true_or,cond_true,cond_false,List.nil_append,List.cons_append,stOf,evA,evC,List.map_cons,List.map_nil,hlm,hi0,hj0,mi,mj,hb,h1,h2,h3];refine (zi.ren _ 5 3).trans ?_;simp only [ASt.ren,AV.zZ,AV.zF,AV.qd,AV.qz,AV.zW,AV.zD,AV.zq,AV.qc,AV.qR,AV.zC,AV.qj,AO.qD,AO.qG,AO.qE,AO.qF,List.map_cons,List.map_nil,List.filter_cons,List.filter_nil,zm,qy,reduceIte,Nat.reduceEqDiff,Nat.reduceLT,Nat.reduceBneDiff,bne_self_eq_false,Bool.and_true,Bool.and_false,Bool.true_and,Bool.false_and,Bool.and_self,Bool.false_eq_true,ne_eq,not_false_eq_true,not_true_eq_false,and_self,and_true,true_and,and_false];refine zi.of' rfl ?_;simp only [wks,reduceIte,Nat.reduceEqDiff,ASt.okB,AV.okB,AO.zH,AV.zN,List.all_cons,List.all_nil,Nat.reduceLT,implies_true,List.nil_append,List.cons_append,cond_true,cond_false,and_self,zM,zQ,Bool.cond_self,Bool.and_self,AV.zF,AV.zW,AV.zD,AV.zq,AV.zC,List.map_cons,List.map_nil,evA,evC,List.map_cons,List.map_nil,hlm,hi0,hj0,mi,mj])
  ·have h3:b 13=false:=by
    cases h:b 13 with
    | false=>rfl
    | true =>
     have h4:=zg (hcl 13 (by decide) h) (j := 11) (by decide) (by kernel_rfl)
     rw [hb] at h4;cases h4
   refine ⟨by trivial,by simp [zx,stOf],?_⟩
   cases h1:b 10 <;> cases h2:b 12 <;> (simp only [simprocAttr,implies_true,amz,zb,tys,lkc,zS,Nat.reduceBEq,Bool.false_or,Bool.true_or,cond_true,cond_false,List.nil_append,List.cons_append,stOf,evA,evC,List.map_cons,List.map_nil,hlm,hi0,hj0,mi,mj,hb,h1,h2,h3];refine (zi.ren _ 5 4).trans ?_;simp only [ASt.ren,AV.zZ,AV.zF,AV.qd,AV.qz,AV.zW,AV.zD,AV.zq,AV.qc,AV.qR,AV.zC,AV.qj,AO.qD,AO.qG,AO.qE,AO.qF,List.map_cons,List.map_nil,List.filter_cons,List.filter_nil,zm,qy,reduceIte,Nat.reduceEqDiff,Nat.reduceLT,Nat.reduceBneDiff,bne_self_eq_false,Bool.and_true,Bool.and_false,Bool.true_and,Bool.false_and,Bool.and_self,Bool.false_eq_true,ne_eq,not_false_eq_true,not_true_eq_false,and_self,and_true,true_and,and_false];refine zi.of' rfl ?_;simp only [wks,reduceIte,Nat.reduceEqDiff,ASt.okB,AV.okB,AO.zH,AV.zN,List.all_cons,List.all_nil,Nat.reduceLT,implies_true,List.nil_append,List.cons_append,cond_true,cond_false,and_self,zM,zQ,Bool.cond_self,Bool.and_self,AV.zF,AV.zW,AV.zD,AV.zq,AV.zC,List.map_cons,List.map_nil,evA,evC,List.map_cons,List.map_nil,hlm,hi0,hj0,mi,mj])
  ·have d10:=zg hd (j := 10) (by decide) (by kernel_rfl);have d4:=zg hd (j := 4) (by decide) (by kernel_rfl)
   refine ⟨by trivial,by simp [zx,stOf],?_⟩
   cases h1:b 11 <;> cases h2:b 13 <;> (simp only [simprocAttr,implies_true,amz,zb,tys,lkc,zS,Nat.reduceBEq,Bool.false_or,Bool.true_or,cond_true,cond_false,List.nil_append,List.cons_append,stOf,evA,evC,List.map_cons,List.map_nil,hlm,hi0,hj0,mi,mj,hb,h1,h2,d10,d4];refine zi.of' rfl ?_;simp only [wks,reduceIte,Nat.reduceEqDiff,ASt.okB,AV.okB,AO.zH,AV.zN,List.all_cons,List.all_nil,Nat.reduceLT,implies_true,List.nil_append,List.cons_append,cond_true,cond_false,and_self,zM,zQ,Bool.cond_self,Bool.and_self,AV.zF,AV.zW,AV.zD,AV.zq,AV.zC,List.map_cons,List.map_nil,evA,evC,List.map_cons,List.map_nil,hlm,hi0,hj0,mi,mj])
  ·have d11:=zg hd (j := 11) (by decide) (by kernel_rfl);have d9:=zg hd (j := 9) (by decide) (by kernel_rfl)
   refine ⟨by trivial,by simp [zx,stOf],?_⟩
   cases h1:b 10 <;> cases h2:b 12 <;> (simp only [simprocAttr,implies_true,amz,zb,tys,lkc,zS,Nat.reduceBEq,Bool.false_or,Bool.true_or,cond_true,cond_false,List.nil_append,List.cons_append,stOf,evA,evC,List.map_cons,List.map_nil,hlm,hi0,hj0,mi,mj,hb,h1,h2,d11,d9];refine zi.of' rfl ?_;simp only [wks,reduceIte,Nat.reduceEqDiff,ASt.okB,AV.okB,AO.zH,AV.zN,List.all_cons,List.all_nil,Nat.reduceLT,implies_true,List.nil_append,List.cons_append,cond_true,cond_false,and_self,zM,zQ,Bool.cond_self,Bool.and_self,AV.zF,AV.zW,AV.zD,AV.zq,AV.zC,List.map_cons,List.map_nil,evA,evC,List.map_cons,List.map_nil,hlm,hi0,hj0,mi,mj])
 apply hK';clear hK' K';simp only [stOf,List.length_cons,List.length_nil,Nat.reduceAdd,Nat.reduceLT,decide_true,cond_true,List.cons_append,List.nil_append];(try simp only [za,z8,reduceIte,Nat.reduceEqDiff]);(try ((repeat ((fail_if_success apply hK);clear hK K));apply hK;clear hK K))
 all_goals repeat' (first|refine T.zk fun K hK=>?_|apply T.block|(refine T.reg (by kernel_rfl) fun K' hK'=>?_;simp only [bz];(with_reducible repeat' (first|(apply WL.fin;apply hK';clear hK' K')|(refine WL.step fun K2 hK2=>?_;simp only [simprocAttr,implies_true,amz,zb,tys,evC,List.map_cons,List.map_nil];repeat' (first|(apply hK2;clear hK2 K2)|apply And.intro|intro hb)))))|apply T.skip|apply T.exit|refine T.zf rfl ?_|refine T.ze rfl ?_|refine T.cond rfl (fun hc=>?_) (fun hc=>?_)|apply T.ret|simp only [za,z8,reduceIte,Nat.reduceEqDiff]|((repeat ((fail_if_success apply hK);clear hK K));apply hK;clear hK K))
 all_goals (refine qf.ret (.inr rfl) Tryd.results28 ?_;simp only [zR,zA,zB,simprocAttr,implies_true,amz,zb,tys,])
theorem ofR_ok (l:List Ev) (ss:List P2) (ps:List Int) (r:P2) (e f:Ev) (h:Rac l r e f):zy Tryd.prog 28 [trA l ss ps,p2A r] (keyA (keyL (loE e f) (hiE e f))) :=
 let ⟨o1,o2,o3,o4⟩:=ordI_at h
 ofR_go l ss ps r _ _ _ _ o1 o2 o3 o4 (z4X l ss ps r e f h)
def z2X (a b:P2):Bool:=decide (a.2<b.2)||(a.2==b.2&&decide (a.1<b.1))
theorem z8o (a b:P2):zy Tryd.prog 30 [p2A a,p2A b] (.bool (z2X a b)):=by
 simp only [p2A]
 refine zy.of Tryd.func30 rfl 24 rfl (by decide) (by simp [AV.okB]) ?_
 repeat' (first|refine T.zk fun K hK=>?_|apply T.block|(refine T.reg (by kernel_rfl) fun K' hK'=>?_;simp only [bz];(with_reducible repeat' (first|(apply WL.fin;apply hK';clear hK' K')|(refine WL.step fun K2 hK2=>?_;simp only [simprocAttr,implies_true,amz,zb,tys];repeat' (first|(apply hK2;clear hK2 K2)|apply And.intro|intro hb)))))|apply T.skip|apply T.exit|refine T.zf rfl ?_|refine T.ze rfl ?_|refine T.cond rfl (fun hc=>?_) (fun hc=>?_)|apply T.ret|simp only [za,z8,reduceIte,Nat.reduceEqDiff]|((repeat ((fail_if_success apply hK);clear hK K));apply hK;clear hK K))
 all_goals (refine qf.ret (.inr rfl) Tryd.results30 ?_;simp only [zR,zA,zB,simprocAttr,implies_true,amz,zb,tys,];first|(simp [z2X, *];done)|(simp_all [z2X];done)|(simp_all [z2X];omega))
end Go.Proofs.YtbkkginjfnjffaaDoor
